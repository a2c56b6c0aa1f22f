/-
  Walk.
-/
import Derived.Test.YtjofkjbpiaihbaaDoorR1Fg
set_option maxRecDepth 100000
namespace Go.R1
open Go Go.AEv Go.Proofs

noncomputable def L5 : Lib Ob := L4.add 7 sBusRead
theorem L5_sound : LibSound ctx L5 := L4_sound.add busRead_sound
/-- A leaf: address, level, entry, from. -/
structure Leaf where
  ad : BitVec 64
  lv : Int
  en : BitVec 64
  fr : BitVec 64
def leafAV (l : Leaf) : AV := .agg [.s (.u64 l.ad), .s (.i .i64 l.lv), .s (.u64 l.en), .s (.u64 l.fr)]
def wkEnd {β : Sort _} (K : Leaf → BitVec 64 → β) (ms : BitVec 64) (mode kind : Int) (at_ table e fr : BitVec 64) (lvl : Nat) : β :=
  match (bif !(allowsF ms mode kind e) then true else (table &&& ((1#64 <<< (9 * lvl)) - 1#64)) != 0#64) with
  | true => K ⟨0#64, 0, 0#64, 0#64⟩ (pageF kind)
  | false => K ⟨(table <<< 12) + (at_ &&& ((((1#64 <<< (9 * lvl)) - 1#64) <<< 12) ||| 4095#64)), Int.ofNat lvl, e, fr⟩ 0#64
/-- What would come below the last level: nothing comes to it. -/
def wkM {β : Sort _} (K : Leaf → BitVec 64 → β) (bad : β) (cl : List (BitVec 8)) (al : List (BitVec 64)) (f : BitVec 64 → BitVec 8) (kind : Int) (at_ : BitVec 64) (table : BitVec 64) : β :=
  (match !(checkF cl al 1 1 ((table <<< 12) + ((at_ >>> 3) &&& 511#64) * 8#64) 8) with
  | true => K ⟨0#64, 0, 0#64, 0#64⟩ (faultF kind)
  | false => (match !(hasF ((table <<< 12) + ((at_ >>> 3) &&& 511#64) * 8#64) 8) with
    | true => K ⟨0#64, 0, 0#64, 0#64⟩ (faultF kind)
    | false => (match hasF ((table <<< 12) + ((at_ >>> 3) &&& 511#64) * 8#64) 8 with
      | true => (match (bif (bif ((readF f ((table <<< 12) + ((at_ >>> 3) &&& 511#64) * 8#64)) &&& 1#64) == 0#64 then true else ((readF f ((table <<< 12) + ((at_ >>> 3) &&& 511#64) * 8#64)) &&& 6#64) == 4#64) then true else ((readF f ((table <<< 12) + ((at_ >>> 3) &&& 511#64) * 8#64)) >>> 54) != 0#64) with
        | true => K ⟨0#64, 0, 0#64, 0#64⟩ (pageF kind)
        | false => (match ((readF f ((table <<< 12) + ((at_ >>> 3) &&& 511#64) * 8#64)) &&& 10#64) == 0#64 with
          | true => (match (bif ((readF f ((table <<< 12) + ((at_ >>> 3) &&& 511#64) * 8#64)) &&& 208#64) != 0#64 then true else false) with
            | true => K ⟨0#64, 0, 0#64, 0#64⟩ (pageF kind)
            | false => bad)
          | false => bad))
      | false => bad)))
def wkL {β : Sort _} (K : Leaf → BitVec 64 → β) (bad : β) (ms : BitVec 64) (cl : List (BitVec 8)) (al : List (BitVec 64)) (f : BitVec 64 → BitVec 8) (mode kind : Int) (at_ : BitVec 64) : Nat → BitVec 64 → β
  | lvl, table =>
    (match !(checkF cl al 1 1 ((table <<< 12) + ((at_ >>> (12 + 9 * lvl)) &&& 511#64) * 8#64) 8) with
    | true => K ⟨0#64, 0, 0#64, 0#64⟩ (faultF kind)
    | false => (match !(hasF ((table <<< 12) + ((at_ >>> (12 + 9 * lvl)) &&& 511#64) * 8#64) 8) with
      | true => K ⟨0#64, 0, 0#64, 0#64⟩ (faultF kind)
      | false => (match hasF ((table <<< 12) + ((at_ >>> (12 + 9 * lvl)) &&& 511#64) * 8#64) 8 with
        | true => (match (bif (bif ((readF f ((table <<< 12) + ((at_ >>> (12 + 9 * lvl)) &&& 511#64) * 8#64)) &&& 1#64) == 0#64 then true else ((readF f ((table <<< 12) + ((at_ >>> (12 + 9 * lvl)) &&& 511#64) * 8#64)) &&& 6#64) == 4#64) then true else ((readF f ((table <<< 12) + ((at_ >>> (12 + 9 * lvl)) &&& 511#64) * 8#64)) >>> 54) != 0#64) with
          | true => K ⟨0#64, 0, 0#64, 0#64⟩ (pageF kind)
          | false => (match ((readF f ((table <<< 12) + ((at_ >>> (12 + 9 * lvl)) &&& 511#64) * 8#64)) &&& 10#64) == 0#64 with
            | true => (match (bif ((readF f ((table <<< 12) + ((at_ >>> (12 + 9 * lvl)) &&& 511#64) * 8#64)) &&& 208#64) != 0#64 then true else Nat.beq lvl 0) with
              | true => K ⟨0#64, 0, 0#64, 0#64⟩ (pageF kind)
              | false => (match lvl with
                | 0 => wkM K bad cl al f kind at_ (((readF f ((table <<< 12) + ((at_ >>> (12 + 9 * lvl)) &&& 511#64) * 8#64)) >>> 10) &&& 17592186044415#64)
                | l + 1 => wkL K bad ms cl al f mode kind at_ l (((readF f ((table <<< 12) + ((at_ >>> (12 + 9 * lvl)) &&& 511#64) * 8#64)) >>> 10) &&& 17592186044415#64)))
            | false => wkEnd K ms mode kind at_ (((readF f ((table <<< 12) + ((at_ >>> (12 + 9 * lvl)) &&& 511#64) * 8#64)) >>> 10) &&& 17592186044415#64) (readF f ((table <<< 12) + ((at_ >>> (12 + 9 * lvl)) &&& 511#64) * 8#64)) ((table <<< 12) + ((at_ >>> (12 + 9 * lvl)) &&& 511#64) * 8#64) lvl))
        | false => bad)))
def wkT {β : Sort _} (K : Leaf → BitVec 64 → β) (bad : β) (ms satp : BitVec 64) (cl : List (BitVec 8)) (al : List (BitVec 64)) (f : BitVec 64 → BitVec 8) (mode kind : Int) (at_ : BitVec 64) : β :=
  match (bif mode == 3 then true else (satp >>> 60) != 8#64) with
  | true => K ⟨at_, -1, 0#64, 0#64⟩ 0#64
  | false => (match (IntKind.i64.wrap (Int.ofNat (at_ <<< 25).toNat)).fdiv (2 ^ 25) != IntKind.i64.wrap (Int.ofNat at_.toNat) with
    | true => K ⟨0#64, 0, 0#64, 0#64⟩ (pageF kind)
    | false => wkL K bad ms cl al f mode kind at_ 2 (satp &&& 17592186044415#64))
theorem walk_eval (m0 m1 m2 m3 m4 m5 m6 m7 m8 m9 m10 m11 m12 m13 m14 m15 m16 m17 m18 m19 m20 m21 : BitVec 64) (c0 c1 c2 c3 c4 c5 c6 c7 : BitVec 8) (a0 a1 a2 a3 a4 a5 a6 a7 : BitVec 64) (f : BitVec 64 → BitVec 8) (mode kind : Int) (x : BitVec 64) (K Kp : AV → List (Blk Ob) → Prop) :
    aFun ctx.P L5 none ctx.scp Tryd.f6 400 0 [.ptr 0 0, .ptr 2 0, .s (.i .i64 mode), .s (.i .i64 kind), .s (.u64 x)] [.rrow busRow, .ext (.ramR f), .ro [.u64 m0, .u64 m1, .u64 m2, .u64 m3, .u64 m4, .u64 m5, .u64 m6, .u64 m7, .u64 m8, .u64 m9, .u64 m10, .u64 m11, .u64 m12, .u64 m13, .u64 m14, .u64 m15, .u64 m16, .u64 m17, .u64 m18, .u64 m19, .u64 m20, .u64 m21, .u8 c0, .u8 c1, .u8 c2, .u8 c3, .u8 c4, .u8 c5, .u8 c6, .u8 c7, .u64 a0, .u64 a1, .u64 a2, .u64 a3, .u64 a4, .u64 a5, .u64 a6, .u64 a7]] K Kp
    = wkT (fun l c => K (.tup [leafAV l, .s (.u64 c)]) [.rrow busRow, .ext (.ramR f), .ro [.u64 m0, .u64 m1, .u64 m2, .u64 m3, .u64 m4, .u64 m5, .u64 m6, .u64 m7, .u64 m8, .u64 m9, .u64 m10, .u64 m11, .u64 m12, .u64 m13, .u64 m14, .u64 m15, .u64 m16, .u64 m17, .u64 m18, .u64 m19, .u64 m20, .u64 m21, .u8 c0, .u8 c1, .u8 c2, .u8 c3, .u8 c4, .u8 c5, .u8 c6, .u8 c7, .u64 a0, .u64 a1, .u64 a2, .u64 a3, .u64 a4, .u64 a5, .u64 a6, .u64 a7]]) False m0 m20 [c0, c1, c2, c3, c4, c5, c6, c7] [a0, a1, a2, a3, a4, a5, a6, a7] f mode kind x := by kernel_rfl
end Go.R1
