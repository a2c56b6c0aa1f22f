/-
  The statement's own function, evaluated.
-/
import Derived.Test.YtjofkjbpiaihbaaDoorR1Fm
set_option maxRecDepth 1000000
namespace Go.R1
open Go Go.AEv Go.Proofs

def sFixed : FSpec Ob := fun args m K _ => match args with
  | [] => K (.s (.b true)) m
  | _ => False
/-- Lay, where its bytes are known by a statement. -/
def sLayE : FSpec Ob := fun args m K _ => match args with
  | [.ptr r 0, .sl i off _ n _] => match nth m r with
    | some (.ext (.ram f)) => ∃ l, layCells m i off n = some l ∧ match Nat.ble n 1048576 with
      | true => K (.s (.b true)) (setAt m r (.ext (.ram (layF l f))))
      | false => K (.s (.b false)) m
    | _ => False
  | _ => False
theorem layE_sound : FSound ctx 17 sLayE := lay_sound.weaken fun args m K Kp h => by
  unfold sLayE at h
  unfold sLay
  split at h
  case h_2 => exact h.elim
  rename_i r i off es n cap
  split at h
  case h_2 => exact h.elim
  rename_i f hr
  obtain ⟨l, hl, h⟩ := h
  simp only [hr, hl]
  exact h
noncomputable def E7 : Lib Ob := (((((L6.add 17 sLayE).add 16 (inl L6 Tryd.f16)).add 18 (inl L6 Tryd.f18)).add 19 (inl L6 Tryd.f19)).add 20 (inl L6 Tryd.f20)).add 28 (inl L6 Tryd.f28)
theorem E7_sound : LibSound ctx E7 :=
  (((((L6_sound.add layE_sound).add (aFun_sound L6_sound (noLoops ctx) mix Tryd.func16 Tryd.call16 400 20)).add (aFun_sound L6_sound (noLoops ctx) mix Tryd.func18 Tryd.call18 400 20)).add (aFun_sound L6_sound (noLoops ctx) mix Tryd.func19 Tryd.call19 400 20)).add
    (aFun_sound L6_sound (noLoops ctx) mix Tryd.func20 Tryd.call20 400 20)).add (aFun_sound L6_sound (noLoops ctx) mix Tryd.func28 Tryd.call28 400 20)
noncomputable def E8 : Lib Ob := ((E7.add 5 (inl E7 Tryd.f5)).add 9 (inl E7 Tryd.f9)).add 4 sFixed
/-- Eight bytes, written. -/
def wr8 (g : BitVec 64 → BitVec 8) (x v : BitVec 64) : BitVec 64 → BitVec 8 :=
  updF (updF (updF (updF (updF (updF (updF (updF g (x + BitVec.ofInt 64 0) (BitVec.setWidth 8 (v >>> 0))) (x + BitVec.ofInt 64 1) (BitVec.setWidth 8 (v >>> 8))) (x + BitVec.ofInt 64 2) (BitVec.setWidth 8 (v >>> 16))) (x + BitVec.ofInt 64 3) (BitVec.setWidth 8 (v >>> 24))) (x + BitVec.ofInt 64 4) (BitVec.setWidth 8 (v >>> 32))) (x + BitVec.ofInt 64 5) (BitVec.setWidth 8 (v >>> 40))) (x + BitVec.ofInt 64 6) (BitVec.setWidth 8 (v >>> 48))) (x + BitVec.ofInt 64 7) (BitVec.setWidth 8 (v >>> 56))
def wrT {β : Sort _} (cont : (BitVec 64 → BitVec 8) → β) (bad : β) (g : BitVec 64 → BitVec 8) (x v : BitVec 64) : β :=
  match hasF x 8 with
  | true => (match !(hasF x 8) with
    | true => cont g
    | false => cont (wr8 g x v))
  | false => bad
def leafEq (a b : Leaf) : Bool := (a.ad == b.ad) && ((a.lv == b.lv) && ((a.en == b.en) && ((a.fr == b.fr) && true)))
def leaf0 : Leaf := ⟨0#64, 0, 0#64, 0#64⟩
def ws5 {β : Sort _} (K : Bool → β) (y' x : BitVec 64) (W4 : Leaf × BitVec 64) : β :=
  K (bif (bif W4.2 == 0#64 then W4.1.ad == (((y' >>> 10) <<< 12) ||| (x &&& 4095#64)) else false) then W4.1.en == y' else false)
def ws4 {β : Sort _} (K : Bool → β) (bad : β) (r : Csr) (g3 : BitVec 64 → BitVec 8) (mode kind : Int) (x y v : BitVec 64) (W W1 W2 W3 : Leaf × BitVec 64) : β :=
  match W1.2 != pageF kind with
  | true => K false
  | false => (match (bif (bif (bif false then true else W2.2 != pageF kind) then true else W3.2 != 0#64) then true else !(leafEq W3.1 W.1)) with
    | true => K false
    | false => (match W.1.lv == 0 with
      | true => wrT (fun g4 => ws5 K (((y &&& 17592186044415#64) <<< 10) ||| (v &&& 1023#64)) x (walkF r g4 mode kind x)) bad g3 W.1.fr (((y &&& 17592186044415#64) <<< 10) ||| (v &&& 1023#64))
      | false => K true))
def ws3 {β : Sort _} (K : Bool → β) (bad : β) (r : Csr) (g : BitVec 64 → BitVec 8) (mode kind : Int) (x y v : BitVec 64) (W : Leaf × BitVec 64) : β :=
  wrT (fun g1 => wrT (fun g2 => wrT (fun g3 => ws4 K bad r g3 mode kind x y v W (walkF r g1 mode kind x) (walkF r g2 mode kind x) (walkF r g3 mode kind x)) bad g2 W.1.fr v) bad g1 W.1.fr (v &&& ~~~64#64)) bad g W.1.fr (v &&& ~~~1#64)
def ws2 {β : Sort _} (K : Bool → β) (bad : β) (r : Csr) (g : BitVec 64 → BitVec 8) (mode kind : Int) (x y v : BitVec 64) (W : Leaf × BitVec 64) : β :=
  match v != W.1.en with
  | true => K false
  | false => (match !(allowsF (r.u.getD 0 0#64) mode kind v) with
    | true => K false
    | false => (match ilt (IntKind.i64.wrap (9 * W.1.lv)) 0 with
      | true => bad
      | false => (match ilt (IntKind.i64.wrap (9 * W.1.lv)) 0 with
        | true => bad
        | false => (match ((W.1.ad >>> 12) >>> (IntKind.i64.wrap (9 * W.1.lv)).toNat) != (((v >>> 10) &&& 17592186044415#64) >>> (IntKind.i64.wrap (9 * W.1.lv)).toNat) with
          | true => K false
          | false => ws3 K bad r g mode kind x y v W))))
def ws1 {β : Sort _} (K : Bool → β) (bad : β) (r : Csr) (g : BitVec 64 → BitVec 8) (mode kind : Int) (x y : BitVec 64) : β :=
  match (bif (walkF r g mode kind x).2 != 0#64 then true else ilt (walkF r g mode kind x).1.lv 0) with
  | true => K (bif (walkF r g mode kind x).2 == 0#64 then true else leafEq (walkF r g mode kind x).1 leaf0)
  | false => (match hasF (walkF r g mode kind x).1.fr 8 with
    | true => ws2 K bad r g mode kind x y (readF g (walkF r g mode kind x).1.fr) (walkF r g mode kind x)
    | false => bad)
theorem ws_eval (m0 m1 m2 m3 m4 m5 m6 m7 m8 m9 m10 m11 m12 m13 m14 m15 m16 m17 m18 m19 m20 m21 : BitVec 64) (c0 c1 c2 c3 c4 c5 c6 c7 : BitVec 8) (a0 a1 a2 a3 a4 a5 a6 a7 : BitVec 64) (n : Nat) (cap : Option Nat) (cs : List SV) (mode kind : Int) (x y : BitVec 64) (K Kp : AV → List (Blk Ob) → Prop) :
    aFun ctx.P E8 none ctx.scp Tryd.f3 800 0 [.sl 0 0 1 n cap, .agg [.s (.u64 m0), .s (.u64 m1), .s (.u64 m2), .s (.u64 m3), .s (.u64 m4), .s (.u64 m5), .s (.u64 m6), .s (.u64 m7), .s (.u64 m8), .s (.u64 m9), .s (.u64 m10), .s (.u64 m11), .s (.u64 m12), .s (.u64 m13), .s (.u64 m14), .s (.u64 m15), .s (.u64 m16), .s (.u64 m17), .s (.u64 m18), .s (.u64 m19), .s (.u64 m20), .s (.u64 m21), .s (.u8 c0), .s (.u8 c1), .s (.u8 c2), .s (.u8 c3), .s (.u8 c4), .s (.u8 c5), .s (.u8 c6), .s (.u8 c7), .s (.u64 a0), .s (.u64 a1), .s (.u64 a2), .s (.u64 a3), .s (.u64 a4), .s (.u64 a5), .s (.u64 a6), .s (.u64 a7)], .s (.i .i64 mode), .s (.i .i64 kind), .s (.u64 x), .s (.u64 y)] [.ro cs] K Kp
    = ∃ l, layCells [.ro cs] 0 0 n = some l ∧ match Nat.ble n 1048576 with
      | true => ws1 (fun b => K (.s (.b b)) [.ro cs]) False ⟨[m0, m1, m2, m3, m4, m5, m6, m7, m8, m9, m10, m11, m12, m13, m14, m15, m16, m17, m18, m19, m20, m21], [c0, c1, c2, c3, c4, c5, c6, c7], [a0, a1, a2, a3, a4, a5, a6, a7]⟩ (layF l fun _ => 0#8) mode kind x y
      | false => K (.s (.b true)) [.ro cs] := by kernel_rfl
end Go.R1
