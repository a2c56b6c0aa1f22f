/-
  Physical memory protection: whether an access may be made.
-/
import Derived.Test.YtjofkjbpiaihbaaDoorR1Fb
set_option maxRecDepth 100000
namespace Go.R1
open Go Go.AEv Go.Proofs

def needsT {β : Sort _} (K : BitVec 8 → β) (x : Int) : β :=
  match decide (x = 0) with
  | true => K 4#8
  | false => (match decide (x = 1) with
    | true => K 1#8
    | false => (match decide (x = 2) with
      | true => K 2#8
      | false => (match decide (x = 3) with
        | true => K 3#8
        | false => K 0#8)))
def needsF (x : Int) : BitVec 8 := needsT id x
theorem needs_comm {β : Sort _} (K : BitVec 8 → β) (x : Int) : needsT K x = K (needsF x) := by
  unfold needsF needsT
  repeat' split
  all_goals rfl
theorem needs_eval (x : Int) (K Kp : AV → List (Blk Ob) → Prop) :
    aFun ctx.P L0 none ctx.scp Tryd.f32 200 0 (List.map clos [.s (.i .i64 x)]) [] K Kp = needsT (fun v => K (.s (.u8 v)) []) x := by kernel_rfl
def sNeeds : FSpec Ob := fun args m K _ => match args with
  | [.s (.i .i64 x)] => K (.s (.u8 (needsF x))) m
  | _ => False
theorem needs_sound : FSound ctx 32 sNeeds := by
  refine (aFun_sound L0_sound (noLoops ctx) mix Tryd.func32 Tryd.call32 200 0).closed fun args m K Kp h => ?_
  unfold sNeeds at h
  split at h
  · rw [needs_eval, needs_comm]; exact ⟨rfl, h⟩
  · exact h.elim

noncomputable def L2 : Lib Ob := (L1.add 33 sRange).add 32 sNeeds
theorem L2_sound : LibSound ctx L2 := (L1_sound.add range_sound).add needs_sound

/-- The rounds over the entries. -/
def ckL {β : Sort _} (K : Bool → β) (cl : List (BitVec 8)) (al : List (BitVec 64)) (mode : Int) (need : BitVec 8) (at_ last : BitVec 64) : Nat → Nat → β
  | 0, _ => K (mode == 3)
  | f + 1, k => match nth cl k, nth al k with
    | some c, some a =>
      (match (bif (bif !(rgR (prevOf al k) c (within a)).2.2 then true else bult last (rgR (prevOf al k) c (within a)).1) then true else bult (rgR (prevOf al k) c (within a)).2.1 at_) with
      | true => ckL K cl al mode need at_ last f (k + 1)
      | false => (match (bif bult at_ (rgR (prevOf al k) c (within a)).1 then true else bult (rgR (prevOf al k) c (within a)).2.1 last) with
        | true => K false
        | false => K (bif (bif mode == 3 then (c &&& 128#8) == 0#8 else false) then true else (c &&& need) == need)))
    | _, _ => K false
def ckR {β : Sort _} (K : Bool → β) (cl : List (BitVec 8)) (al : List (BitVec 64)) (mode : Int) (need : BitVec 8) (at_ last : BitVec 64) : β :=
  match (bif need == 0#8 then true else bult last at_) with
  | true => K false
  | false => ckL K cl al mode need at_ last 8 0
def ckT {β : Sort _} (K : Bool → β) (cl : List (BitVec 8)) (al : List (BitVec 64)) (mode kind : Int) (at_ : BitVec 64) (size : Int) : β :=
  match size == 1 with
  | true => (match size == 1 with
    | true => ckR K cl al mode (needsF kind) at_ (at_ + BitVec.ofInt 64 size - 1#64)
    | false => K false)
  | false => (match size == 2 with
    | true => (match size == 2 with
    | true => ckR K cl al mode (needsF kind) at_ (at_ + BitVec.ofInt 64 size - 1#64)
    | false => K false)
    | false => (match size == 4 with
      | true => (match size == 4 with
    | true => ckR K cl al mode (needsF kind) at_ (at_ + BitVec.ofInt 64 size - 1#64)
    | false => K false)
      | false => (match size == 8 with
    | true => ckR K cl al mode (needsF kind) at_ (at_ + BitVec.ofInt 64 size - 1#64)
    | false => K false)))
theorem check_eval (c0 c1 c2 c3 c4 c5 c6 c7 : BitVec 8) (a0 a1 a2 a3 a4 a5 a6 a7 : BitVec 64) (mode kind size : Int) (at_ : BitVec 64) (K Kp : AV → List (Blk Ob) → Prop) :
    aFun ctx.P L2 none ctx.scp Tryd.f21 400 0 (List.map clos [.agg (List.map (fun x => .s (.u8 x)) [c0, c1, c2, c3, c4, c5, c6, c7]), .agg (List.map (fun x => .s (.u64 x)) [a0, a1, a2, a3, a4, a5, a6, a7]), .s (.i .i64 mode), .s (.i .i64 kind), .s (.u64 at_), .s (.i .i64 size)]) [] K Kp
    = ckT (fun b => K (.s (.b b)) []) [c0, c1, c2, c3, c4, c5, c6, c7] [a0, a1, a2, a3, a4, a5, a6, a7] mode kind at_ size := by kernel_rfl
end Go.R1
