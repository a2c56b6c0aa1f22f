/-
  The small functions: what their evaluation comes to.
-/
import Derived.Test.YtjofkjbpiaihbaaDoorR1Mem
set_option maxRecDepth 100000
namespace Go.R1
open Go Go.AEv Go.Proofs

theorem mix : ctx.P.follows .mixedOrders = true := by kernel_rfl
noncomputable def L0 : Lib Ob := (((Lib.empty Ob).add 35 sGet).add 31 sPut).add 42 sTz
theorem L0_sound : LibSound ctx L0 := ((Lib.empty_sound.add get_sound).add put_sound).add tz_sound

/-! ### Has -/
def hasT {β : Sort _} (K : AV → β) (x : BitVec 64) (size : Int) : β :=
  match decide (size = 1) with
  | true => (match decide (size = 1) with
    | true => K (.s (.b (bif bule (2147483648#64) x then bule x ((2148532224#64).sub (BitVec.ofInt 64 size)) else false)))
    | false => K (.s (.b false)))
  | false => (match decide (size = 2) with
    | true => (match decide (size = 2) with
      | true => K (.s (.b (bif bule (2147483648#64) x then bule x ((2148532224#64).sub (BitVec.ofInt 64 size)) else false)))
      | false => K (.s (.b false)))
    | false => (match decide (size = 4) with
      | true => (match decide (size = 4) with
        | true => K (.s (.b (bif bule (2147483648#64) x then bule x ((2148532224#64).sub (BitVec.ofInt 64 size)) else false)))
        | false => K (.s (.b false)))
      | false => (match decide (size = 8) with
        | true => K (.s (.b (bif bule (2147483648#64) x then bule x ((2148532224#64).sub (BitVec.ofInt 64 size)) else false)))
        | false => K (.s (.b false)))))
def asB : AV → Bool
  | .s (.b b) => b
  | _ => false
def asU : AV → BitVec 64
  | .s (.u64 b) => b
  | _ => 0#64
def asU8 : AV → BitVec 8
  | .s (.u8 b) => b
  | _ => 0#8
def hasF (x : BitVec 64) (size : Int) : Bool := hasT asB x size
theorem has_comm {β : Sort _} (K : AV → β) (x : BitVec 64) (size : Int) : hasT K x size = K (.s (.b (hasF x size))) := by
  unfold hasF hasT
  repeat' split
  all_goals rfl
theorem has_eval (p : AV) (x : BitVec 64) (size : Int) (K : AV → Prop) (Kp : AV → List (Blk Ob) → Prop) :
    aFun Tryd.prog L0 none (fun _ _ => true) Tryd.f34 200 0 [p, .s (.u64 x), .s (.i .i64 size)] [] (fun v _ => K v) Kp = hasT K x size := by kernel_rfl
def sHas : FSpec Ob := fun args m K _ => match args with
  | [_, .s (.u64 x), .s (.i .i64 size)] => K (.s (.b (hasF x size))) m
  | _ => False
theorem has_sound : FSound ctx 34 sHas := by
  refine (aFun_sound L0_sound (noLoops ctx) mix Tryd.func34 Tryd.call34 200 0).closed fun args m K Kp h => ?_
  unfold sHas at h
  split at h
  · rename_i p x size
    refine (has_eval (clos p) x size _ _).mpr ?_
    rw [has_comm]
    exact ⟨rfl, h⟩
  · exact h.elim
end Go.R1
