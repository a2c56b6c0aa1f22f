/-
  Physical memory protection: what is said of it.
-/
import Derived.Test.YtjofkjbpiaihbaaDoorR1Fc
set_option maxRecDepth 100000
namespace Go.R1
open Go Go.AEv Go.Proofs

theorem ckL_comm {β : Sort _} (K : Bool → β) (cl : List (BitVec 8)) (al : List (BitVec 64)) (mode : Int) (need : BitVec 8) (at_ last : BitVec 64) : ∀ (f k : Nat), ckL K cl al mode need at_ last f k = K (ckL id cl al mode need at_ last f k)
  | 0, _ => rfl
  | f + 1, k => by
    simp only [ckL]
    split
    · split
      · exact ckL_comm K cl al mode need at_ last f (k + 1)
      · split <;> rfl
    · rfl
theorem ckR_comm {β : Sort _} (K : Bool → β) (cl : List (BitVec 8)) (al : List (BitVec 64)) (mode : Int) (need : BitVec 8) (at_ last : BitVec 64) : ckR K cl al mode need at_ last = K (ckR id cl al mode need at_ last) := by
  unfold ckR
  split
  · rfl
  · exact ckL_comm ..
def checkF (cl : List (BitVec 8)) (al : List (BitVec 64)) (mode kind : Int) (at_ : BitVec 64) (size : Int) : Bool := ckT id cl al mode kind at_ size
theorem ckT_comm {β : Sort _} (K : Bool → β) (cl : List (BitVec 8)) (al : List (BitVec 64)) (mode kind : Int) (at_ : BitVec 64) (size : Int) : ckT K cl al mode kind at_ size = K (checkF cl al mode kind at_ size) := by
  unfold checkF ckT
  repeat' split
  all_goals first | rfl | exact ckR_comm ..
def sCheck : FSpec Ob := fun args m K _ => match args with
  | [.agg cs, .agg ads, .s (.i .i64 mode), .s (.i .i64 kind), .s (.u64 x), .s (.i .i64 size)] => match u8s cs, u64s ads with
    | some cl, some al => match Nat.beq cl.length 8, Nat.beq al.length 8 with
      | true, true => K (.s (.b (checkF cl al mode kind x size))) m
      | _, _ => False
    | _, _ => False
  | _ => False
theorem check_sound : FSound ctx 21 sCheck := by
  refine (aFun_sound L2_sound (noLoops ctx) mix Tryd.func21 Tryd.call21 400 0).closed fun args m K Kp h => ?_
  unfold sCheck at h
  split at h
  · rename_i cs ads mode kind x size
    split at h
    · rename_i cl al hc ha
      split at h
      · rename_i h1 h2
        have := u8s_eq hc; subst this
        have := u64s_eq ha; subst this
        obtain ⟨c0, c1, c2, c3, c4, c5, c6, c7, rfl⟩ := list8 (Nat.eq_of_beq_eq_true h1)
        obtain ⟨a0, a1, a2, a3, a4, a5, a6, a7, rfl⟩ := list8 (Nat.eq_of_beq_eq_true h2)
        rw [check_eval, ckT_comm]
        exact ⟨rfl, h⟩
      · exact h.elim
    · exact h.elim
  · exact h.elim
end Go.R1
