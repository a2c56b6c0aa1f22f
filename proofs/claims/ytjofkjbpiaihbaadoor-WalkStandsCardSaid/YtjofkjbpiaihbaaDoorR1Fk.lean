/-
  An image, laid.
-/
import Derived.Test.YtjofkjbpiaihbaaDoorR1Fj
import Derived.Test.YtjofkjbpiaihbaaDoorAEvT
set_option maxRecDepth 100000
namespace Go.R1
open Go Go.AEv Go.Proofs

/-- The first loop's code. -/
def loopOf : Code → Option Code
  | .loop b => some b
  | .seq a b => match loopOf a with
    | some x => some x
    | none => loopOf b
  | .block _ b => loopOf b
  | .scope b => loopOf b
  | .cond _ a b => match loopOf a with
    | some x => some x
    | none => loopOf b
  | _ => none
noncomputable def layBody : Code := match Tryd.f17.body with
  | some c => (loopOf c).getD .skip
  | none => .skip
def layDs : List Nat := [2, 3, 4, 5, 6, 7, 8, 9, 13, 14, 15, 16, 17, 18, 19, 20, 21, 22, 23]
def layEnv (cap : Option Nat) (n : Nat) (k : Int) : List AV :=
  [.ptr 0 0, .sl 1 0 1 n cap, .any, .any, .any, .any, .any, .any, .any, .any, .sl 1 0 1 n cap, .s (.i .i64 (.ofNat n)), .s (.i .i64 k), .any, .any, .any, .any, .any, .any, .any, .any, .any, .any, .any]
def layF (l : List (BitVec 8)) (f : BitVec 64 → BitVec 8) : BitVec 64 → BitVec 8 := fun x => match nth l (x - 2147483648#64).toNat with
  | some b => b
  | none => f x
noncomputable def L6 : Lib Ob := (L5.add 6 sWalk).add 15 sNew
theorem L6_sound : LibSound ctx L6 := (L5_sound.add walk_sound).add new_sound
theorem lay_round (cap : Option Nat) (n : Nat) (k : Int) (f : BitVec 64 → BitVec 8) (cs : List SV) (Q : AExit → List AV → List (Blk Ob) → Prop) (Kp : AV → List (Blk Ob) → Prop) :
    aev ctx.P L6 none Kp 60 layBody (layEnv cap n k) [.ext (.ram f), .ro cs] (fun e env' m' => Q e (dropS layDs env') m') =
    (match ilt k (.ofNat n) with
    | true => (match !(decide (0 ≤ k ∧ k < (n : Int))) with
      | true => False
      | false => (match !(hasAt cs (0 + k.toNat * 1)) with
        | true => False
        | false => (match nthD cs (0 + k.toNat * 1) with
          | .u8 v => Q .normal (layEnv cap n (IntKind.i64.wrap (k + 1))) [.ext (.ram (updF f (2147483648#64 + BitVec.ofInt 64 k) v)), .ro cs]
          | _ => False)))
    | false => Q (.exit 0) (layEnv cap n k) [.ext (.ram f), .ro cs]) := by kernel_rfl
theorem layF_step {l : List (BitVec 8)} {f : BitVec 64 → BitVec 8} {k : Nat} {v : BitVec 8} (hk : l[k]? = some v) (hn : l.length ≤ 1048576) :
    updF (layF (l.take k) f) (2147483648#64 + BitVec.ofInt 64 (k : Int)) v = layF (l.take (k + 1)) f := by
  have hlt : k < l.length := (List.getElem?_eq_some_iff.1 hk).1
  funext x
  have key : x = 2147483648#64 + BitVec.ofInt 64 (k : Int) ↔ (x - 2147483648#64).toNat = k := by
    rw [BitVec.ofInt_natCast]
    constructor
    · intro h
      subst h
      have e : (2147483648#64).toNat = 2147483648 := rfl
      have e2 : (BitVec.ofNat 64 k).toNat = k := by rw [BitVec.toNat_ofNat]; omega
      rw [BitVec.toNat_sub, BitVec.toNat_add, e, e2]
      omega
    · intro h
      apply BitVec.eq_of_toNat_eq
      have hx := x.isLt
      have e : (2147483648#64).toNat = 2147483648 := rfl
      have e2 : (BitVec.ofNat 64 k).toNat = k := by rw [BitVec.toNat_ofNat]; omega
      rw [BitVec.toNat_sub, e] at h
      rw [BitVec.toNat_add, e, e2]
      omega
  unfold updF layF
  simp only [nth_eq, List.getElem?_take]
  by_cases hx : x = 2147483648#64 + BitVec.ofInt 64 (k : Int)
  · rw [if_pos hx, if_pos (by have := key.1 hx; omega), key.1 hx, hk]
  · rw [if_neg hx]
    have : (x - 2147483648#64).toNat ≠ k := fun e => hx (key.2 e)
    by_cases h2 : (x - 2147483648#64).toNat < k
    · rw [if_pos h2, if_pos (by omega)]
    · rw [if_neg h2, if_neg (by omega)]
/-- Lay's loop. -/
def sLayLoop : LoopSpec Ob := fun _ c env m Q => ∃ (cap : Option Nat) (n : Nat) (l : List (BitVec 8)) (f : BitVec 64 → BitVec 8), n = l.length ∧ l.length ≤ 1048576 ∧ c = layBody ∧ dropS layDs env = layEnv cap n 0 ∧
  m = [.ext (.ram f), .ro (l.map .u8)] ∧ Q (.exit 0) (layEnv cap n n) [.ext (.ram (layF l f)), .ro (l.map .u8)]
theorem sLayLoop_sound : LoopsSound ctx (some sLayLoop) := by
  intro S hS Kp D c env m Q ρ fp a w h hv hd hH
  cases hS
  obtain ⟨cap, n, l, f, hn, hl, rfl, he, rfl, hQ⟩ := h
  subst hn
  have hv' := hv.drop layDs
  rw [he] at hv'
  refine loop_ind (L := L6) L6_sound (noLoops ctx) mix (c := layBody) (Q := Q) (D := D) (Kp := Kp) layDs 60 (fun j env m => ∃ k : Nat, j = l.length - k ∧ k ≤ l.length ∧ env = layEnv cap l.length (k : Int) ∧ m = [.ext (.ram (layF (l.take k) f)), .ro (l.map .u8)]) ?_
    l.length _ _ ρ fp a w ⟨0, rfl, Nat.zero_le _, rfl, rfl⟩ hv' hd hH
  rintro j env m ⟨k, rfl, hk, rfl, rfl⟩
  refine (lay_round cap l.length (k : Int) (layF (l.take k) f) (l.map .u8) _ Kp).mpr ?_
  by_cases hlt : k < l.length
  · have h1 : ilt (k : Int) (.ofNat l.length) = true := by
      simp only [ilt, decide_eq_true_eq]
      show (k : Int) < (l.length : Int)
      omega
    have h2 : decide ((0 : Int) ≤ (k : Int) ∧ (k : Int) < (l.length : Int)) = true := by
      simp only [decide_eq_true_eq]; omega
    have hg : (l.map SV.u8)[k]? = some (.u8 l[k]) := by simp [hlt]
    have h3 : nth (l.map SV.u8) (0 + (k : Int).toNat * 1) = some (.u8 l[k]) := by
      rw [nth_eq, Int.toNat_natCast, Nat.zero_add, Nat.mul_one]; exact hg
    have h4 : hasAt (l.map SV.u8) (0 + (k : Int).toNat * 1) = true := hasAt_of h3
    have h5 : nthD (l.map SV.u8) (0 + (k : Int).toNat * 1) = .u8 l[k] := by unfold nthD; rw [h3]
    rw [h1, h2, h4, h5]
    refine ⟨l.length - (k + 1), by omega, k + 1, rfl, hlt, ?_, ?_⟩
    · have : IntKind.i64.wrap ((k : Int) + 1) = ((k + 1 : Nat) : Int) := by rw [IntKind.wrap_i64]; omega
      rw [this]
    · rw [layF_step (by simp [hlt]) hl]
  · have hkl : k = l.length := by omega
    have h1 : ilt (k : Int) (.ofNat l.length) = false := by
      simp only [ilt, decide_eq_false_iff_not]
      intro h
      have : (k : Int) < (l.length : Int) := h
      omega
    rw [h1]
    subst hkl
    rw [List.take_length]
    exact hQ
end Go.R1
