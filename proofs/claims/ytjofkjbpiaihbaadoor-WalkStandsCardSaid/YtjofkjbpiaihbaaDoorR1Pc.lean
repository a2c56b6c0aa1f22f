/-
  The plain law: what is said of walks and of entries that are turned is so.
-/
import Derived.Test.YtjofkjbpiaihbaaDoorR1Pb
namespace Go.R1
open Go Go.AEv

theorem and_low (v m : BitVec 64) (h : 1023#64 &&& m = m) : v &&& m = (v &&& 1023#64) &&& m := by rw [BitVec.and_assoc, h]
theorem low_and {e e' : BitVec 64} (h : e' &&& 1023#64 = e &&& 1023#64) (m : BitVec 64) (hm : 1023#64 &&& m = m) : e' &&& m = e &&& m := by rw [and_low e' m hm, and_low e m hm, h]
theorem allows_low {e e' : BitVec 64} (h : e' &&& 1023#64 = e &&& 1023#64) (ms : BitVec 64) (mode kind : Int) : allowsF ms mode kind e' = allowsF ms mode kind e := by
  unfold allowsF allowsT alEnd
  rw [low_and h 8#64 (by decide), low_and h 4#64 (by decide), low_and h 128#64 (by decide), low_and h 2#64 (by decide), low_and h 16#64 (by decide), low_and h 64#64 (by decide)]
theorem allows_not {e : BitVec 64} (h : e &&& 64#64 = 0#64) (ms : BitVec 64) (mode kind : Int) : allowsF ms mode kind e = false := by
  have z : ∀ b : Bool, (bif b then (0#64 : BitVec 64) != 0#64 else false) = false := fun b => by cases b <;> rfl
  unfold allowsF allowsT alEnd
  rw [h]
  repeat' split
  all_goals exact z _
theorem inval_parts {e : BitVec 64} (h : inval e = false) : ((e &&& 1#64) == 0#64) = false ∧ ((e &&& 6#64) == 4#64) = false ∧ e >>> 54 = 0#64 := by
  unfold inval at h
  cases h1 : (e &&& 1#64) == 0#64 with
  | true => rw [h1] at h; simp at h
  | false =>
    cases h2 : (e &&& 6#64) == 4#64 with
    | true => rw [h1, h2] at h; simp at h
    | false =>
      rw [h1, h2] at h
      simp only [cond_false, bne_eq_false_iff_eq] at h
      exact ⟨rfl, rfl, h⟩
theorem inval_of {e : BitVec 64} (h1 : ((e &&& 1#64) == 0#64) = false) (h2 : ((e &&& 6#64) == 4#64) = false) (h3 : e >>> 54 = 0#64) : inval e = false := by
  unfold inval
  rw [h1, h2, h3]
  rfl
theorem sh54 {e : BitVec 64} : e >>> 54 = 0#64 ↔ e.toNat < 2 ^ 54 := by
  constructor
  · intro h
    have := congrArg BitVec.toNat h
    rw [BitVec.toNat_ushiftRight, Nat.shiftRight_eq_div_pow] at this
    have e0 : (0#64).toNat = 0 := rfl
    rw [e0] at this
    omega
  · intro h
    apply BitVec.eq_of_toNat_eq
    rw [BitVec.toNat_ushiftRight, Nat.shiftRight_eq_div_pow]
    have e0 : (0#64).toNat = 0 := rfl
    rw [e0]
    omega
/-- The entry that is laid instead. -/
def newE (y v : BitVec 64) : BitVec 64 := ((y &&& 17592186044415#64) <<< 10) ||| (v &&& 1023#64)
theorem and44 (y : BitVec 64) : (y &&& 17592186044415#64).toNat = y.toNat % 2 ^ 44 := by
  rw [BitVec.toNat_and]
  exact Nat.and_two_pow_sub_one_eq_mod y.toNat 44
theorem and10 (y : BitVec 64) : (y &&& 1023#64).toNat = y.toNat % 2 ^ 10 := by
  rw [BitVec.toNat_and]
  exact Nat.and_two_pow_sub_one_eq_mod y.toNat 10
theorem and12 (y : BitVec 64) : (y &&& 4095#64).toNat = y.toNat % 2 ^ 12 := by
  rw [BitVec.toNat_and]
  exact Nat.and_two_pow_sub_one_eq_mod y.toNat 12
theorem and21 (y : BitVec 64) : (y &&& 2097151#64).toNat = y.toNat % 2 ^ 21 := by
  rw [BitVec.toNat_and]
  exact Nat.and_two_pow_sub_one_eq_mod y.toNat 21
theorem and30 (y : BitVec 64) : (y &&& 1073741823#64).toNat = y.toNat % 2 ^ 30 := by
  rw [BitVec.toNat_and]
  exact Nat.and_two_pow_sub_one_eq_mod y.toNat 30
theorem and9 (y : BitVec 64) : (y &&& 511#64).toNat = y.toNat % 2 ^ 9 := by
  rw [BitVec.toNat_and]
  exact Nat.and_two_pow_sub_one_eq_mod y.toNat 9
theorem and18 (y : BitVec 64) : (y &&& 262143#64).toNat = y.toNat % 2 ^ 18 := by
  rw [BitVec.toNat_and]
  exact Nat.and_two_pow_sub_one_eq_mod y.toNat 18
theorem newE_nat (y v : BitVec 64) : (newE y v).toNat = y.toNat % 2 ^ 44 * 1024 + v.toNat % 1024 := by
  unfold newE
  rw [BitVec.toNat_or, BitVec.toNat_shiftLeft, and44, and10]
  rw [Nat.mod_eq_of_lt (a := (y.toNat % 2 ^ 44) <<< 10) (by rw [Nat.shiftLeft_eq]; omega)]
  rw [← Nat.shiftLeft_add_eq_or_of_lt (by omega), Nat.shiftLeft_eq]
theorem newE_low (y v : BitVec 64) : newE y v &&& 1023#64 = v &&& 1023#64 := by
  apply BitVec.eq_of_toNat_eq
  rw [and10, and10, newE_nat]
  omega
theorem newE_sh (y v : BitVec 64) : newE y v >>> 54 = 0#64 := by
  rw [sh54, newE_nat]
  omega
theorem newE_nxt (y v : BitVec 64) : nxt (newE y v) = newE y v >>> 10 := by
  apply BitVec.eq_of_toNat_eq
  unfold nxt
  rw [and44, BitVec.toNat_ushiftRight, Nat.shiftRight_eq_div_pow, newE_nat]
  omega
theorem page_or (t x : BitVec 64) (ht : t.toNat < 2 ^ 44) : (t <<< 12) + (x &&& 4095#64) = (t <<< 12) ||| (x &&& 4095#64) := by
  apply BitVec.eq_of_toNat_eq
  rw [BitVec.toNat_add, BitVec.toNat_or, BitVec.toNat_shiftLeft, and12]
  rw [Nat.mod_eq_of_lt (a := t.toNat <<< 12) (by rw [Nat.shiftLeft_eq]; omega)]
  rw [← Nat.shiftLeft_add_eq_or_of_lt (by omega), Nat.shiftLeft_eq]
  omega
/-- A leaf's address lies in the page that its entry tells. -/
theorem leaf_page (t x : BitVec 64) (ht : t.toNat < 2 ^ 44) {l : Nat} (hl : l ≤ 2) (h0 : t &&& ((1#64 <<< (9 * l)) - 1#64) = 0#64) :
    (((t <<< 12) + (x &&& ((((1#64 <<< (9 * l)) - 1#64) <<< 12) ||| 4095#64))) >>> 12) >>> (9 * l) = t >>> (9 * l) := by
  have key : ∀ (k : Nat) (X : Nat), X < 2 ^ 30 → (∀ u : Nat, u < 2 ^ 64 → (t.toNat * 4096 + X) / 4096 / 2 ^ k = t.toNat / 2 ^ k) → ∀ z : BitVec 64, z.toNat = X → (((t <<< 12) + z) >>> 12) >>> k = t >>> k := by
    intro k X hX hk z hz
    apply BitVec.eq_of_toNat_eq
    rw [BitVec.toNat_ushiftRight, BitVec.toNat_ushiftRight, BitVec.toNat_ushiftRight, BitVec.toNat_add, BitVec.toNat_shiftLeft, hz, Nat.shiftRight_eq_div_pow, Nat.shiftRight_eq_div_pow, Nat.shiftRight_eq_div_pow, Nat.shiftLeft_eq]
    have := hk 0 (by omega)
    rw [Nat.mod_eq_of_lt (a := t.toNat * 2 ^ 12) (by omega), Nat.mod_eq_of_lt (by omega)]
    exact this
  have z0 : (0#64).toNat = 0 := rfl
  match l, hl with
  | 0, _ =>
    have e : (x &&& ((((1#64 <<< (9 * 0)) - 1#64) <<< 12) ||| 4095#64)) = x &&& 4095#64 := rfl
    rw [e]
    exact key 0 _ (by have := and12 x; omega) (fun _ _ => by have := and12 x; omega) _ rfl
  | 1, _ =>
    have e : (x &&& ((((1#64 <<< (9 * 1)) - 1#64) <<< 12) ||| 4095#64)) = x &&& 2097151#64 := rfl
    have e2 : t &&& ((1#64 <<< (9 * 1)) - 1#64) = t &&& 511#64 := rfl
    rw [e]
    rw [e2] at h0
    have h1 := congrArg BitVec.toNat h0
    rw [and9, z0] at h1
    exact key 9 _ (by have := and21 x; omega) (fun _ _ => by have := and21 x; omega) _ rfl
  | 2, _ =>
    have e : (x &&& ((((1#64 <<< (9 * 2)) - 1#64) <<< 12) ||| 4095#64)) = x &&& 1073741823#64 := rfl
    have e2 : t &&& ((1#64 <<< (9 * 2)) - 1#64) = t &&& 262143#64 := rfl
    rw [e]
    rw [e2] at h0
    have h1 := congrArg BitVec.toNat h0
    rw [and18, z0] at h1
    exact key 18 _ (by have := and30 x; omega) (fun _ _ => by have := and30 x; omega) _ rfl
end Go.R1
