/-
  Plain facts: eight bytes that were written are read, others stay.
-/
import Derived.Test.YtjofkjbpiaihbaaDoorR1Fo
namespace Go.R1
open Go Go.AEv

theorem lay8 {acc : BitVec 64} {n : Nat} (h : acc.toNat = n) (hn : n < 2 ^ 56) (b : BitVec 8) : (acc <<< 8 ||| b.setWidth 64).toNat = n * 256 + b.toNat := by
  have hb := b.isLt
  rw [BitVec.toNat_or, BitVec.toNat_shiftLeft, BitVec.toNat_setWidth, h]
  rw [Nat.mod_eq_of_lt (a := b.toNat) (by omega)]
  rw [Nat.mod_eq_of_lt (a := n <<< 8) (by rw [Nat.shiftLeft_eq]; omega)]
  rw [← Nat.shiftLeft_add_eq_or_of_lt (by omega), Nat.shiftLeft_eq]
theorem byteAt (v : BitVec 64) (k : Nat) : (BitVec.setWidth 8 (v >>> k)).toNat = v.toNat / 2 ^ k % 256 := by
  rw [BitVec.toNat_setWidth, BitVec.toNat_ushiftRight, Nat.shiftRight_eq_div_pow]
theorem glue (v : BitVec 64) : ((((((((0#64 <<< 8 ||| (BitVec.setWidth 8 (v >>> 56)).setWidth 64) <<< 8 ||| (BitVec.setWidth 8 (v >>> 48)).setWidth 64) <<< 8 ||| (BitVec.setWidth 8 (v >>> 40)).setWidth 64) <<< 8 ||| (BitVec.setWidth 8 (v >>> 32)).setWidth 64) <<< 8 |||
    (BitVec.setWidth 8 (v >>> 24)).setWidth 64) <<< 8 ||| (BitVec.setWidth 8 (v >>> 16)).setWidth 64) <<< 8 ||| (BitVec.setWidth 8 (v >>> 8)).setWidth 64) <<< 8 ||| (BitVec.setWidth 8 (v >>> 0)).setWidth 64) = v := by
  apply BitVec.eq_of_toNat_eq
  have hv := v.isLt
  have h0 : (0#64).toNat = 0 := rfl
  have h1 := lay8 h0 (by omega) (BitVec.setWidth 8 (v >>> 56))
  have b7 := byteAt v 56
  have h2 := lay8 h1 (by omega) (BitVec.setWidth 8 (v >>> 48))
  have b6 := byteAt v 48
  have h3 := lay8 h2 (by omega) (BitVec.setWidth 8 (v >>> 40))
  have b5 := byteAt v 40
  have h4 := lay8 h3 (by omega) (BitVec.setWidth 8 (v >>> 32))
  have b4 := byteAt v 32
  have h5 := lay8 h4 (by omega) (BitVec.setWidth 8 (v >>> 24))
  have b3 := byteAt v 24
  have h6 := lay8 h5 (by omega) (BitVec.setWidth 8 (v >>> 16))
  have b2 := byteAt v 16
  have h7 := lay8 h6 (by omega) (BitVec.setWidth 8 (v >>> 8))
  have b1 := byteAt v 8
  have h8 := lay8 h7 (by omega) (BitVec.setWidth 8 (v >>> 0))
  have b0 := byteAt v 0
  rw [h8]
  omega
theorem off_ne (a : BitVec 64) {i j : BitVec 64} (h : i ≠ j) : a + i ≠ a + j := fun e => h (by
  have := congrArg (fun z => z - a) e
  simpa [BitVec.add_comm, BitVec.add_sub_cancel] using this)
theorem updF_self (f : BitVec 64 → BitVec 8) (x : BitVec 64) (v : BitVec 8) : updF f x v x = v := by simp [updF]
theorem updF_ne {f : BitVec 64 → BitVec 8} {x y : BitVec 64} {v : BitVec 8} (h : y ≠ x) : updF f x v y = f y := by simp [updF, h]
theorem rd_wr (g : BitVec 64 → BitVec 8) (a v : BitVec 64) : rd8 (wr8 g a v) a = v := by
  have ne : ∀ i j : BitVec 64, i ≠ j → a + i ≠ a + j := fun i j h => off_ne a h
  unfold rd8 wr8
  rw [updF_self]
  rw [updF_ne (ne _ _ (by decide)), updF_self]
  rw [updF_ne (ne (BitVec.ofInt 64 5) _ (by decide)), updF_ne (ne (BitVec.ofInt 64 5) _ (by decide)), updF_self]
  rw [updF_ne (ne (BitVec.ofInt 64 4) _ (by decide)), updF_ne (ne (BitVec.ofInt 64 4) _ (by decide)), updF_ne (ne (BitVec.ofInt 64 4) _ (by decide)), updF_self]
  rw [updF_ne (ne (BitVec.ofInt 64 3) _ (by decide)), updF_ne (ne (BitVec.ofInt 64 3) _ (by decide)), updF_ne (ne (BitVec.ofInt 64 3) _ (by decide)), updF_ne (ne (BitVec.ofInt 64 3) _ (by decide)), updF_self]
  rw [updF_ne (ne (BitVec.ofInt 64 2) _ (by decide)), updF_ne (ne (BitVec.ofInt 64 2) _ (by decide)), updF_ne (ne (BitVec.ofInt 64 2) _ (by decide)), updF_ne (ne (BitVec.ofInt 64 2) _ (by decide)), updF_ne (ne (BitVec.ofInt 64 2) _ (by decide)), updF_self]
  rw [updF_ne (ne (BitVec.ofInt 64 1) _ (by decide)), updF_ne (ne (BitVec.ofInt 64 1) _ (by decide)), updF_ne (ne (BitVec.ofInt 64 1) _ (by decide)), updF_ne (ne (BitVec.ofInt 64 1) _ (by decide)), updF_ne (ne (BitVec.ofInt 64 1) _ (by decide)), updF_ne (ne (BitVec.ofInt 64 1) _ (by decide)), updF_self]
  rw [updF_ne (ne (BitVec.ofInt 64 0) _ (by decide)), updF_ne (ne (BitVec.ofInt 64 0) _ (by decide)), updF_ne (ne (BitVec.ofInt 64 0) _ (by decide)), updF_ne (ne (BitVec.ofInt 64 0) _ (by decide)), updF_ne (ne (BitVec.ofInt 64 0) _ (by decide)), updF_ne (ne (BitVec.ofInt 64 0) _ (by decide)), updF_ne (ne (BitVec.ofInt 64 0) _ (by decide)), updF_self]
  exact glue v
/-- Places of eight bytes that are not one lie apart. -/
theorem apart8 {a b : BitVec 64} (ha : a.toNat % 8 = 0) (hb : b.toNat % 8 = 0) (h : a ≠ b) {i j : BitVec 64} (hi : i.toNat < 8) (hj : j.toNat < 8) : b + j ≠ a + i := by
  intro e
  have := congrArg BitVec.toNat e
  rw [BitVec.toNat_add, BitVec.toNat_add] at this
  apply h
  apply BitVec.eq_of_toNat_eq
  have := a.isLt
  have := b.isLt
  omega
theorem rd_other (g : BitVec 64 → BitVec 8) {a b : BitVec 64} (v : BitVec 64) (ha : a.toNat % 8 = 0) (hb : b.toNat % 8 = 0) (h : a ≠ b) : rd8 (wr8 g a v) b = rd8 g b := by
  have key : ∀ j : BitVec 64, j.toNat < 8 → wr8 g a v (b + j) = g (b + j) := fun j hj => by
    unfold wr8
    rw [updF_ne (apart8 ha hb h (by decide) hj), updF_ne (apart8 ha hb h (by decide) hj), updF_ne (apart8 ha hb h (by decide) hj), updF_ne (apart8 ha hb h (by decide) hj),
      updF_ne (apart8 ha hb h (by decide) hj), updF_ne (apart8 ha hb h (by decide) hj), updF_ne (apart8 ha hb h (by decide) hj), updF_ne (apart8 ha hb h (by decide) hj)]
  unfold rd8
  rw [key _ (by decide), key _ (by decide), key _ (by decide), key _ (by decide), key _ (by decide), key _ (by decide), key _ (by decide), key _ (by decide)]
theorem readF_wr {g : BitVec 64 → BitVec 8} {a : BitVec 64} (h : hasF a 8 = true) (v : BitVec 64) : readF (wr8 g a v) a = v := by
  unfold readF rdT
  rw [h]
  exact rd_wr g a v
theorem readF_other {g : BitVec 64 → BitVec 8} {a b : BitVec 64} (v : BitVec 64) (ha : a.toNat % 8 = 0) (hb : b.toNat % 8 = 0) (h : a ≠ b) : readF (wr8 g a v) b = readF g b := by
  unfold readF rdT
  split
  · rfl
  · exact rd_other g v ha hb h
end Go.R1
