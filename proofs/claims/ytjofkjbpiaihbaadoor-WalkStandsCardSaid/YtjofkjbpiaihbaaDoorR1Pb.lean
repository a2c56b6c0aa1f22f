/-
  Plain facts: what a walk tells, and what it tells when an entry is turned.
-/
import Derived.Test.YtjofkjbpiaihbaaDoorR1Pa
namespace Go.R1
open Go Go.AEv

def frOf (x : BitVec 64) (lvl : Nat) (table : BitVec 64) : BitVec 64 := (table <<< 12) + ((x >>> (12 + 9 * lvl)) &&& 511#64) * 8#64
def inval (e : BitVec 64) : Bool := bif (bif (e &&& 1#64) == 0#64 then true else (e &&& 6#64) == 4#64) then true else (e >>> 54) != 0#64
def nxt (e : BitVec 64) : BitVec 64 := (e >>> 10) &&& 17592186044415#64
def inner (e : BitVec 64) : Bool := (e &&& 10#64) == 0#64
abbrev pr : Leaf → BitVec 64 → Leaf × BitVec 64 := fun l c => (l, c)
section
variable (d : Leaf × BitVec 64) (ms : BitVec 64) (cl : List (BitVec 8)) (al : List (BitVec 64)) (g : BitVec 64 → BitVec 8) (mode kind : Int) (x : BitVec 64)
theorem wkL_eq (lvl : Nat) (table : BitVec 64) : wkL pr d ms cl al g mode kind x lvl table =
    (bif !(checkF cl al 1 1 (frOf x lvl table) 8) then (leaf0, faultF kind) else bif !(hasF (frOf x lvl table) 8) then (leaf0, faultF kind) else
      bif inval (readF g (frOf x lvl table)) then (leaf0, pageF kind) else
      bif inner (readF g (frOf x lvl table)) then
        (bif (bif (readF g (frOf x lvl table) &&& 208#64) != 0#64 then true else Nat.beq lvl 0) then (leaf0, pageF kind) else match lvl with
          | 0 => d
          | l + 1 => wkL pr d ms cl al g mode kind x l (nxt (readF g (frOf x lvl table))))
      else wkEnd pr ms mode kind x (nxt (readF g (frOf x lvl table))) (readF g (frOf x lvl table)) (frOf x lvl table) lvl) := by
  cases lvl with
  | zero =>
    conv => lhs; unfold wkL
    unfold frOf
    generalize (table <<< 12) + ((x >>> (12 + 9 * 0)) &&& 511#64) * 8#64 = fr
    cases checkF cl al 1 1 fr 8 with
    | false => rfl
    | true =>
      cases hasF fr 8 with
      | false => rfl
      | true =>
        simp only [Bool.not_true, cond_false]
        show (match inval (readF g fr) with | true => _ | false => _) = _
        cases inval (readF g fr) with
        | true => rfl
        | false =>
          simp only [cond_false]
          show (match inner (readF g fr) with | true => _ | false => _) = _
          cases inner (readF g fr) with
          | false => rfl
          | true =>
            simp only [cond_true]
            have : (bif (readF g fr &&& 208#64) != 0#64 then true else Nat.beq 0 0) = true := by cases (readF g fr &&& 208#64) != 0#64 <;> rfl
            rw [this]; rfl
  | succ l =>
    conv => lhs; unfold wkL
    unfold frOf
    generalize (table <<< 12) + ((x >>> (12 + 9 * (l + 1))) &&& 511#64) * 8#64 = fr
    cases checkF cl al 1 1 fr 8 with
    | false => rfl
    | true =>
      cases hasF fr 8 with
      | false => rfl
      | true =>
        simp only [Bool.not_true, cond_false]
        show (match inval (readF g fr) with | true => _ | false => _) = _
        cases inval (readF g fr) with
        | true => rfl
        | false =>
          simp only [cond_false]
          show (match inner (readF g fr) with | true => _ | false => _) = _
          cases inner (readF g fr) with
          | false => rfl
          | true =>
            simp only [cond_true]
            cases (bif (readF g fr &&& 208#64) != 0#64 then true else Nat.beq (l + 1) 0) <;> rfl
end
theorem pageF_ne (k : Int) : pageF k ≠ 0#64 := by
  unfold pageF causeF causeT
  repeat' split
  all_goals decide
theorem faultF_ne (k : Int) : faultF k ≠ 0#64 := by
  unfold faultF causeF causeT
  repeat' split
  all_goals decide
theorem frOf_al (x : BitVec 64) (lvl : Nat) (table : BitVec 64) : (frOf x lvl table).toNat % 8 = 0 := by
  unfold frOf
  generalize ((x >>> (12 + 9 * lvl)) &&& 511#64) = q
  rw [BitVec.toNat_add, BitVec.toNat_mul, BitVec.toNat_shiftLeft, Nat.shiftLeft_eq]
  have : (8#64).toNat = 8 := rfl
  rw [this]
  omega
/-- Where a walk ends well: what it tells, and what it tells with another entry there. -/
theorem wkL_ok {d : Leaf × BitVec 64} {ms : BitVec 64} {cl : List (BitVec 8)} {al : List (BitVec 64)} {g : BitVec 64 → BitVec 8} {mode kind : Int} {x : BitVec 64} : ∀ {lvl : Nat} {table : BitVec 64} {L : Leaf}, wkL pr d ms cl al g mode kind x lvl table = (L, 0#64) →
    ∃ l0, l0 ≤ lvl ∧ L.en = readF g L.fr ∧ hasF L.fr 8 = true ∧ L.fr.toNat % 8 = 0 ∧ inval L.en = false ∧ inner L.en = false ∧ wkEnd pr ms mode kind x (nxt L.en) L.en L.fr l0 = (L, 0#64) ∧
      ∀ (g' : BitVec 64 → BitVec 8), (∀ b, b.toNat % 8 = 0 → L.fr ≠ b → readF g' b = readF g b) →
        (inval (readF g' L.fr) = true → wkL pr d ms cl al g' mode kind x lvl table = (leaf0, pageF kind)) ∧
        (inval (readF g' L.fr) = false → inner (readF g' L.fr) = false → wkL pr d ms cl al g' mode kind x lvl table = wkEnd pr ms mode kind x (nxt (readF g' L.fr)) (readF g' L.fr) L.fr l0) := by
  intro lvl
  induction lvl with
  | zero =>
    intro table L h
    rw [wkL_eq] at h
    cases hc : checkF cl al 1 1 (frOf x 0 table) 8 with
    | false => rw [hc] at h; exact absurd (Prod.mk.inj h).2 (faultF_ne kind)
    | true =>
      cases hh : hasF (frOf x 0 table) 8 with
      | false => rw [hc, hh] at h; exact absurd (Prod.mk.inj h).2 (faultF_ne kind)
      | true =>
        cases hi : inval (readF g (frOf x 0 table)) with
        | true => rw [hc, hh, hi] at h; exact absurd (Prod.mk.inj h).2 (pageF_ne kind)
        | false =>
          cases hn : inner (readF g (frOf x 0 table)) with
          | true =>
            rw [hc, hh, hi, hn] at h
            have : (bif (readF g (frOf x 0 table) &&& 208#64) != 0#64 then true else Nat.beq 0 0) = true := by cases (readF g (frOf x 0 table) &&& 208#64) != 0#64 <;> rfl
            rw [this] at h
            exact absurd (Prod.mk.inj h).2 (pageF_ne kind)
          | false =>
            rw [hc, hh, hi, hn] at h
            simp only [Bool.not_true, cond_false] at h
            have hL : L.en = readF g (frOf x 0 table) ∧ L.fr = frOf x 0 table := by
              unfold wkEnd at h
              split at h
              · exact absurd (Prod.mk.inj h).2 (pageF_ne kind)
              · rw [← (Prod.mk.inj h).1]; exact ⟨rfl, rfl⟩
            obtain ⟨h1, h2⟩ := hL
            rw [← h2] at h1 h hh hi hn hc
            rw [← h1] at h hi hn
            refine ⟨0, Nat.le_refl _, h1, hh, by rw [h2]; exact frOf_al _ _ _, hi, hn, h, fun g' hg' => ⟨fun hi' => ?_, fun hi' hn' => ?_⟩⟩
            · rw [wkL_eq, ← h2, hc, hh, hi']; rfl
            · rw [wkL_eq, ← h2, hc, hh, hi', hn']; rfl
  | succ l ih =>
    intro table L h
    rw [wkL_eq] at h
    cases hc : checkF cl al 1 1 (frOf x (l + 1) table) 8 with
    | false => rw [hc] at h; exact absurd (Prod.mk.inj h).2 (faultF_ne kind)
    | true =>
      cases hh : hasF (frOf x (l + 1) table) 8 with
      | false => rw [hc, hh] at h; exact absurd (Prod.mk.inj h).2 (faultF_ne kind)
      | true =>
        cases hi : inval (readF g (frOf x (l + 1) table)) with
        | true => rw [hc, hh, hi] at h; exact absurd (Prod.mk.inj h).2 (pageF_ne kind)
        | false =>
          cases hn : inner (readF g (frOf x (l + 1) table)) with
          | true =>
            rw [hc, hh, hi, hn] at h
            cases hu : (bif (readF g (frOf x (l + 1) table) &&& 208#64) != 0#64 then true else Nat.beq (l + 1) 0) with
            | true => rw [hu] at h; exact absurd (Prod.mk.inj h).2 (pageF_ne kind)
            | false =>
              rw [hu] at h
              simp only [Bool.not_true, cond_false, cond_true] at h
              obtain ⟨l0, k0, k1, k2, k3, k4, k5, k6, k7⟩ := ih h
              have hne : L.fr ≠ frOf x (l + 1) table := fun e => by rw [k1, e, hn] at k5; simp at k5
              refine ⟨l0, by omega, k1, k2, k3, k4, k5, k6, fun g' hg' => ?_⟩
              have hr := hg' _ (frOf_al x (l + 1) table) hne
              have : wkL pr d ms cl al g' mode kind x (l + 1) table = wkL pr d ms cl al g' mode kind x l (nxt (readF g (frOf x (l + 1) table))) := by
                rw [wkL_eq, hr, hc, hh, hi, hn, hu]; rfl
              rw [this]
              exact k7 g' hg'
          | false =>
            rw [hc, hh, hi, hn] at h
            simp only [Bool.not_true, cond_false] at h
            have hL : L.en = readF g (frOf x (l + 1) table) ∧ L.fr = frOf x (l + 1) table := by
              unfold wkEnd at h
              split at h
              · exact absurd (Prod.mk.inj h).2 (pageF_ne kind)
              · rw [← (Prod.mk.inj h).1]; exact ⟨rfl, rfl⟩
            obtain ⟨h1, h2⟩ := hL
            rw [← h2] at h1 h hh hi hn hc
            rw [← h1] at h hi hn
            refine ⟨l + 1, Nat.le_refl _, h1, hh, by rw [h2]; exact frOf_al _ _ _, hi, hn, h, fun g' hg' => ⟨fun hi' => ?_, fun hi' hn' => ?_⟩⟩
            · rw [wkL_eq, ← h2, hc, hh, hi']; rfl
            · rw [wkL_eq, ← h2, hc, hh, hi', hn']; rfl
/-- A walk that ends ill tells no leaf. -/
theorem wkEnd_bad {ms : BitVec 64} {mode kind : Int} {x table e fr : BitVec 64} {lvl : Nat} : (wkEnd pr ms mode kind x table e fr lvl).2 = 0#64 ∨ (wkEnd pr ms mode kind x table e fr lvl).1 = leaf0 := by
  unfold wkEnd
  split
  · exact .inr rfl
  · exact .inl rfl
theorem wkL_bad {d : Leaf × BitVec 64} {ms : BitVec 64} {cl : List (BitVec 8)} {al : List (BitVec 64)} {g : BitVec 64 → BitVec 8} {mode kind : Int} {x : BitVec 64} (hd : d.1 = leaf0) : ∀ {lvl : Nat} {table : BitVec 64}, (wkL pr d ms cl al g mode kind x lvl table).2 = 0#64 ∨ (wkL pr d ms cl al g mode kind x lvl table).1 = leaf0 := by
  intro lvl
  induction lvl with
  | zero =>
    intro table
    rw [wkL_eq]
    cases checkF cl al 1 1 (frOf x 0 table) 8 <;> simp only [Bool.not_true, Bool.not_false, cond_true, cond_false]
    · exact .inr trivial
    cases hasF (frOf x 0 table) 8 <;> simp only [Bool.not_true, Bool.not_false, cond_true, cond_false]
    · exact .inr trivial
    cases inval (readF g (frOf x 0 table)) <;> simp only [cond_true, cond_false]
    case true => exact .inr trivial
    cases inner (readF g (frOf x 0 table)) <;> simp only [cond_true, cond_false]
    · exact wkEnd_bad
    · cases (bif (readF g (frOf x 0 table) &&& 208#64) != 0#64 then true else Nat.beq 0 0) <;> simp only [cond_true, cond_false]
      · exact .inr hd
      · exact .inr trivial
  | succ l ih =>
    intro table
    rw [wkL_eq]
    cases checkF cl al 1 1 (frOf x (l + 1) table) 8 <;> simp only [Bool.not_true, Bool.not_false, cond_true, cond_false]
    · exact .inr trivial
    cases hasF (frOf x (l + 1) table) 8 <;> simp only [Bool.not_true, Bool.not_false, cond_true, cond_false]
    · exact .inr trivial
    cases inval (readF g (frOf x (l + 1) table)) <;> simp only [cond_true, cond_false]
    case true => exact .inr trivial
    cases inner (readF g (frOf x (l + 1) table)) <;> simp only [cond_true, cond_false]
    · exact wkEnd_bad
    · cases (bif (readF g (frOf x (l + 1) table) &&& 208#64) != 0#64 then true else Nat.beq (l + 1) 0) <;> simp only [cond_true, cond_false]
      · exact ih
      · exact .inr trivial
end Go.R1
