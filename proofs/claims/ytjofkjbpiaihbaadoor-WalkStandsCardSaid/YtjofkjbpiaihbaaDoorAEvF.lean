/-
  'aq': all quiet operations; 'aq_sound': the model's operation comes to what is said, and the world stays as it was.
-/
import Derived.Test.YtjofkjbpiaihbaaDoorAEvE
namespace Go.AEv
open Go

variable {P : Program} {C : Ctx}

theorem HRel.at {ρ : List Ghost} {m : List (Blk C.X)} {w : World} {fp : Nat → Prop} (h : HRel C ρ m w fp) {i : Nat} {blk : Blk C.X} {g : Ghost} (hb : nth m i = some blk) (hg : ρ[i]? = some g) :
    ∃ W R, BRel C ρ g w blk W R := by
  obtain ⟨W, R, hs, _⟩ := h
  exact ⟨_, _, hs.blk i blk g (by rw [← nth_eq]; exact hb) hg⟩

def abound (x : AV) (hi : Nat) : Option Nat :=
  match anum x with
  | some n => match decide (0 ≤ n ∧ n ≤ (hi : Int)) with
    | true => some n.toNat
    | false => none
  | none => none
theorem abound_sound {ρ : List Ghost} {x : AV} {hi k : Nat} {v : Value} (h : abound x hi = some k) (hx : VRel ρ x v) (w : World) :
    k ≤ hi ∧ ∀ y code, hi ≤ y → (Instr.sliceBound v y code).run P w = .ok k w := by
  unfold abound at h
  split at h
  · rename_i n hn
    obtain ⟨kd, rfl⟩ := anum_rel hn hx
    split at h
    · rename_i hd
      cases h
      have hd' := of_decide_eq_true hd
      refine ⟨by omega, fun y code hy => ?_⟩
      have : 0 ≤ n ∧ n ≤ (y : Int) := by omega
      simp [Instr.sliceBound, asIntOf, this]
    · simp at h
  · simp at h
def orCap : Option Nat → Option Nat → Option Nat
  | some k, _ => some k
  | none, c => c
def subCap (c : Option Nat) (l : Nat) : Option Nat :=
  match c with
  | some k => some (k - l)
  | none => none
def aMax (max : Option AV) (cap : Option Nat) (len : Nat) : Option (Option Nat) :=
  match max with
  | some v => match abound v (cap.getD len) with
    | some k => some (some k)
    | none => none
  | none => some none
def aHigh (high : Option AV) (mx cap : Option Nat) (len : Nat) : Option Nat :=
  match high with
  | some v => abound v ((orCap mx cap).getD len)
  | none => match mx with
    | some _ => none
    | none => some len
def aslice (P : Program) (t : TypeId) (x : AV) (low high max : Option AV) : Option AV :=
  match P.underlying t, x with
  | some (.slice elem), .sl b off es len cap =>
    match szB P elem, aMax max cap len with
    | some sz, some mx =>
      match decide (sz = es), aHigh high mx cap len with
      | true, some h =>
        match (match low with
          | some v => abound v h
          | none => some 0) with
        | some l => some (.sl b (off + l * es) es (h - l) (subCap (orCap mx cap) l))
        | none => none
      | _, _ => none
    | _, _ => none
  | some .string, .s (.str s) =>
    match max with
    | none => match (match high with
        | some v => abound v s.size
        | none => some s.size) with
      | some h => match (match low with
          | some v => abound v h
          | none => some 0) with
        | some l => some (.s (.str (s.extract l h)))
        | none => none
      | none => none
    | some _ => none
  | _, _ => none
def OpRel (ρ : List Ghost) (x : Option AV) (v : Option Value) : Prop :=
  match x, v with
  | none, none => True
  | some x, some v => VRel ρ x v
  | _, _ => False

theorem aslice_sound {ρ : List Ghost} {t : TypeId} {x z : AV} {v : Value} {low high max : Option AV} {lv hv mv : Option Value} (h : aslice P t x low high max = some z) (hx : VRel ρ x v)
    (hl : OpRel ρ low lv) (hh : OpRel ρ high hv) (hm : OpRel ρ max mv) (w : World) :
    ∃ r, (Instr.slice t v lv hv mv).run P w = .ok r w ∧ VRel ρ z r := by
  unfold aslice at h
  split at h
  · rename_i elem b off es len cap hu
    split at h
    · rename_i sz mx hsz hmx
      split at h
      · rename_i hi hd hhi
        have hsz' : sz = es := of_decide_eq_true hd
        subst hsz'
        split at h
        · rename_i lo hlo
          cases h
          -- the slice as it is
          obtain ⟨a, c, rfl, hlc, hcc, hca⟩ : ∃ a c, v = .slice a len c ∧ len ≤ c ∧ (∀ k, cap = some k → c = k) ∧ (c = 0 ∨ ∃ g, ρ[b]? = some g ∧ a = some ⟨g.b, g.o + off, none⟩ ∧ off + sz * c ≤ g.n) := by
            cases hx with
            | sl h1 h2 h3 h4 => exact ⟨_, _, rfl, h2, h3, .inr ⟨_, h1, rfl, h4⟩⟩
            | sl0 h1 => exact ⟨_, _, rfl, Nat.le_refl _, fun k hk => (h1 k hk).symm, .inl rfl⟩
          have hcap : cap.getD len ≤ c := by
            cases hc : cap with
            | none => exact hlc
            | some k => simp [hcc k hc]
          -- the three bounds
          have hM : ∃ mm, mm ≤ c ∧ (orCap mx cap).getD len ≤ mm ∧ (∀ k, orCap mx cap = some k → mm = k) ∧ (mx = none → mm = c) ∧ (mx.isSome = mv.isSome) ∧
              (∀ u, mv = some u → (Instr.sliceBound u c .slice3Acap).run P w = .ok mm w) := by
            unfold aMax at hmx
            cases max with
            | none =>
              cases mv with
              | none =>
                simp at hmx; subst hmx
                exact ⟨c, Nat.le_refl _, hcap, fun k hk => hcc k hk, fun _ => rfl, rfl, fun u hu => by simp at hu⟩
              | some u => exact hm.elim
            | some m =>
              cases mv with
              | none => exact hm.elim
              | some u =>
                simp only at hmx
                split at hmx
                · rename_i k hk
                  cases hmx
                  obtain ⟨h1, h2⟩ := abound_sound (P := P) hk hm w
                  exact ⟨k, by omega, by simp [orCap], fun k' hk' => by simpa [orCap] using hk', fun hc => by simp at hc, rfl, fun u' hu' => by cases hu'; exact h2 _ _ hcap⟩
                · simp at hmx
          obtain ⟨mm, hmm, hm1, hmk, hmn, hm4, hm3⟩ := hM
          have hH : hi ≤ mm ∧ (hv = none → mv = none ∧ hi = len) ∧ ∀ u, hv = some u → ∀ code, (Instr.sliceBound u mm code).run P w = .ok hi w := by
            unfold aHigh at hhi
            cases high with
            | none =>
              cases hv with
              | none =>
                cases mx with
                | none =>
                  cases mv with
                  | none => simp at hhi; subst hhi; exact ⟨by rw [hmn rfl]; exact hlc, fun _ => ⟨rfl, rfl⟩, fun u hu => by simp at hu⟩
                  | some u => simp at hm4
                | some k => simp at hhi
              | some u => exact hh.elim
            | some hx' =>
              cases hv with
              | none => exact hh.elim
              | some u =>
                simp only at hhi
                obtain ⟨h1, h2⟩ := abound_sound (P := P) hhi hh w
                exact ⟨Nat.le_trans h1 hm1, fun hc => by simp at hc, fun u' hu' code => by cases hu'; exact h2 _ _ hm1⟩
          obtain ⟨hH1, hH2, hH3⟩ := hH
          have hL : lo ≤ hi ∧ (lv = none → lo = 0) ∧ ∀ u, lv = some u → ∀ code, (Instr.sliceBound u hi code).run P w = .ok lo w := by
            cases low with
            | none =>
              cases lv with
              | none => simp at hlo; subst hlo; exact ⟨Nat.zero_le _, fun _ => rfl, fun u hu => by simp at hu⟩
              | some u => exact hl.elim
            | some x' =>
              cases lv with
              | none => exact hl.elim
              | some u =>
                simp only at hlo
                obtain ⟨h1, h2⟩ := abound_sound (P := P) hlo hl w
                exact ⟨h1, fun hc => by simp at hc, fun u' hu' code => by cases hu'; exact h2 _ _ (Nat.le_refl _)⟩
          obtain ⟨hL1, hL2, hL3⟩ := hL
          refine ⟨.slice (if mm = lo then a else a.map (·.add (lo * sz))) (hi - lo) (mm - lo), ?_, ?_⟩
          · have hsb : (Instr.sliceBounds true len c lv hv mv).run P w = .ok (lo, hi, mm) w := by
              unfold Instr.sliceBounds
              cases mv with
              | none =>
                have hmc : mm = c := hmn (by cases mx <;> simp at hm4 ⊢)
                subst hmc
                cases hv with
                | none =>
                  obtain ⟨_, rfl⟩ := hH2 rfl
                  cases lv with
                  | none => rw [hL2 rfl]; rfl
                  | some u => simp [hL3 u rfl]
                | some u' =>
                  cases lv with
                  | none => simp [hH3 u' rfl, hL2 rfl]
                  | some u => simp [hH3 u' rfl, hL3 u rfl]
              | some um =>
                cases hv with
                | none => have := (hH2 rfl).1; simp at this
                | some u' =>
                  cases lv with
                  | none => simp [hm3 um rfl, hH3 u' rfl, hL2 rfl]
                  | some u => simp [hm3 um rfl, hH3 u' rfl, hL3 u rfl]
            simp only [Instr.slice, Sem.run_bind, run_underlying hu, hsb, run_sizeOf' hsz, Result.andThen_ok]
            rfl
          · by_cases he : mm = lo
            · have h0 : hi - lo = 0 := by omega
              have h1 : mm - lo = 0 := by omega
              rw [h0, h1]
              refine .sl0 (fun k hk => ?_)
              unfold subCap at hk
              split at hk
              · rename_i k' hk'; cases hk; have := hmk k' hk'; omega
              · simp at hk
            · rw [if_neg he]
              rcases hca with h0 | ⟨g, hg, ha, hn⟩
              · omega
              · rw [ha]
                simp only [Option.map_some, addr_add, Nat.add_assoc]
                refine .sl hg (by omega) (fun k hk => ?_) ?_
                · unfold subCap at hk
                  split at hk
                  · rename_i k' hk'; cases hk; have := hmk k' hk'; omega
                  · simp at hk
                · have : sz * (mm - lo) + lo * sz ≤ sz * c := by
                    rw [Nat.mul_comm lo sz, ← Nat.mul_add]
                    exact Nat.mul_le_mul_left _ (by omega)
                  omega
        · simp at h
      · simp at h
    · simp at h
  · rename_i s hu
    split at h
    · split at h
      · rename_i hi hhi
        split at h
        · rename_i lo hlo
          cases h
          have := hx.s_inv
          subst this
          have hmv : mv = none := by
            cases mv with
            | none => rfl
            | some u => exact hm.elim
          subst hmv
          have hH : hi ≤ s.size ∧ (hv = none → hi = s.size) ∧ ∀ u, hv = some u → ∀ code, (Instr.sliceBound u s.size code).run P w = .ok hi w := by
            cases high with
            | none =>
              cases hv with
              | none => simp at hhi; subst hhi; exact ⟨Nat.le_refl _, fun _ => rfl, fun u hu => by simp at hu⟩
              | some u => exact hh.elim
            | some hx' =>
              cases hv with
              | none => exact hh.elim
              | some u =>
                obtain ⟨h1, h2⟩ := abound_sound (P := P) hhi hh w
                exact ⟨h1, fun hc => by simp at hc, fun u' hu' code => by cases hu'; exact h2 _ _ (Nat.le_refl _)⟩
          have hL : lo ≤ hi ∧ (lv = none → lo = 0) ∧ ∀ u, lv = some u → ∀ code, (Instr.sliceBound u hi code).run P w = .ok lo w := by
            cases low with
            | none =>
              cases lv with
              | none => simp at hlo; subst hlo; exact ⟨Nat.zero_le _, fun _ => rfl, fun u hu => by simp at hu⟩
              | some u => exact hl.elim
            | some x' =>
              cases lv with
              | none => exact hl.elim
              | some u =>
                obtain ⟨h1, h2⟩ := abound_sound (P := P) hlo hl w
                exact ⟨h1, fun hc => by simp at hc, fun u' hu' code => by cases hu'; exact h2 _ _ (Nat.le_refl _)⟩
          refine ⟨.string (s.extract lo hi), ?_, .s (.str _)⟩
          have hsb : (Instr.sliceBounds false s.size s.size lv hv none).run P w = .ok (lo, hi, s.size) w := by
            unfold Instr.sliceBounds
            cases hv with
            | none =>
              have := hH.2.1 rfl
              subst this
              cases lv with
              | none => rw [hL.2.1 rfl]; rfl
              | some u => simp [hL.2.2 u rfl]
            | some u' =>
              cases lv with
              | none => simp [hH.2.2 u' rfl, hL.2.1 rfl]
              | some u => simp [hH.2.2 u' rfl, hL.2.2 u rfl]
          simp only [Instr.slice, SV.val, Sem.run_bind, run_underlying hu, Result.andThen_ok, Option.isSome_none, Bool.false_eq_true, if_false, hsb, Sem.run_pure]
        · simp at h
      · simp at h
    · simp at h
  · simp at h
end Go.AEv
