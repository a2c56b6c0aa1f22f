/-
  How memory is turned: a block that is written, a block that is new; what a contract of a function is.
-/
import Derived.Test.YtjofkjbpiaihbaaDoorAEvG
namespace Go.AEv
open Go

variable {C : Ctx}

/-- From one moment to a later one. -/
structure St (ρ : List Ghost) (w : World) (fp : Nat → Prop) (ρ' : List Ghost) (w' : World) (fp' : Nat → Prop) : Prop where
  pfx : Pfx ρ ρ'
  fr : Fr fp w w'
  sub : ∀ b, fp' b → fp b ∨ w.heap.size ≤ b
theorem St.refl (ρ : List Ghost) (w : World) (fp : Nat → Prop) : St ρ w fp ρ w fp := ⟨.refl _, .refl _ _, fun _ h => .inl h⟩
theorem St.trans {ρ ρ' ρ'' : List Ghost} {w w' w'' : World} {fp fp' fp'' : Nat → Prop} (h : St ρ w fp ρ' w' fp') (h' : St ρ' w' fp' ρ'' w'' fp'') : St ρ w fp ρ'' w'' fp'' :=
  ⟨h.pfx.trans h'.pfx, h.fr.trans h'.fr h.sub, fun b hb => by
    rcases h'.sub b hb with h1 | h1
    · exact h.sub b h1
    · exact .inr (Nat.le_trans h.fr.size h1)⟩

theorem HSep.upd {ρ : List Ghost} {m : List (Blk C.X)} {w w' : World} {W R : Nat → Nat → Prop} (h : HSep C ρ m w W R) {i : Nat} {g : Ghost} {blk' : Blk C.X}
    (hi : i < m.length) (hg : ρ[i]? = some g) (hs : w.heap.size ≤ w'.heap.size) (hkeep : ∀ b, b < w.heap.size → ¬ W i b → w'.heap[b]? = w.heap[b]?) (hB : BRel C ρ g w' blk' (W i) (R i)) :
    HSep C ρ (setAt m i blk') w' W R where
  len := by rw [setAt_eq]; simpa using h.len
  blk := fun j blk gj hj hgj => by
    rw [setAt_eq] at hj
    by_cases hji : j = i
    · subst hji
      rw [hg] at hgj; cases hgj
      simp [hi] at hj; subst hj
      exact hB
    · rw [List.getElem?_set_ne (by omega)] at hj
      refine (h.blk j blk gj hj hgj).congr (fun b hb => hkeep b (h.lt j b hb) (fun hw => ?_))
      rcases hb with hb | hb
      · exact hji (h.ww j i b hb hw)
      · exact h.wr i j b hw hb
  out := fun j b hj => h.out j b (by rw [setAt_eq] at hj; simpa using hj)
  ww := h.ww
  wr := h.wr
  lt := fun j b hb => Nat.lt_of_lt_of_le (h.lt j b hb) hs
  ge := h.ge
  inv := C.invFrame h.inv (fun b hb => hkeep b (Nat.lt_of_lt_of_le hb h.nGle) (fun hw => by have := h.ge i b hw; omega))
  nGle := Nat.le_trans h.nGle hs

/-- What was there stays as it was, where the world only grows. -/
theorem HSep.grow {ρ : List Ghost} {m : List (Blk C.X)} {w w' : World} {W R : Nat → Nat → Prop} (h : HSep C ρ m w W R)
    (hs : w.heap.size ≤ w'.heap.size) (hkeep : ∀ b, b < w.heap.size → w'.heap[b]? = w.heap[b]?) : HSep C ρ m w' W R where
  len := h.len
  blk := fun j blk gj hj hgj => (h.blk j blk gj hj hgj).congr (fun b hb => hkeep b (h.lt j b hb))
  out := h.out
  ww := h.ww
  wr := h.wr
  lt := fun j b hb => Nat.lt_of_lt_of_le (h.lt j b hb) hs
  ge := h.ge
  inv := C.invFrame h.inv (fun b hb => hkeep b (Nat.lt_of_lt_of_le hb h.nGle))
  nGle := Nat.le_trans h.nGle hs

def addS (W : Nat → Nat → Prop) (n : Nat) (S : Nat → Prop) : Nat → Nat → Prop := fun i b => if i = n then S b else W i b
theorem HSep.push {ρ : List Ghost} {m : List (Blk C.X)} {w : World} {W R : Nat → Nat → Prop} (h : HSep C ρ m w W R) {g : Ghost} {blk : Blk C.X} {Wn Rn : Nat → Prop}
    (hB : BRel C (ρ ++ [g]) g w blk Wn Rn) (hlt : ∀ b, Wn b ∨ Rn b → b < w.heap.size) (hge : ∀ b, Wn b → C.nG ≤ b) (hww : ∀ i b, Wn b → ¬ W i b ∧ ¬ R i b) (hwr : ∀ i b, Rn b → ¬ W i b) (hself : ∀ b, Wn b → ¬ Rn b) :
    HSep C (ρ ++ [g]) (m ++ [blk]) w (addS W m.length Wn) (addS R m.length Rn) where
  len := by simp [h.len]
  blk := fun j blk' gj hj hgj => by
    by_cases hjm : j < m.length
    · rw [List.getElem?_append_left hjm] at hj
      rw [List.getElem?_append_left (by rw [h.len]; exact hjm)] at hgj
      have e1 : addS W m.length Wn j = W j := by funext b; simp [addS, show j ≠ m.length by omega]
      have e2 : addS R m.length Rn j = R j := by funext b; simp [addS, show j ≠ m.length by omega]
      rw [e1, e2]
      exact (h.blk j blk' gj hj hgj).mono ⟨[g], rfl⟩
    · have hjl : j = m.length := by
        have := (List.getElem?_eq_some_iff.1 hj).1
        simp at this; omega
      subst hjl
      simp at hj; subst hj
      rw [List.getElem?_append_right (by rw [h.len]; exact Nat.le_refl _)] at hgj
      simp [h.len] at hgj; subst hgj
      have e1 : addS W m.length Wn m.length = Wn := by funext b; simp [addS]
      have e2 : addS R m.length Rn m.length = Rn := by funext b; simp [addS]
      rw [e1, e2]
      exact hB
  out := fun j b hj => by
    simp at hj
    simp only [addS, show j ≠ m.length by omega, if_false]
    exact h.out j b (by omega)
  ww := fun i j b hi hj => by
    simp only [addS] at hi hj
    split at hi <;> split at hj
    · omega
    · exact absurd hj (hww j b hi).1
    · exact absurd hi (hww i b hj).1
    · exact h.ww i j b hi hj
  wr := fun i j b hi hj => by
    simp only [addS] at hi hj
    split at hi <;> split at hj
    · exact hself b hi hj
    · exact (hww j b hi).2 hj
    · exact hwr i b hj hi
    · exact h.wr i j b hi hj
  lt := fun j b hb => by
    simp only [addS] at hb
    by_cases hj : j = m.length
    · simp only [hj, if_true] at hb; exact hlt b hb
    · simp only [hj, if_false] at hb; exact h.lt j b hb
  ge := fun j b hb => by
    simp only [addS] at hb
    split at hb
    · exact hge b hb
    · exact h.ge j b hb
  inv := h.inv
  nGle := h.nGle

/-! ### a new block -/
theorem alloc_get_lt (w : World) (o : Obj) {b : Nat} (h : b < w.heap.size) : (w.alloc o).heap[b]? = w.heap[b]? := by
  show (w.heap.push o)[b]? = w.heap[b]?
  simp [Array.getElem?_push, show b ≠ w.heap.size by omega]
theorem alloc_get_new (w : World) (o : Obj) : (w.alloc o).heap[w.heap.size]? = some o := by
  show (w.heap.push o)[w.heap.size]? = some o
  simp
theorem alloc_size (w : World) (o : Obj) : (w.alloc o).heap.size = w.heap.size + 1 := by
  show (w.heap.push o).size = w.heap.size + 1
  simp
theorem fr_alloc (fp : Nat → Prop) (w : World) (o : Obj) : Fr fp w (w.alloc o) :=
  ⟨by rw [alloc_size]; omega, fun b hb _ => alloc_get_lt w o hb, rfl, rfl, rfl⟩

/-- All that stands there is scalar. -/
def allS : List AV → Option (List SV)
  | [] => some []
  | .s x :: r => match allS r with
    | some l => some (x :: l)
    | none => none
  | _ :: _ => none
theorem allS_eq : ∀ {c : List AV} {l : List SV}, allS c = some l → c = l.map .s
  | [], l, h => by simp [allS] at h; subst h; rfl
  | x :: r, l, h => by
    cases x <;> simp only [allS] at h <;> first | (simp at h; done) | skip
    split at h
    · rename_i l' hl; cases h; rw [allS_eq hl]; rfl
    · simp at h
theorem vsRel_s_inv {ρ : List Ghost} {l : List SV} {vs : List Value} (h : VsRel ρ (l.map .s) vs) : vs = l.map SV.val := by
  apply List.ext_getElem?
  intro k
  by_cases hk : k < l.length
  · have hk' : k < vs.length := by have := h.1; simp at this; omega
    have := h.2 k (.s l[k]) vs[k] (by simp [hk]) (by simp [hk'])
    simp [hk, hk', this.s_inv]
  · have hk' : ¬ k < vs.length := by have := h.1; simp at this; omega
    simp [hk, hk']
def mkBlk {X : Type} (c : List AV) : Blk X :=
  match allS c with
  | some l => .flat l
  | none => .row c

theorem cell_new (w : World) (cs : Array Value) (t : TypeId) (fr : Nat × Nat) (k : Nat) : (w.alloc (.cells cs t fr)).cell? ⟨w.heap.size, k, none⟩ = cs[k]? := by
  unfold World.cell?
  rw [alloc_get_new]
  rfl
theorem frozen_new (w : World) (cs : Array Value) (t : TypeId) (k : Nat) : (w.alloc (.cells cs t (0, 0))).frozen? ⟨w.heap.size, k, none⟩ = false := by
  unfold World.frozen?
  rw [alloc_get_new]
  simp
theorem seg_new (w : World) (vs : List Value) (t : TypeId) : Seg (w.alloc (.cells vs.toArray t (0, 0))) w.heap.size 0 vs := fun k _ => by
  rw [cell_new]; simp
theorem unfrozen_new (w : World) (cs : Array Value) (t : TypeId) (n : Nat) : Unfrozen (w.alloc (.cells cs t (0, 0))) w.heap.size 0 n := fun k _ => frozen_new w cs t _

theorem mkBlk_rel {ρ : List Ghost} {c : List AV} {vs : List Value} (h : VsRel ρ c vs) (w : World) (t : TypeId) (v : Value) (R : Nat → Prop) (hR : ∀ b, ¬ R b) :
    BRel C ρ ⟨w.heap.size, 0, vs.length, v⟩ (w.alloc (.cells vs.toArray t (0, 0))) (mkBlk c) (fun b => b = w.heap.size) R := by
  unfold mkBlk
  split
  · rename_i l hl
    have := allS_eq hl
    subst this
    have := vsRel_s_inv h
    subst this
    exact ⟨seg_new w _ t, unfrozen_new w _ t _, by simp, fun b => Iff.rfl, hR⟩
  · exact ⟨⟨vs, h, seg_new w _ t, unfrozen_new w _ t _⟩, h.1.symm, fun b => Iff.rfl, hR⟩

/-- A new variable. -/
theorem HRel.alloc {ρ : List Ghost} {m : List (Blk C.X)} {w : World} {fp : Nat → Prop} (h : HRel C ρ m w fp) {c : List AV} {vs : List Value} (hv : VsRel ρ c vs) (t : TypeId) :
    ∃ g : Ghost, g.b = w.heap.size ∧ g.o = 0 ∧ g.n = vs.length ∧ HRel C (ρ ++ [g]) (m ++ [mkBlk c]) (w.alloc (.cells vs.toArray t (0, 0))) (fun b => fp b ∨ b = w.heap.size) ∧ ρ.length = m.length := by
  obtain ⟨W, R, hs, hf⟩ := h
  refine ⟨⟨w.heap.size, 0, vs.length, undef⟩, rfl, rfl, rfl, ⟨_, _, HSep.push (Wn := fun b => b = w.heap.size) (Rn := fun _ => False) (hs.grow (by rw [alloc_size]; omega) (fun b hb => alloc_get_lt w _ hb))
    (mkBlk_rel (hv.mono ⟨_, rfl⟩) w t _ _ (fun _ h => h)) ?_ ?_ ?_ ?_ ?_, ?_⟩, hs.len⟩
  · rintro b (rfl | h)
    · rw [alloc_size]; omega
    · exact h.elim
  · rintro b rfl; exact hs.nGle
  · rintro i b rfl
    exact ⟨fun hw => by have := hs.lt i _ (.inl hw); omega, fun hw => by have := hs.lt i _ (.inr hw); omega⟩
  · intro i b h; exact h.elim
  · intro b _ h; exact h
  · intro i b hb
    simp only [addS] at hb
    split at hb
    · exact .inr hb
    · exact .inl (hf i b hb)

/-! ### a block that is written -/
def Blk.put {X : Type} : Blk X → Nat → List AV → Option (Blk X)
  | .row c, off, cs => match decide (off + cs.length ≤ c.length) with
    | true => some (.row (putL c off cs))
    | false => none
  | .flat c, off, cs => match allS cs with
    | some l => match decide (off + l.length ≤ c.length) with
      | true => some (.flat (putL c off l))
      | false => none
    | none => none
  | .vec c, off, cs => match allS cs with
    | some l => match decide (off + l.length ≤ c.length) with
      | true => some (.vec (putL c off l))
      | false => none
    | none => none
  | _, _, _ => none

theorem setCells_heap_other (b : Nat) : ∀ (vs : List Value) (o : Nat) (w : World) {b' : Nat}, b' ≠ b → (w.setCells b o vs).heap[b']? = w.heap[b']?
  | [], _, _, _, _ => rfl
  | v :: r, o, w, b', h => by
    rw [World.setCells, setCells_heap_other b r (o + 1) _ h]
    simp [World.setCell, Array.getElem?_modify, show ¬ b = b' from fun e => h e.symm]
theorem setCells_size (b : Nat) : ∀ (vs : List Value) (o : Nat) (w : World), (w.setCells b o vs).heap.size = w.heap.size
  | [], _, _ => rfl
  | v :: r, o, w => by rw [World.setCells, setCells_size b r]; simp [World.setCell]
theorem setCells_tape (b : Nat) : ∀ (vs : List Value) (o : Nat) (w : World), (w.setCells b o vs).tape = w.tape ∧ (w.setCells b o vs).os = w.os ∧ (w.setCells b o vs).output = w.output
  | [], _, _ => ⟨rfl, rfl, rfl⟩
  | v :: r, o, w => by rw [World.setCells]; exact setCells_tape b r (o + 1) _
theorem seg_setCells {w : World} {b o off : Nat} {vs us : List Value} (h : Seg w b o vs) (hb : off + us.length ≤ vs.length) : Seg (w.setCells b (o + off) us) b o (putL vs off us) := by
  intro k hk
  rw [putL_length] at hk
  rw [putL_get _ _ _ hb]
  have hsome : ∀ j, j < us.length → (w.cell? ⟨b, o + off + j, none⟩).isSome = true := fun j hj => by
    rw [Nat.add_assoc, h _ (by omega)]; simp; omega
  split
  · rename_i hk'
    have := World.cell?_setCells_in b us (o + off) w hsome (k - off) (by omega)
    rw [show o + off + (k - off) = o + k by omega] at this
    rw [this]; simp
  · rename_i hk'
    rw [World.cell?_setCells_out b us (o + off) w ⟨b, o + k, none⟩ (fun _ _ => by simp; omega)]
    exact h k hk
theorem unfrozen_setCells {w : World} {b o n : Nat} (h : Unfrozen w b o n) (b' o' : Nat) (us : List Value) : Unfrozen (w.setCells b' o' us) b o n := fun k hk => by
  rw [World.frozen?_setCells]; exact h k hk
theorem putL_map {α β : Type} (f : α → β) : ∀ (vs l : List α) (off : Nat), (putL l off vs).map f = putL (l.map f) off (vs.map f)
  | [], _, _ => by simp [putL]
  | v :: vs, l, off => by simp only [putL, List.map_cons]; rw [putL_map f vs]; simp [setAt_eq, List.map_set]
theorem cell_isSome_setCells (b o : Nat) (us : List Value) (w : World) (a : Addr) (h : (w.cell? a).isSome = true) : ((w.setCells b o us).cell? a).isSome = true := by
  induction us generalizing o w with
  | nil => exact h
  | cons v r ih =>
    rw [World.setCells]
    refine ih _ _ ?_
    obtain ⟨u, hu⟩ := Option.isSome_iff_exists.1 h
    by_cases he : (⟨b, o, none⟩ : Addr) = a
    · subst he; simp [World.cell?_setCell_same _ _ _ hu]
    · rw [World.cell?_setCell_other _ _ _ _ he]; exact h

/-- What a write to a block does: the run of the stores, and what the block then is. -/
theorem Blk.put_sound {P : Program} {ρ : List Ghost} {g : Ghost} {w : World} {blk blk' : Blk C.X} {W R : Nat → Prop} (h : BRel C ρ g w blk W R) {off : Nat} {cs : List AV} {us : List Value}
    (hp : blk.put off cs = some blk') (hr : VsRel ρ cs us) (hone : ∀ v ∈ us, v.oneCell' = true) :
    (storeCells ⟨g.b, g.o + off, none⟩ us 0).run P w = .ok () (w.setCells g.b (g.o + off) us) ∧ BRel C ρ g (w.setCells g.b (g.o + off) us) blk' W R ∧ (∀ b, W b → b = g.b) := by
  have stores : ∀ {vs : List Value}, Seg w g.b g.o vs → Unfrozen w g.b g.o vs.length → off + us.length ≤ vs.length →
      (storeCells ⟨g.b, g.o + off, none⟩ us 0).run P w = .ok () (w.setCells g.b (g.o + off) us) := by
    intro vs hs hf hb
    have := run_storeCells_cells (P := P) g.b (g.o + off) us 0 w (fun j hj => by rw [Nat.add_zero, Nat.add_assoc, hs _ (by omega)]; simp; omega)
      (fun j hj => by rw [Nat.add_zero, Nat.add_assoc]; exact hf _ (by omega)) hone
    simpa using this
  cases blk with
  | row c =>
    simp only [Blk.put] at hp
    split at hp
    · rename_i hd
      cases hp
      have hd' := of_decide_eq_true hd
      obtain ⟨⟨vs, hv, hs, hf⟩, hn, hW, hR⟩ := h
      have hb : off + us.length ≤ vs.length := by rw [← hr.1, ← hv.1]; exact hd'
      exact ⟨stores hs hf hb, ⟨⟨putL vs off us, hv.put hr hd', seg_setCells hs hb, by rw [putL_length]; exact unfrozen_setCells hf _ _ _⟩, by rw [putL_length]; exact hn, hW, hR⟩, fun b hb => (hW b).1 hb⟩
    · simp at hp
  | flat c =>
    simp only [Blk.put] at hp
    split at hp
    · rename_i l hl
      split at hp
      · rename_i hd
        cases hp
        have hd' := of_decide_eq_true hd
        have := allS_eq hl; subst this
        have := vsRel_s_inv hr; subst this
        obtain ⟨hs, hf, hn, hW, hR⟩ := h
        refine ⟨stores hs (by simpa using hf) (by simpa using hd'), ⟨?_, by rw [putL_length]; exact unfrozen_setCells hf _ _ _, by rw [putL_length]; exact hn, hW, hR⟩, fun b hb => (hW b).1 hb⟩
        rw [putL_map]; exact seg_setCells hs (by simpa using hd')
      · simp at hp
    · simp at hp
  | vec c =>
    simp only [Blk.put] at hp
    split at hp
    · rename_i l hl
      split at hp
      · rename_i hd
        cases hp
        have hd' := of_decide_eq_true hd
        have := allS_eq hl; subst this
        have := vsRel_s_inv hr; subst this
        obtain ⟨hs, hf, hn, hc, hW, hR⟩ := h
        refine ⟨stores hs (fun k hk => hf k (by simp at hk; omega)) (by simpa using hd'), ⟨?_, unfrozen_setCells hf _ _ _, by rw [putL_length]; exact hn, fun k hk => cell_isSome_setCells _ _ _ _ _ (hc k hk), hW, hR⟩, fun b hb => ((hW b).1 hb).1⟩
        rw [putL_map]; exact seg_setCells hs (by simpa using hd')
      · simp at hp
    · simp at hp
  | dead => simp [Blk.put] at hp
  | ro c => simp [Blk.put] at hp
  | rrow c => simp [Blk.put] at hp
  | ext x => simp [Blk.put] at hp

theorem HRel.put {P : Program} {ρ : List Ghost} {m : List (Blk C.X)} {w : World} {fp : Nat → Prop} (h : HRel C ρ m w fp) {i off : Nat} {g : Ghost} {blk blk' : Blk C.X} {cs : List AV} {us : List Value}
    (hb : nth m i = some blk) (hg : ρ[i]? = some g) (hp : blk.put off cs = some blk') (hr : VsRel ρ cs us) (hone : ∀ v ∈ us, v.oneCell' = true) :
    ∃ w', (storeCells ⟨g.b, g.o + off, none⟩ us 0).run P w = .ok () w' ∧ HRel C ρ (setAt m i blk') w' fp ∧ Fr fp w w' := by
  obtain ⟨W, R, hs, hf⟩ := h
  have hi : m[i]? = some blk := by rw [← nth_eq]; exact hb
  have hil : i < m.length := (List.getElem?_eq_some_iff.1 hi).1
  obtain ⟨h1, h2, h3⟩ := Blk.put_sound (P := P) (hs.blk i blk g hi hg) hp hr hone
  have hkeep : ∀ b, b < w.heap.size → b ≠ g.b → (w.setCells g.b (g.o + off) us).heap[b]? = w.heap[b]? := fun b _ hne => setCells_heap_other _ _ _ _ hne
  by_cases hWg : W i g.b
  · refine ⟨_, h1, ⟨W, R, hs.upd hil hg (by rw [setCells_size]; omega) (fun b hb hn => hkeep b hb (fun e => hn (e ▸ hWg))) h2, hf⟩, ?_⟩
    exact ⟨by rw [setCells_size]; omega, fun b hb hn => hkeep b hb (fun e => hn (e ▸ hf i _ hWg)), (setCells_tape _ _ _ _).1, (setCells_tape _ _ _ _).2.1, (setCells_tape _ _ _ _).2.2⟩
  · -- nothing is written there: the block is empty
    have hus : us = [] := by
      have hB := hs.blk i blk g hi hg
      cases blk with
      | row c => exact absurd ((hB.2.2.1 _).2 rfl) hWg
      | flat c => exact absurd ((hB.2.2.2.1 _).2 rfl) hWg
      | vec c =>
        have h0 : g.n = 0 := by
          by_cases h0 : g.n = 0
          · exact h0
          · exact absurd ((hB.2.2.2.2.1 _).2 ⟨rfl, h0⟩) hWg
        simp only [Blk.put] at hp
        split at hp
        · rename_i l hl
          split at hp
          · rename_i hd
            have hd' := of_decide_eq_true hd
            have := allS_eq hl; subst this
            have hc := hB.2.2.1
            have := hr.1
            simp at this
            exact List.length_eq_zero_iff.1 (by omega)
          · simp at hp
        · simp at hp
      | dead => simp [Blk.put] at hp
      | ro c => simp [Blk.put] at hp
      | rrow c => simp [Blk.put] at hp
      | ext x => simp [Blk.put] at hp
    subst hus
    exact ⟨_, h1, ⟨W, R, hs.upd hil hg (by rw [setCells_size]; omega) (fun b _ _ => rfl) h2, hf⟩, Fr.refl _ _⟩

theorem HSep.kill {ρ : List Ghost} {m : List (Blk C.X)} {w : World} {W R : Nat → Nat → Prop} (h : HSep C ρ m w W R) (i : Nat) :
    HSep C ρ (setAt m i .dead) w (fun j b => j ≠ i ∧ W j b) (fun j b => j ≠ i ∧ R j b) where
  len := by rw [setAt_eq]; simpa using h.len
  blk := fun j blk gj hj hgj => by
    rw [setAt_eq] at hj
    by_cases hji : j = i
    · subst hji
      have hl := (List.getElem?_eq_some_iff.1 hj).1
      simp at hl
      simp [hl] at hj; subst hj
      exact ⟨fun b hb => hb.1 rfl, fun b hb => hb.1 rfl⟩
    · rw [List.getElem?_set_ne (by omega)] at hj
      have e1 : (fun b => j ≠ i ∧ W j b) = W j := by funext b; simp [hji]
      have e2 : (fun b => j ≠ i ∧ R j b) = R j := by funext b; simp [hji]
      rw [e1, e2]
      exact h.blk j blk gj hj hgj
  out := fun j b hj => by
    have := h.out j b (by rw [setAt_eq] at hj; simpa using hj)
    exact ⟨fun hw => this.1 hw.2, fun hw => this.2 hw.2⟩
  ww := fun a b c ha hb => h.ww a b c ha.2 hb.2
  wr := fun a b c ha hb => h.wr a b c ha.2 hb.2
  lt := fun j b hb => h.lt j b (hb.imp (·.2) (·.2))
  ge := fun j b hb => h.ge j b hb.2
  inv := h.inv
  nGle := h.nGle
end Go.AEv
