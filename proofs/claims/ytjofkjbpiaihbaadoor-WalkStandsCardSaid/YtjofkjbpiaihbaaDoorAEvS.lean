/-
  A new slice of a length that is known.
-/
import Derived.Test.YtjofkjbpiaihbaaDoorAEvR
import Derived.Laws.MakeOwn
namespace Go.AEv
open Go
variable {C : Ctx}

def repL {α : Type} : Nat → α → List α
  | 0, _ => []
  | n + 1, x => x :: repL n x
theorem repL_eq {α : Type} (x : α) : ∀ n, repL n x = List.replicate n x
  | 0 => rfl
  | n + 1 => by simp [repL, repL_eq x n, List.replicate_succ]
/-- 'make([]T, n)', where T takes one cell. -/
def mkSliceH {X : Type} (P : Program) (ev : Operand → AV) (m : List (Blk X)) (o : Oper) (K : AV → List (Blk X) → Prop) : Prop :=
  match o.op with
  | .makeSlice t l c => match P.underlying t, ev l, ev c with
    | some (.slice e), .s (.i .i64 l), .s (.i .i64 c) => match P.info? e with
      | some i => match i.zero, Nat.beq i.size 1, decide (0 ≤ l ∧ l = c ∧ c ≤ 1048576 ∧ i.bytes ≤ 1024) with
        | some z, true, true => match z.cells.toList with
          | [z0] => K (.sl m.length 0 1 l.toNat (some l.toNat)) (m ++ [mkBlk (repL l.toNat (ofC0 z0))])
          | _ => False
        | _, _, _ => False
      | none => False
    | _, _, _ => False
  | _ => False
theorem vsRel_rep (ρ : List Ghost) (n : Nat) {x : AV} {v : Value} (h : VRel ρ x v) : VsRel ρ (repL n x) (List.replicate n v) := by
  rw [repL_eq]
  refine ⟨by simp, fun k y u hy hu => ?_⟩
  have h1 := List.mem_of_getElem? hy
  have h2 := List.mem_of_getElem? hu
  rw [(List.mem_replicate.1 h1).2, (List.mem_replicate.1 h2).2]
  exact h
theorem mkSliceH_sound {ρ : List Ghost} {m : List (Blk C.X)} {w : World} {fp : Nat → Prop} {ev : Operand → AV} {rv : Operand → Value} {o : Oper} {K : AV → List (Blk C.X) → Prop} (hH : HRel C ρ m w fp) (hev : ∀ x, VRel ρ (ev x) (rv x))
    (h : mkSliceH C.P ev m o K) : ∃ x w', (execOp rv o).run C.P w = .ok (.value x) w' ∧ Behind C ρ w fp K x w' := by
  unfold mkSliceH at h
  split at h
  case h_2 => exact h.elim
  rename_i t lo co ho
  split at h
  case h_2 => exact h.elim
  rename_i e l c hu hl hc
  split at h
  case h_2 => exact h.elim
  rename_i i hi
  split at h
  case h_2 => exact h.elim
  rename_i z hz h1 hd
  obtain ⟨d1, d2, d3, d4⟩ := of_decide_eq_true hd
  have h1' := Nat.eq_of_beq_eq_true h1
  subst d2
  split at h
  case h_2 => exact h.elim
  rename_i z0 hz0
  have hlv : rv lo = .int .i64 l := by have := hev lo; rw [hl] at this; exact this.s_inv
  have hcv : rv co = .int .i64 l := by have := hev co; rw [hc] at this; exact this.s_inv
  have hb : (i.bytes : Int) * l ≤ 281474976710656 := by
    have : (i.bytes : Int) * l ≤ 1024 * 1048576 := Int.mul_le_mul (by omega) d3 d1 (by omega)
    omega
  have hrun := run_makeSlice (P := C.P) (w := w) t e i z hu hi hz .i64 .i64 l l d1 (Int.le_refl _) (by rw [h1']; omega) hb (by omega)
  have hcells : madeCells z.cells (l.toNat * i.size) = (List.replicate l.toNat z0).toArray := by
    have hz1 : z.cells = #[z0] := Array.toList_inj.1 hz0
    rw [h1', Nat.mul_one, hz1]
    apply Array.ext
    · simp [madeCells]
    · intro k hk1 hk2
      simp [madeCells, Nat.mod_one]
  rw [hcells] at hrun
  obtain ⟨g, g1, g2, g3, g4, g5⟩ := hH.alloc (vsRel_rep ρ l.toNat (ofC0_rel ρ z0)) e
  refine ⟨.slice (some ⟨w.heap.size, 0, none⟩) l.toNat l.toNat, _, ?_, _, _, _, _, h, ⟨⟨_, rfl⟩, fr_alloc _ _ _, ?_⟩, ?_, g4⟩
  · simp only [execOp, ho, hlv, hcv, Sem.run_bind, hrun, Result.andThen_ok, Sem.run_pure]
  · rintro b (hb | rfl)
    · exact .inl hb
    · exact .inr (Nat.le_refl _)
  · have := VRel.sl (ρ := ρ ++ [g]) (i := m.length) (off := 0) (es := 1) (len := l.toNat) (c := l.toNat) (cap := some l.toNat) (g := g) (by rw [← g5]; simp) (Nat.le_refl _) (fun k hk => by cases hk; rfl) (by rw [g3]; simp)
    rwa [g1, g2] at this
theorem mkSliceH_congr {X : Type} {P : Program} {ev ev' : Operand → AV} {m : List (Blk X)} {o : Oper} {K : AV → List (Blk X) → Prop} (h : ∀ x ∈ o.op.operands, ev x = ev' x) : mkSliceH P ev m o K = mkSliceH P ev' m o K := by
  obtain ⟨dst, op, ty, pos, aft, guard⟩ := o
  simp only at h
  cases op <;> simp only [mkSliceH]
  case makeSlice t l c => rw [h l (by simp [Op.operands]), h c (by simp [Op.operands])]
/-- The library that knows how slices are made, and no function. -/
def Lib.std (X : Type) (P : Program) : Lib X := ⟨fun _ _ _ _ _ => False, fun _ _ => none, fun ev m o K => mkSliceH P ev m o K⟩
theorem Lib.std_sound : LibSound C (Lib.std C.X C.P) :=
  ⟨fun _ _ _ _ _ h => h.elim, fun hH hev h => .inl (mkSliceH_sound hH hev h), fun h => mkSliceH_congr h, fun _ _ _ h => by simp [Lib.std] at h⟩
end Go.AEv
