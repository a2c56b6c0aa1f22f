/-
  'ae_sound': operations that turn memory or call.
-/
import Derived.Test.YtjofkjbpiaihbaaDoorAEvI
namespace Go.AEv
open Go

variable {C : Ctx}

/-- What may come behind an operation, in the model. -/
def UponOk (C : Ctx) (ρ : List Ghost) (w : World) (fp : Nat → Prop) (K Kp : AV → List (Blk C.X) → Prop) (o : Oper) (a : Act) (next : Act → World → Prop) (Q : Exit → Act → World → Prop) : Prop :=
  (∀ x w', Behind C ρ w fp K x w' → next (a.put o.dst x) w') ∧
  (∀ x w', Behind C ρ w fp Kp x w' → Q (.panic [{ v := x, recovered := false }]) a w')

theorem call_upon {L : Lib C.X} (hL : LibSound C L) {ρ : List Ghost} {m : List (Blk C.X)} {w : World} {fp : Nat → Prop} (hH : HRel C ρ m w fp) {K Kp : AV → List (Blk C.X) → Prop} {f : FuncId} {args : List AV} {vs : List Value}
    (h : L.Γ f args m K Kp) (hv : VsRel ρ args vs) {o : Oper} {a : Act} {next : Act → World → Prop} {Q : Exit → Act → World → Prop} (hU : UponOk C ρ w fp K Kp o a next Q)
    {s : Sem Next} (hs : s.run C.P w = (callFunc f vs.toArray).run C.P w) : o.upon C.P a next Q (s.run C.P w) := by
  obtain ⟨h1, h2⟩ := hL.Γ f args m K Kp h
  rw [hs, h1]
  refine (h2 ρ w fp vs hv hH).mono fun e w' he => ?_
  cases e with
  | returned x => exact hU.1 x w' he
  | panicked ch =>
    obtain ⟨v, m', ρ', fp', x, rfl, hr⟩ := he
    exact hU.2 x w' ⟨v, m', ρ', fp', hr⟩
  | outgrown => exact he.elim

theorem ae_sound {L : Lib C.X} (hL : LibSound C L) {ρ : List Ghost} {m : List (Blk C.X)} {w : World} {fp : Nat → Prop} (hH : HRel C ρ m w fp) {ev : Operand → AV} {a : Act} (hev : ∀ x, VRel ρ (ev x) (a.eval x)) {o : Oper}
    {K Kp : AV → List (Blk C.X) → Prop} (h : ae C.P L ev m o K Kp) {next : Act → World → Prop} {Q : Exit → Act → World → Prop} (hU : UponOk C ρ w fp K Kp o a next Q) :
    o.upon C.P a next Q ((execOp a.eval o).run C.P w) := by
  have hooked : L.hook ev m o K → o.upon C.P a next Q ((execOp a.eval o).run C.P w) := by
    intro h
    rcases hL.hook hH hev h with ⟨x, w', hr, hb⟩ | ⟨w', hr, hb⟩
    · rw [hr]; exact hU.1 x w' hb
    · rw [hr]; exact hU.1 undef w' hb
  unfold ae at h
  split at h
  · -- store
    rename_i t ad x ho
    split at h
    case h_2 => exact h.elim
    rename_i i off had
    split at h
    case h_2 => exact h.elim
    rename_i cs n hcs hn
    split at h
    case h_2 => exact h.elim
    rename_i blk hd hone hblk
    have hd' := of_decide_eq_true hd
    split at h
    case h_2 => exact h.elim
    rename_i hput0
    have hput := Blk.put_of hput0
    have hva := hev ad
    rw [had] at hva
    generalize hra : a.eval ad = va at hva
    cases hva with
    | @ptr _ _ g hg =>
      have hr := avCells_rel hcs (hev x)
      obtain ⟨w', e1, e2, e3⟩ := hH.put (P := C.P) hblk hg hput hr (allOne_vals hone hr)
      have hrun : (execOp a.eval o).run C.P w = .ok .skip w' := by
        have := storeVar_run (t := t) (a := ⟨g.b, g.o + off, none⟩) (v := a.eval x) hn (by have := hr.1; simp at this; omega) e1
        simp [execOp, ho, hra, Instr.storeAt, Instr.sureAddr, this]
      rw [hrun]
      exact hU.1 undef w' ⟨_, _, ρ, fp, h, ⟨.refl _, e3, fun _ hb => .inl hb⟩, .any _, e2⟩
  · -- alloc
    rename_i t ho
    split at h
    case h_2 => exact h.elim
    rename_i cs hz
    unfold azero at hz
    split at hz
    case h_2 => simp at hz
    rename_i it hit
    split at hz
    case h_2 => simp at hz
    rename_i z hzz
    cases hz
    obtain ⟨g, g1, g2, g3, g4, g5⟩ := hH.alloc (vsRel_ofC0 ρ z.cells.toList) t
    have hrun : (execOp a.eval o).run C.P w = .ok (.value (.pointer (some ⟨w.heap.size, 0, none⟩))) (w.alloc (.cells z.cells t)) := by
      simp [execOp, ho, Instr.alloc, zeroValue, typeInfo, hit, hzz, newVar, newRow]
    rw [hrun]
    refine hU.1 _ _ ⟨_, _, _, _, h, ⟨⟨_, rfl⟩, fr_alloc _ _ _, ?_⟩, ?_, by simpa using g4⟩
    · rintro b (hb | rfl)
      · exact .inl hb
      · exact .inr (Nat.le_refl _)
    · have := VRel.ptr (ρ := ρ ++ [g]) (i := m.length) (off := 0) (g := g) (by rw [← g5]; simp)
      rwa [g1, g2] at this
  · -- box
    rename_i t x ho
    split at h
    case h_2 => exact h.elim
    rename_i cs hcs
    have hr := avCells_rel hcs (hev x)
    obtain ⟨g, g1, g2, g3, g4, g5⟩ := hH.alloc hr t
    have hrun : (execOp a.eval o).run C.P w = .ok (.value (.pointer (some ⟨w.heap.size, 0, none⟩))) (w.alloc (.cells (a.eval x).cells t)) := by
      simp [execOp, ho, Instr.box, newVar, newRow]
    rw [hrun]
    refine hU.1 _ _ ⟨_, _, _, _, h, ⟨⟨_, rfl⟩, fr_alloc _ _ _, ?_⟩, ?_, by simpa using g4⟩
    · rintro b (hb | rfl)
      · exact .inl hb
      · exact .inr (Nat.le_refl _)
    · have := VRel.ptr (ρ := ρ ++ [g]) (i := m.length) (off := 0) (g := g) (by rw [← g5]; simp)
      rwa [g1, g2] at this
  · -- panic
    rename_i x ho
    split at h
    case h_2 => exact h.elim
    rename_i t v hx
    have hxv := hev x
    rw [hx] at hxv
    generalize hra : a.eval x = va at hxv
    cases hxv with
    | @ifc _ _ v' hv =>
      have hrun : (execOp a.eval o).run C.P w = .halt (.panic (.iface t v')) w := by
        simp [execOp, ho, hra, Instr.panic, goPanic]
      rw [hrun]
      exact hU.2 _ _ ⟨_, _, ρ, fp, h, .refl _ _ _, .ifc hv, hH⟩
  · -- call
    rename_i c ho
    have hargs := vsRel_map hev c.args.toList
    split at h
    · rename_i f hc
      split at h
      case h_2 => exact h.elim
      rename_i fid caps hf
      have hfv := hev f
      rw [hf] at hfv
      obtain ⟨vs, hra, hv⟩ := hfv.fn_inv
      refine call_upon hL hH h (hargs.append hv) hU ?_
      have e : (List.map a.eval c.args.toList ++ vs.toList).toArray = c.args.map a.eval ++ vs := by apply Array.ext'; simp
      rw [e]
      simp [execOp, ho, resolve, hc, hra, Deferred.ofValue, invoke]
    · rename_i r name hc
      split at h
      case h_2 => exact h.elim
      rename_i t i off hr
      split at h
      case h_2 => exact h.elim
      rename_i fid hmu
      have hrv := hev r
      rw [hr] at hrv
      generalize hra : a.eval r = va at hrv
      cases hrv with
      | ifc hp =>
        cases hp with
        | @ptr _ _ g hg =>
          refine call_upon hL hH h (VsRel.cons (.ptr hg) hargs) hU ?_
          have := hL.μ t name fid hmu ⟨g.b, g.o + off, none⟩ (c.args.map a.eval) w
          have e : (Value.pointer (some ⟨g.b, g.o + off, none⟩) :: List.map a.eval c.args.toList).toArray = #[Value.pointer (some ⟨g.b, g.o + off, none⟩)] ++ c.args.map a.eval := by apply Array.ext'; simp
          rw [e, ← this]
          have e1 : (#[Value.iface t (.pointer (some ⟨g.b, g.o + off, none⟩))] ++ Array.map a.eval c.args)[0]? = some (Value.iface t (.pointer (some ⟨g.b, g.o + off, none⟩))) := by
            rw [Array.getElem?_append_left (by simp)]; rfl
          have e2 : (#[Value.iface t (.pointer (some ⟨g.b, g.o + off, none⟩))] ++ Array.map a.eval c.args).extract 1 (#[Value.iface t (.pointer (some ⟨g.b, g.o + off, none⟩))] ++ Array.map a.eval c.args).size = Array.map a.eval c.args := by
            apply Array.ext'; simp; rw [List.take_of_length_le (by simp)]
          simp only [execOp, ho, resolve, hc, hra, Sem.run_bind, Sem.run_pure, Result.andThen_ok, invoke, e1, e2]
    · rename_i hc
      split at h
      case h_2 => exact h.elim
      rename_i s x st xt ha ht
      have hca : c.args = #[s, x] := by apply Array.toList_inj.1; simpa using ha
      have hct : c.argTypes = #[st, xt] := by apply Array.toList_inj.1; simpa using ht
      obtain ⟨r, w', e1, e2⟩ := aappend_sound (ty := o.type) hH h (hev s) (hev x)
      have hrun : (execOp a.eval o).run C.P w = .ok (.value r) w' := by
        simp [execOp, ho, resolve, hc, hca, hct, invoke, builtin, e1]
      rw [hrun]
      exact hU.1 _ _ e2
    · exact hooked h
  · exact hooked h
end Go.AEv
