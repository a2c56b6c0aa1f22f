/-
  All quiet operations under one name.
-/
import Derived.Test.YtjofkjbpiaihbaaDoorAEvF
namespace Go.AEv
open Go

variable {P : Program} {C : Ctx}

def alen (P : Program) (t : TypeId) (x : AV) : Option AV :=
  match P.underlying t, x with
  | some .string, .s (.str s) => some (.s (.i .i64 s.size))
  | some (.slice _), .sl _ _ _ n _ => some (.s (.i .i64 n))
  | _, _ => none
theorem alen_sound {ρ : List Ghost} {t ty : TypeId} {x z : AV} {v : Value} (h : alen P t x = some z) (hx : VRel ρ x v) (ts : Array TypeId) (ht : ts[0]? = some t) (w : World) :
    ∃ r, (Builtin.len_ ts ty #[v]).run P w = .ok r w ∧ VRel ρ z r := by
  unfold alen at h
  split at h
  · rename_i hu
    cases h
    have := hx.s_inv
    subst this
    exact ⟨_, by simp [Builtin.len_, ht, run_underlying hu, SV.val, goInt], .s (.i _ _)⟩
  · rename_i hu
    cases h
    cases hx with
    | sl h1 h2 h3 h4 => exact ⟨_, by simp [Builtin.len_, ht, run_underlying hu, goInt]; rfl, .s (.i _ _)⟩
    | sl0 h1 => exact ⟨_, by simp [Builtin.len_, ht, run_underlying hu, goInt]; rfl, .s (.i _ _)⟩
  · simp at h
/-- The smaller, the greater of two. -/
def amin (x y : AV) : Option AV :=
  match x, y with
  | .s (.i k x), .s (.i k' y) => match kindEq k k' with
    | true => some (.s (.i k (if y < x then y else x)))
    | false => none
  | _, _ => none
def amax (x y : AV) : Option AV :=
  match x, y with
  | .s (.i k x), .s (.i k' y) => match kindEq k k' with
    | true => some (.s (.i k (if x < y then y else x)))
    | false => none
  | _, _ => none

/-- The first operand of a call of a builtin that is quiet. -/
def aq {X : Type} (P : Program) (ev : Operand → AV) (m : List (Blk X)) (o : Oper) : Option AV :=
  match o.op with
  | .move x => some (ev x)
  | .assign x => some (ev x)
  | .pick c a b => apick (ev c) (ev a) (ev b)
  | .load t a => match ev a with
    | .ptr i off => match nth m i with
      | some blk => loadBlk P t blk off
      | none => none
    | _ => none
  | .nilCheck x => match ev x with
    | .ptr i off => some (.ptr i off)
    | .ifc t v => some (.ifc t v)
    | .fn (.func f) cs => some (.fn (.func f) cs)
    | _ => none
  | .binOp op t x y _ => match ev x, ev y with
    | .agg xs, .agg ys => match op with
      | .eql => match P.eqGuardType P.depth t, aeq P 8 t (.agg xs) (.agg ys) with
        | false, some r => some (.s (.b r))
        | _, _ => none
      | .neq => match P.eqGuardType P.depth t, aeq P 8 t (.agg xs) (.agg ys) with
        | false, some r => some (.s (.b (!r)))
        | _, _ => none
      | _ => none
    | a, b => abin P op t a b
  | .unOp op _ x => match ev x with
    | .s a => match sun op a with
      | some r => some (.s r)
      | none => none
    | _ => none
  | .convert src dst x => acv P src dst (ev x)
  | .makeInterface t x => match P.underlying t with
    | some (.interface _) => none
    | some _ => some (.ifc t (ev x))
    | none => none
  | .makeFunc fn first captured => match first.toList with
    | [] => some (.fn fn (captured.toList.map ev))
    | _ => none
  | .fieldAddr s x f => afield P s (ev x) f
  | .field t x f => afieldV P t (ev x) f
  | .indexAddr t x i => aindexAddr P t (ev x) (ev i)
  | .index t x i => aindex P t (ev x) (ev i)
  | .build t parts => abuild P t (parts.toList.map fun p => (p.1, ev p.2))
  | .extract x i => aextract (ev x) i
  | .slice t x low high max => aslice P t (ev x) (low.map ev) (high.map ev) (max.map ev)
  | .call c => match c.callee with
    | .builtin .len => match c.args.toList, c.argTypes[0]? with
      | [x], some t => alen P t (ev x)
      | _, _ => none
    | .builtin .min => match c.args.toList with
      | [x, y] => amin (ev x) (ev y)
      | _ => none
    | .builtin .max => match c.args.toList with
      | [x, y] => amax (ev x) (ev y)
      | _ => none
    | _ => none
  | _ => none

theorem opRel_map {ρ : List Ghost} {ev : Operand → AV} {rv : Operand → Value} (hev : ∀ x, VRel ρ (ev x) (rv x)) (o : Option Operand) : OpRel ρ (o.map ev) (o.map rv) := by
  cases o with
  | none => trivial
  | some x => exact hev x
theorem vsRel_map {ρ : List Ghost} {ev : Operand → AV} {rv : Operand → Value} (hev : ∀ x, VRel ρ (ev x) (rv x)) (l : List Operand) : VsRel ρ (l.map ev) (l.map rv) := by
  refine ⟨by simp, fun k x v hx hv => ?_⟩
  simp at hx hv
  obtain ⟨y, hy, rfl⟩ := hx
  obtain ⟨z, hz, rfl⟩ := hv
  rw [hy] at hz; cases hz
  exact hev y

theorem aq_sound {ρ : List Ghost} {m : List (Blk C.X)} {w : World} {fp : Nat → Prop} (hH : HRel C ρ m w fp) {ev : Operand → AV} {rv : Operand → Value} (hev : ∀ x, VRel ρ (ev x) (rv x)) {o : Oper} {z : AV}
    (h : aq P ev m o = some z) : ∃ v, (execOp rv o).run P w = .ok (.value v) w ∧ VRel ρ z v := by
  have run1 : ∀ {s : Sem Value} {z : AV}, (∃ r, s.run P w = .ok r w ∧ VRel ρ z r) → ∃ v, ((do pure (Next.value (← s)) : Sem Next)).run P w = .ok (.value v) w ∧ VRel ρ z v := by
    rintro s z ⟨r, h1, h2⟩
    exact ⟨r, run_v h1, h2⟩
  unfold aq at h
  split at h
  · rename_i x ho; cases h; exact ⟨_, by simp [execOp, ho], hev x⟩
  · rename_i x ho; cases h; exact ⟨_, by simp [execOp, ho], hev x⟩
  · rename_i c a b ho
    unfold apick at h
    split at h
    · rename_i t hc
      have hcv : rv c = .bool t := by have := hev c; rw [hc] at this; exact this.s_inv
      exact ⟨_, by simp [execOp, ho, hcv, asBool], vmerge_rel h (hev a) (hev b)⟩
    · simp at h
  · rename_i t a ho
    split at h
    · rename_i i off ha
      split at h
      · rename_i blk hb
        have hav := hev a
        rw [ha] at hav
        generalize hra : rv a = va at hav
        cases hav with
        | ptr hg =>
          obtain ⟨W, R, hB⟩ := hH.at hb hg
          obtain ⟨v, h1, h2⟩ := loadBlk_sound hB h
          exact ⟨v, by simp [execOp, ho, hra, Instr.loadAt, Instr.sureAddr, h1], h2⟩
      · simp at h
    · simp at h
  · rename_i x ho
    have hxv := hev x
    split at h
    · rename_i i off hx
      cases h
      rw [hx] at hxv
      generalize hra : rv x = va at hxv
      cases hxv with
      | ptr hg => exact ⟨_, by simp [execOp, ho, hra], .ptr hg⟩
    · rename_i t v hx
      cases h
      rw [hx] at hxv
      generalize hra : rv x = va at hxv
      cases hxv with
      | ifc hg => exact ⟨_, by simp [execOp, ho, hra], .ifc hg⟩
    · rename_i f cs hx
      cases h
      rw [hx] at hxv
      obtain ⟨vs, hra, hv⟩ := hxv.fn_inv
      exact ⟨_, by simp [execOp, ho, hra], .fn' hv⟩
    · simp at h
  · rename_i op t x y yt ho
    have hxv := hev x
    have hyv := hev y
    have he : execOp rv o = (do pure (.value (← (do eqGuard op t x y (rv x) (rv y); binOp op t (rv x) (rv y) : Sem Value))) : Sem Next) := by simp [execOp, ho]
    rw [he]
    split at h
    · rename_i xs ys hx hy
      rw [hx] at hxv
      rw [hy] at hyv
      obtain ⟨vs, hva, _⟩ := hxv.agg_inv
      obtain ⟨us, hua, _⟩ := hyv.agg_inv
      rw [hva] at hxv ⊢
      rw [hua] at hyv ⊢
      split at h
      · split at h
        · rename_i r hg hr
          cases h
          refine run1 ⟨.bool r, ?_, .s (.b r)⟩
          have h1 : (eqGuard .eql t x y (.agg vs) (.agg us)).run P w = .ok () w := by simp [eqGuard, hg]
          have h2 : (Op.equal t (.agg vs) (.agg us)).run P w = .ok r w := by have := aeq_sound 8 9992 _ _ _ _ _ _ hr hxv hyv w; exact this
          rw [run_unit h1]
          simp [binOp, h2]
        · simp at h
      · split at h
        · rename_i r hg hr
          cases h
          refine run1 ⟨.bool (!r), ?_, .s (.b (!r))⟩
          have h1 : (eqGuard .neq t x y (.agg vs) (.agg us)).run P w = .ok () w := by simp [eqGuard, hg]
          have h2 : (Op.equal t (.agg vs) (.agg us)).run P w = .ok r w := by have := aeq_sound 8 9992 _ _ _ _ _ _ hr hxv hyv w; exact this
          rw [run_unit h1]
          simp [binOp, h2]
        · simp at h
      · simp at h
    · exact run1 (abin_sound h hxv hyv x y w)
  · rename_i op t x ho
    have hxv := hev x
    split at h
    · rename_i a hx
      rw [hx] at hxv
      split at h
      · rename_i r hr
        cases h
        have he : execOp rv o = (do pure (.value (← Op.unary op (rv x))) : Sem Next) := by simp [execOp, ho]
        rw [he, hxv.s_inv]
        exact run1 ⟨_, sun_sound hr w, .s _⟩
      · simp at h
    · simp at h
  · rename_i src dst x ho
    have he : execOp rv o = (do pure (.value (← convert src dst (rv x))) : Sem Next) := by simp [execOp, ho]
    rw [he]
    exact run1 (acv_sound h (hev x) w)
  · rename_i t x ho
    split at h
    · simp at h
    · rename_i d hd hu
      cases h
      refine ⟨.iface t (rv x), ?_, .ifc (hev x)⟩
      simp only [execOp, ho, Instr.makeInterface, Sem.run_bind, run_underlying hu, Result.andThen_ok]
      cases d <;> first | rfl | exact absurd rfl (hd _)
    · simp at h
  · rename_i fn first captured ho
    split at h
    · rename_i hf
      cases h
      have hf' : first = #[] := by apply Array.toList_inj.1; simpa using hf
      subst hf'
      refine ⟨.func fn #[] (captured.map rv), by simp [execOp, ho, Instr.makeFunc], .fn' ?_⟩
      have := vsRel_map hev captured.toList
      simpa using this
    · simp at h
  · rename_i s x f ho
    have he : execOp rv o = (do pure (.value (← Instr.fieldAt s (rv x) f)) : Sem Next) := by simp [execOp, ho]
    rw [he]
    exact run1 (afield_sound h (hev x) w)
  · rename_i t x f ho
    have he : execOp rv o = (do pure (.value (← Instr.field t (rv x) f)) : Sem Next) := by simp [execOp, ho]
    rw [he]
    exact run1 (afieldV_sound h (hev x) w)
  · rename_i t x i ho
    have he : execOp rv o = (do pure (.value (← Instr.indexAt t (rv x) (rv i))) : Sem Next) := by simp [execOp, ho]
    rw [he]
    exact run1 (aindexAddr_sound h (hev x) (hev i) w)
  · rename_i t x i ho
    have he : execOp rv o = (do pure (.value (← Instr.index t (rv x) (rv i))) : Sem Next) := by simp [execOp, ho]
    rw [he]
    exact run1 (aindex_sound h (hev x) (hev i) w)
  · rename_i t parts ho
    have he : execOp rv o = (do pure (.value (← Instr.build t (parts.map fun (i, x) => (i, rv x)))) : Sem Next) := by simp [execOp, ho]
    rw [he]
    refine run1 (abuild_sound h ⟨by simp, fun k p q hp hq => ?_⟩ w)
    simp at hp hq
    obtain ⟨a, b, hab, rfl⟩ := hp
    obtain ⟨a', b', hab', rfl⟩ := hq
    rw [hab] at hab'
    cases hab'
    exact ⟨rfl, hev b⟩
  · rename_i x i ho
    have he : execOp rv o = (do pure (.value (← Instr.extract (rv x) i)) : Sem Next) := by simp [execOp, ho]
    rw [he]
    exact run1 (aextract_sound h (hev x) w)
  · rename_i t x low high max ho
    have he : execOp rv o = (do pure (.value (← Instr.sliceAt t (rv x) (low.map rv) (high.map rv) (max.map rv))) : Sem Next) := by simp [execOp, ho]
    rw [he]
    refine run1 ?_
    obtain ⟨r, h1, h2⟩ := aslice_sound h (hev x) (opRel_map hev low) (opRel_map hev high) (opRel_map hev max) w
    refine ⟨r, ?_, h2⟩
    have hu : ∀ n e, P.underlying t ≠ some (.array n e) := by
      intro n e hu
      simp [aslice, hu] at h
    unfold Instr.sliceAt
    cases hut : P.underlying t with
    | none => simp [aslice, hut] at h
    | some d =>
      simp only [Sem.run_bind, run_underlying hut, Result.andThen_ok]
      cases d <;> first | exact h1 | exact absurd hut (hu _ _)
  · rename_i c ho
    split at h
    · rename_i hc
      split at h
      · rename_i x t hargs ht
        have ha : c.args = #[x] := by apply Array.toList_inj.1; simpa using hargs
        obtain ⟨r, h1, h2⟩ := alen_sound (ty := o.type) h (hev x) c.argTypes ht w
        refine ⟨r, ?_, h2⟩
        simp [execOp, ho, resolve, hc, ha, invoke, builtin, h1]
      · simp at h
    · rename_i hc
      split at h
      · rename_i x y hargs
        have ha : c.args = #[x, y] := by apply Array.toList_inj.1; simpa using hargs
        unfold amin at h
        split at h
        · rename_i k a k' b hx hy
          split at h
          · rename_i hk
            cases h
            have := kindEq_eq hk
            subst this
            have h1 := hev x
            have h2 := hev y
            rw [hx] at h1
            rw [hy] at h2
            have h1 := h1.s_inv
            have h2 := h2.s_inv
            refine ⟨_, ?_, .s (.i k _)⟩
            simp [execOp, ho, resolve, hc, ha, invoke, builtin, h1, h2, SV.val, Builtin.min_, Builtin.min2]
          · simp at h
        · simp at h
      · simp at h
    · rename_i hc
      split at h
      · rename_i x y hargs
        have ha : c.args = #[x, y] := by apply Array.toList_inj.1; simpa using hargs
        unfold amax at h
        split at h
        · rename_i k a k' b hx hy
          split at h
          · rename_i hk
            cases h
            have := kindEq_eq hk
            subst this
            have h1 := hev x
            have h2 := hev y
            rw [hx] at h1
            rw [hy] at h2
            have h1 := h1.s_inv
            have h2 := h2.s_inv
            refine ⟨_, ?_, .s (.i k _)⟩
            simp [execOp, ho, resolve, hc, ha, invoke, builtin, h1, h2, SV.val, Builtin.max_, Builtin.max2]
          · simp at h
        · simp at h
      · simp at h
    · simp at h
  · simp at h
end Go.AEv
