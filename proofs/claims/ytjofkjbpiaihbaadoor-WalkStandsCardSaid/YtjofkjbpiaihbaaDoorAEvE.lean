/-
  Quiet operations, the rest of them, and 'aq', which is all of them.
-/
import Derived.Test.YtjofkjbpiaihbaaDoorAEvD
import Derived.Laws.Tables
namespace Go.AEv
open Go

variable {P : Program} {C : Ctx}

/-! ### structs and arrays, compared -/
def SV.isStr : SV → Bool
  | .str _ => true
  | _ => false
theorem SV.isStr_val {a : SV} {s : ByteArray} (h : a.val = .string s) : a.isStr = true := by cases a <;> simp [SV.val] at h; rfl
theorem SV.isStr_not {a : SV} {k : IntKind} {n : Int} (h : a.val = .int k n) : a.isStr = false := by cases a <;> first | rfl | simp [SV.val] at h
def aeqS (P : Program) (t : TypeId) (x y : AV) : Option Bool :=
  match x, y with
  | .s a, .s b => match a.isB with
    | true => acmp P t (.s a) (.s b)
    | false => match P.underlying t, a.isStr with
      | some (.int _), false => match sbin2 .eql a b with
        | some (.b r) => some r
        | _ => none
      | some .string, true => match sbin2 .eql a b with
        | some (.b r) => some r
        | _ => none
      | _, _ => none
  | x, y => acmp P t x y
def aeqFields (P : Program) (f : TypeId → AV → AV → Option Bool) (xs ys : List AV) : List Field → Option Bool
  | [] => some true
  | fd :: fs => match fd.name == "_" with
    | true => aeqFields P f xs ys fs
    | false => match apart P fd.type xs fd.offset, apart P fd.type ys fd.offset with
      | some a, some b => match f fd.type a b, aeqFields P f xs ys fs with
        | some r, some r' => some (r && r')
        | _, _ => none
      | _, _ => none
def aeqItems (P : Program) (f : TypeId → AV → AV → Option Bool) (e : TypeId) (sz : Nat) (xs ys : List AV) : List Nat → Option Bool
  | [] => some true
  | i :: is => match apart P e xs (i * sz), apart P e ys (i * sz) with
    | some a, some b => match f e a b, aeqItems P f e sz xs ys is with
      | some r, some r' => some (r && r')
      | _, _ => none
    | _, _ => none
def aeq (P : Program) : Nat → TypeId → AV → AV → Option Bool
  | 0, _, _, _ => none
  | d + 1, t, x, y => match P.underlying t with
    | some (.struct fs) => match x, y with
      | .agg xs, .agg ys => match P.stoodInHeld t with
        | false => aeqFields P (aeq P d) xs ys fs.toList
        | true => none
      | _, _ => none
    | some (.array n e) => match x, y, szB P e with
      | .agg xs, .agg ys, some sz => aeqItems P (aeq P d) e sz xs ys (List.range n)
      | _, _, _ => none
    | _ => aeqS P t x y
/-- What 'equalIn' is, where it is what is said, at whatever depth. -/
def EqIs (P : Program) (ρ : List Ghost) (d : Nat) (f : TypeId → AV → AV → Option Bool) : Prop :=
  ∀ t x y v u r, f t x y = some r → VRel ρ x v → VRel ρ y u → ∀ w, (Op.equalIn d t v u).run P w = .ok r w
theorem aeqFields_sound {ρ : List Ghost} {d : Nat} {f : TypeId → AV → AV → Option Bool} (hf : EqIs P ρ d f) {xs ys : List AV} {vs us : Array Value} (hv : VsRel ρ xs vs.toList) (hu : VsRel ρ ys us.toList) (w : World) :
    ∀ (fs : List Field) (r : Bool), aeqFields P f xs ys fs = some r → (Op.eqFields d vs us fs).run P w = .ok r w
  | [], r, h => by simp [aeqFields] at h; subst h; simp [Op.eqFields]
  | fd :: fs, r, h => by
    simp only [aeqFields] at h
    split at h
    · rename_i hn
      simp only [beq_iff_eq] at hn
      simp [Op.eqFields, hn, aeqFields_sound hf hv hu w fs r h]
    · rename_i hn
      have hn' : fd.name ≠ "_" := by simpa using hn
      split at h
      · rename_i a b ha hb
        split at h
        · rename_i r1 r2 h1 h2
          cases h
          obtain ⟨v, hv1, hv2⟩ := apart_sound ha hv w
          obtain ⟨u, hu1, hu2⟩ := apart_sound hb hu w
          have h3 := hf _ _ _ _ _ _ h1 hv2 hu2 w
          have h4 := aeqFields_sound hf hv hu w fs _ h2
          simp only [Op.eqFields, hn', ne_eq, not_false_eq_true, if_true, Sem.run_bind, hv1, hu1, h3, Result.andThen_ok]
          cases r1 <;> simp [h4]
        · simp at h
      · simp at h
theorem aeqItems_sound {ρ : List Ghost} {d : Nat} {f : TypeId → AV → AV → Option Bool} (hf : EqIs P ρ d f) {e : TypeId} {sz : Nat} {xs ys : List AV} {vs us : Array Value} (hv : VsRel ρ xs vs.toList) (hu : VsRel ρ ys us.toList) (w : World) :
    ∀ (is : List Nat) (r : Bool), aeqItems P f e sz xs ys is = some r → (Op.eqItems d e sz vs us is).run P w = .ok r w
  | [], r, h => by simp [aeqItems] at h; subst h; simp [Op.eqItems]
  | i :: is, r, h => by
    simp only [aeqItems] at h
    split at h
    · rename_i a b ha hb
      split at h
      · rename_i r1 r2 h1 h2
        cases h
        obtain ⟨v, hv1, hv2⟩ := apart_sound ha hv w
        obtain ⟨u, hu1, hu2⟩ := apart_sound hb hu w
        have h3 := hf _ _ _ _ _ _ h1 hv2 hu2 w
        have h4 := aeqItems_sound hf hv hu w is _ h2
        simp only [Op.eqItems, Sem.run_bind, hv1, hu1, h3, Result.andThen_ok]
        cases r1 <;> simp [h4]
      · simp at h
    · simp at h
theorem acmp_equalIn {ρ : List Ghost} {t : TypeId} {x y : AV} {v u : Value} {r : Bool} (h : acmp P t x y = some r) (hx : VRel ρ x v) (hy : VRel ρ y u) (d : Nat) (w : World) :
    (Op.equalIn (d + 1) t v u).run P w = .ok r w := by
  unfold acmp at h
  split at h <;> first | (simp at h; done) | (split at h <;> first | (simp at h; done) | skip)
  all_goals
    rename_i hu
    cases h
    cases hx
    cases hy
  all_goals
    rw [Op.equalIn]
    simp [run_underlying hu, SV.val]
theorem sbin2_eql {a b : SV} {r : Bool} (h : sbin2 .eql a b = some (.b r)) :
    (∃ k m n, a.val = .int k m ∧ b.val = .int k n ∧ r = (m == n)) ∨ (∃ s s', a.val = .string s ∧ b.val = .string s' ∧ r = (s.toList == s'.toList)) := by
  unfold sbin2 at h
  split at h
  case h_5 =>
    split at h
    · rename_i hk; rw [← kindEq_eq hk]; simp [ib] at h; exact .inl ⟨_, _, _, rfl, rfl, h.symm⟩
    · simp at h
  case h_6 => simp at h; exact .inr ⟨_, _, rfl, rfl, h.symm⟩
  case h_7 => simp at h
  all_goals
    simp [ub] at h
    refine .inl ⟨_, _, _, rfl, rfl, ?_⟩
    rw [← h, Bool.eq_iff_iff]
    simp [BitVec.toNat_eq]; omega
theorem aeqS_sound {ρ : List Ghost} {t : TypeId} {x y : AV} {v u : Value} {r : Bool} (h : aeqS P t x y = some r) (hx : VRel ρ x v) (hy : VRel ρ y u) (d : Nat) (w : World) :
    (Op.equalIn (d + 1) t v u).run P w = .ok r w := by
  unfold aeqS at h
  split at h
  · split at h
    · exact acmp_equalIn h hx hy d w
    · split at h
      · rename_i hk hst
        split at h
        · rename_i r' hr
          cases h
          rw [hx.s_inv, hy.s_inv]
          rcases sbin2_eql hr with ⟨k, m, n, h1, h2, h3⟩ | ⟨s, s', h1, h2, h3⟩
          · rw [h1, h2, h3]; exact run_equalIn_int w d t _ _ _ _ hk
          · rw [SV.isStr_val h1] at hst; simp at hst
        · simp at h
      · rename_i hk hst
        split at h
        · rename_i r' hr
          cases h
          rw [hx.s_inv, hy.s_inv]
          rcases sbin2_eql hr with ⟨k, m, n, h1, h2, h3⟩ | ⟨s, s', h1, h2, h3⟩
          · rw [SV.isStr_not h1] at hst; simp at hst
          · rw [h1, h2, h3]; exact run_equalIn_string w d t _ _ hk
        · simp at h
      · simp at h
  · exact acmp_equalIn h hx hy d w

theorem aeq_sound {ρ : List Ghost} : ∀ (d e : Nat), EqIs P ρ (d + e) (aeq P d)
  | 0, e => fun t x y v u r h => by simp [aeq] at h
  | d + 1, e => fun t x y v u r h hx hy w => by
    rw [show d + 1 + e = (d + e) + 1 by omega]
    simp only [aeq] at h
    split at h
    · rename_i fs hu
      split at h
      · rename_i xs ys
        split at h
        · rename_i hst
          obtain ⟨vs, rfl, hv⟩ := hx.agg_inv
          obtain ⟨us, rfl, hu'⟩ := hy.agg_inv
          have hf : P.fieldsOf t = fs := by simp [Program.fieldsOf, hu]
          rw [run_equalIn_struct w (d + e) t vs us (by rw [hf]; exact hu) hst, hf]
          exact aeqFields_sound (aeq_sound d e) hv hu' w fs.toList r h
        · simp at h
      · simp at h
    · rename_i n el hu
      split at h
      · rename_i xs ys sz hsz
        obtain ⟨vs, rfl, hv⟩ := hx.agg_inv
        obtain ⟨us, rfl, hu'⟩ := hy.agg_inv
        unfold szB at hsz
        split at hsz
        · rename_i i hi
          cases hsz
          rw [Go.run_equalIn_array w (d + e) vs us hu hi]
          have hc : P.cellsOf el = i.size := by simp [Program.cellsOf, hi]
          rw [hc]
          exact aeqItems_sound (aeq_sound d e) hv hu' w _ r h
        · simp at hsz
      · simp at h
    · exact aeqS_sound h hx hy (d + e) w

/-! ### the rest -/
def aindex (P : Program) (t : TypeId) (x i : AV) : Option AV :=
  match anum i with
  | some n => match P.underlying t, x with
    | some (.array len elem), .agg cs => match szB P elem, decide (0 ≤ n ∧ n < (len : Int)) with
      | some sz, true => apart P elem cs (n.toNat * sz)
      | _, _ => none
    | _, _ => none
  | none => none
theorem aindex_sound {ρ : List Ghost} {t : TypeId} {x i z : AV} {v u : Value} (h : aindex P t x i = some z) (hx : VRel ρ x v) (hi : VRel ρ i u) (w : World) :
    ∃ r, (Instr.index t v u).run P w = .ok r w ∧ VRel ρ z r := by
  unfold aindex at h
  split at h
  · rename_i n hn
    obtain ⟨k, rfl⟩ := anum_rel hn hi
    split at h
    · rename_i len elem cs hu
      split at h
      · rename_i sz hsz hd
        have hd' := of_decide_eq_true hd
        obtain ⟨vs, rfl, hv⟩ := hx.agg_inv
        obtain ⟨r, h1, h2⟩ := apart_sound h hv w
        exact ⟨r, by simp [Instr.index, asIntOf, run_underlying hu, hd', run_sizeOf' hsz, h1], h2⟩
      · simp at h
    · simp at h
  · simp at h
def afieldV (P : Program) (t : TypeId) (x : AV) (f : Nat) : Option AV :=
  match P.underlying t, x with
  | some (.struct fields), .agg cs => match fields[f]? with
    | some fd => apart P fd.type cs fd.offset
    | none => none
  | _, _ => none
theorem afieldV_sound {ρ : List Ghost} {t : TypeId} {f : Nat} {x z : AV} {v : Value} (h : afieldV P t x f = some z) (hx : VRel ρ x v) (w : World) :
    ∃ r, (Instr.field t v f).run P w = .ok r w ∧ VRel ρ z r := by
  unfold afieldV at h
  split at h
  · rename_i fields cs hu
    split at h
    · rename_i fd hf
      obtain ⟨vs, rfl, hv⟩ := hx.agg_inv
      obtain ⟨r, h1, h2⟩ := apart_sound h hv w
      exact ⟨r, by simp [Instr.field, run_underlying hu, hf, asAgg, h1], h2⟩
    · simp at h
  · simp at h
def aextract (x : AV) (i : Nat) : Option AV :=
  match x with
  | .tup vs => nth vs i
  | _ => none
theorem aextract_sound {ρ : List Ghost} {i : Nat} {x z : AV} {v : Value} (h : aextract x i = some z) (hx : VRel ρ x v) (w : World) :
    ∃ r, (Instr.extract v i).run P w = .ok r w ∧ VRel ρ z r := by
  unfold aextract at h
  split at h
  · rw [nth_eq] at h
    obtain ⟨vs, rfl, hv⟩ := hx.tup_inv
    obtain ⟨r, h1, h2⟩ := hv.get h
    exact ⟨r, by simp [Instr.extract, show vs[i]? = some r by simpa using h1], h2⟩
  · simp at h
/-- The cells of a value. -/
def avCells : AV → Option (List AV)
  | .agg c => some c
  | .any => none
  | .opq _ => none
  | x => some [x]
theorem avCells_rel {ρ : List Ghost} {x : AV} {v : Value} {l : List AV} (h : avCells x = some l) (hx : VRel ρ x v) : VsRel ρ l v.cells.toList := by
  have one : ∀ {v' : Value}, v'.cells = #[v'] → VRel ρ x v' → VsRel ρ [x] v'.cells.toList := fun hv hr => by rw [hv]; exact VsRel.cons hr (VsRel.nil ρ)
  cases x <;> simp only [avCells, Option.some.injEq, reduceCtorEq] at h <;> subst h
  case agg c => obtain ⟨vs, rfl, hv⟩ := hx.agg_inv; exact hv
  case s y => have := hx.s_inv; subst this; cases y <;> exact one rfl hx
  case sl => cases hx with
    | sl h1 h2 h3 h4 => exact one rfl (.sl h1 h2 h3 h4)
    | sl0 h1 => exact one rfl (.sl0 h1)
  all_goals (cases hx; exact one rfl (by constructor <;> assumption))
def afill (place : Nat → Option (Nat × Nat)) (cells : List AV) : List (Nat × AV) → Option (List AV)
  | [] => some cells
  | (i, v) :: rest => match place i, avCells v with
    | some (off, size), some cs => match decide (cs.length = size ∧ off + cs.length ≤ cells.length) with
      | true => afill place (putL cells off cs) rest
      | false => none
    | _, _ => none
theorem foldl_putL : ∀ (vs : List Value) (k : Nat) (cells : Array Value) (off : Nat),
    ((vs.zipIdx k).foldl (fun cs (x : Value × Nat) => cs.setIfInBounds (off + x.2) x.1) cells).toList = putL cells.toList (off + k) vs
  | [], _, _, _ => by simp [putL]
  | v :: vs, k, cells, off => by
    simp only [List.zipIdx_cons, List.foldl_cons]
    rw [foldl_putL vs (k + 1)]
    simp [putL, setAt_eq, Nat.add_assoc]
theorem afill_rel {ρ : List Ghost} {place : Nat → Option (Nat × Nat)} : ∀ (ps : List (Nat × AV)) (cells : List AV) (vs : Array Value) (qs : List (Nat × Value)) (out : List AV),
    VsRel ρ cells vs.toList → (ps.length = qs.length ∧ ∀ (k : Nat) (p : Nat × AV) (q : Nat × Value), ps[k]? = some p → qs[k]? = some q → p.1 = q.1 ∧ VRel ρ p.2 q.2) → afill place cells ps = some out →
    ∃ vs', Instr.fill place vs qs = some vs' ∧ VsRel ρ out vs'.toList
  | [], cells, vs, qs, out, hc, hq, h => by
    simp [afill] at h; subst h
    have : qs = [] := by simpa using hq.1.symm
    subst this
    exact ⟨vs, rfl, hc⟩
  | (i, v) :: ps, cells, vs, [], out, hc, hq, h => by simp at hq
  | (i, v) :: ps, cells, vs, (j, u) :: qs, out, hc, hq, h => by
    have h0 := hq.2 0 _ _ rfl rfl
    obtain ⟨hij, hvu⟩ := h0
    simp only at hij hvu
    subst hij
    simp only [afill] at h
    split at h
    · rename_i off size cs hp hcs
      split at h
      · rename_i hd
        obtain ⟨hd1, hd2⟩ := of_decide_eq_true hd
        have hr := avCells_rel hcs hvu
        have hl : u.cells.size = size := by have := hr.1; simp at this; omega
        have hl2 : ¬ (off + u.cells.size > vs.size) := by have := hr.1; have := hc.1; simp at *; omega
        have := afill_rel (place := place) ps (putL cells off cs) (u.cells.zipIdx.foldl (fun cs (c, j) => cs.setIfInBounds (off + j) c) vs) qs out (by
          rw [← Array.foldl_toList, Array.toList_zipIdx]
          have e := foldl_putL u.cells.toList 0 vs off
          simp only [Nat.add_zero] at e
          rw [e]
          exact hc.put hr hd2) ⟨by simpa using hq.1, fun k p q hp hq' => hq.2 (k + 1) p q (by simpa using hp) (by simpa using hq')⟩ h
        obtain ⟨vs', h1, h2⟩ := this
        refine ⟨vs', ?_, h2⟩
        simp only [Instr.fill, hp]
        rw [if_neg (by simp [hl] at *; omega)]
        exact h1
      · simp at h
    · simp at h
/-- The cells of a type's zero. -/
def azero (P : Program) (t : TypeId) : Option (List AV) :=
  match P.info? t with
  | some i => match i.zero with
    | some z => some (z.cells.toList.map ofC0)
    | none => none
  | none => none
def abuild (P : Program) (t : TypeId) (ps : List (Nat × AV)) : Option AV :=
  match azero P t, P.underlying t with
  | some z, some (.array _ e) => match szB P e with
    | some n => match afill (fun i => some (i * n, n)) z ps with
      | some l => some (.agg l)
      | none => none
    | none => none
  | some z, some (.struct fields) => match fields.toList.mapM (fun f => (P.info? f.type).map fun i => (f.offset, i.size)) with
    | some places => match afill (fun i => places.toArray[i]?) z ps with
      | some l => some (.agg l)
      | none => none
    | none => none
  | _, _ => none
theorem abuild_sound {ρ : List Ghost} {t : TypeId} {ps : List (Nat × AV)} {qs : Array (Nat × Value)} {z : AV} (h : abuild P t ps = some z)
    (hq : ps.length = qs.toList.length ∧ ∀ (k : Nat) (p : Nat × AV) (q : Nat × Value), ps[k]? = some p → qs.toList[k]? = some q → p.1 = q.1 ∧ VRel ρ p.2 q.2) (w : World) :
    ∃ r, (Instr.build t qs).run P w = .ok r w ∧ VRel ρ z r := by
  unfold abuild at h
  split at h
  · rename_i z0 n e hz hu
    unfold azero at hz
    split at hz
    · rename_i it hit
      split at hz
      · rename_i zv hzv
        cases hz
        split at h
        · rename_i sz hsz
          unfold szB at hsz
          split at hsz
          · rename_i ie hie
            cases hsz
            split at h
            · rename_i l hl
              cases h
              obtain ⟨vs', h1, h2⟩ := afill_rel ps _ zv.cells qs.toList l (vsRel_ofC0 ρ _) hq hl
              exact ⟨.agg vs', run_build w t qs vs' (by simp [Program.built, hit, hu, hzv, hie, h1]), .agg' h2⟩
            · simp at h
          · simp at hsz
        · simp at h
      · simp at hz
    · simp at hz
  · rename_i z0 fields hz hu
    unfold azero at hz
    split at hz
    · rename_i it hit
      split at hz
      · rename_i zv hzv
        cases hz
        split at h
        · rename_i places hp
          split at h
          · rename_i l hl
            cases h
            obtain ⟨vs', h1, h2⟩ := afill_rel ps _ zv.cells qs.toList l (vsRel_ofC0 ρ _) hq hl
            refine ⟨.agg vs', run_build w t qs vs' ?_, .agg' h2⟩
            simp only [Program.built, hit, hu, hzv, hp]
            exact h1
          · simp at h
        · simp at h
      · simp at hz
    · simp at hz
  · simp at h
end Go.AEv
