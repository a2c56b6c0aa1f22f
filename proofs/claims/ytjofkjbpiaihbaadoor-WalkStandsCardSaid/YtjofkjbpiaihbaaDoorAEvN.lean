/-
  Regions that draw their order: every order.
-/
import Derived.Test.YtjofkjbpiaihbaaDoorAEvM
namespace Go.AEv
open Go

variable {C : Ctx}

def PD (ops : Array Oper) (done : Plan) (listed : Array Bool) (d : Nat) : Prop := ∃ (i : Nat) (b : Bool) (o : Oper), (i, b) ∈ done ∧ listed[i]? ≠ some true ∧ ops[i]? = some o ∧ o.dst = some d
structure Inv {X : Type} (P : Program) (ops : Array Oper) (plan : Plan) (ρ : List Ghost) (s : S) (m : List (Blk X)) (a : Act) (listed : Array Bool) (done rest : Plan) (loads : List Nat) : Prop where
  hpl : plan = done ++ rest
  size : listed.size = ops.size
  sub : ∀ i, listed[i]? = some true → ∃ b, (i, b) ∈ done
  bars : ∀ i, (i, true) ∈ done → listed[i]? = some true
  dc : ∀ (i : Nat) (o : Oper) (e : Edge), listed[i]? = some true → ops[i]? = some o → e ∈ o.after → Region.binds .any e = true → listed[e.on]? = some true
  srel : SRel ρ s a.tmps (PD ops done listed)
  cons : ∀ (i : Nat) (b : Bool) (o : Oper), (i, b) ∈ done → listed[i]? ≠ some true → ops[i]? = some o → Cons P ops s m o
  gok : ∀ (i : Nat) (b : Bool) (o : Oper), (i, b) ∈ done → ops[i]? = some o → GuardOk ops o
  prov : ∀ e ∈ s.G, ∃ (i : Nat) (b : Bool) (o : Oper), (i, b) ∈ done ∧ ops[i]? = some o ∧ o.dst = some e.d ∧ guardA ops o = [(e.t, e.w)]
  uniq : ∀ e ∈ s.G, ∀ e' ∈ s.G, e.d = e'.d → e = e'
  glt : ∀ e ∈ s.G, e.t ≠ e.d ∧ e.d < a.tmps.size
  ld : ∀ (i : Nat) (b : Bool) (o : Oper), (i, b) ∈ done → listed[i]? ≠ some true → ops[i]? = some o → isLoad o.op = true → i ∈ loads

theorem looks_op {ops : Array Oper} {i : Nat} {o : Oper} (hi : ops[i]? = some o) {t : Nat} (h : .tmp t ∈ o.op.operands) : t ∈ looksOf ops i := by
  simp only [looksOf, hi, Oper.looksAt]
  refine List.mem_append_left _ (List.mem_filterMap.2 ⟨.tmp t, by simpa using h, rfl⟩)
theorem looks_guard {ops : Array Oper} {i : Nat} {o : Oper} (hi : ops[i]? = some o) {j t : Nat} {w : Bool} (hg : o.guard = some (j, w)) (ht : gslot ops j = some t) : t ∈ looksOf ops i := by
  simp only [looksOf, hi, Oper.looksAt, hg]
  refine List.mem_append_right _ ?_
  unfold gslot at ht
  split at ht
  · rename_i o' ho'; simp [ho', ht]
  · simp at ht
theorem looks_guardA {ops : Array Oper} {i : Nat} {o : Oper} (hi : ops[i]? = some o) {t : Nat} {w : Bool} (h : (t, w) ∈ guardA ops o) : t ∈ looksOf ops i := by
  unfold guardA at h
  split at h
  · simp at h
  · rename_i j w' hg
    split at h
    · rename_i t' ht; simp at h; obtain ⟨rfl, rfl⟩ := h; exact looks_guard hi hg ht
    · simp at h
theorem dstOf_eq {ops : Array Oper} {i : Nat} {o : Oper} (hi : ops[i]? = some o) : dstOf ops i = o.dst := by simp [dstOf, hi]

theorem qput_env {s : S} {dst : Option Tmp} {qv : QV} {k : Nat} (h : dst ≠ some k) : (qput s dst qv).env[k]? = s.env[k]? := by
  cases dst with
  | none => cases qv <;> rfl
  | some d =>
    have hd : d ≠ k := fun e => h (by rw [e])
    cases qv with
    | plain v => simp only [qput, putS, setAt_eq]; exact List.getElem?_set_ne hd
    | grd t w v =>
      simp only [qput]
      split
      · simp only [putG, setAt_eq]; exact List.getElem?_set_ne hd
      · simp only [putS, setAt_eq]; exact List.getElem?_set_ne hd
theorem qput_len {s : S} {dst : Option Tmp} {qv : QV} : (qput s dst qv).env.length = s.env.length := by
  cases dst with
  | none => cases qv <;> rfl
  | some d =>
    cases qv with
    | plain v => simp [qput, putS, setAt_eq]
    | grd t w v => simp only [qput]; split <;> simp [putG, putS, setAt_eq]
theorem qput_G {s : S} {d : Nat} {qv : QV} (h : ∀ e ∈ s.G, e.d ≠ d ∧ e.t ≠ d) : (qput s (some d) qv).G = s.G ∨ ∃ t w v, qv = .grd t w v ∧ d ≠ t ∧ (qput s (some d) qv).G = ⟨d, t, w, v⟩ :: s.G ∧ d < s.env.length := by
  cases qv with
  | plain v => left; simp only [qput, putS]; exact filterG_id h
  | grd t w v =>
    simp only [qput]
    split
    · rename_i y hy
      simp only [putG]
      split
      · left; exact filterG_id h
      · rename_i hdt
        right
        refine ⟨t, w, v, rfl, fun e => by rw [e] at hdt; simp [Nat.beq_refl] at hdt, by rw [filterG_id h], ?_⟩
        rw [nth_eq] at hy
        exact (List.getElem?_eq_some_iff.1 hy).1
    · left; simp only [putS]; exact filterG_id h

theorem findG_cons_ne {e : GE} {G : List GE} {x : Nat} (h : e.d ≠ x) : findG (e :: G) x = findG G x := by
  have : Nat.beq e.d x = false := by rw [Bool.eq_false_iff]; exact fun hc => h (Nat.eq_of_beq_eq_true hc)
  simp only [findG, this]

theorem qval_gok {X : Type} {P : Program} {ops : Array Oper} {s : S} {m : List (Blk X)} {o : Oper} {qv : QV} (h : qval P ops s m o = some qv) : GuardOk ops o := by
  intro j w hg
  unfold qval at h
  rw [hg] at h
  simp only at h
  split at h
  · rename_i t ht; exact ⟨t, ht⟩
  · simp at h

/-- One more operation is worked out ahead. -/
theorem Inv.advance {X : Type} {P : Program} {ops : Array Oper} {plan : Plan} (hp : PlanOk ops plan) {ρ : List Ghost} {s : S} {m : List (Blk X)} {a : Act} {listed : Array Bool} {done rest : Plan} {loads : List Nat} {i : Nat} {o : Oper} {qv : QV}
    (h : Inv P ops plan ρ s m a listed done ((i, false) :: rest) loads) (hi : ops[i]? = some o) (hq : qval P ops s m o = some qv) :
    Inv P ops plan ρ (qput s o.dst qv) m a listed (done ++ [(i, false)]) rest (match isLoad o.op with | true => i :: loads | false => loads) := by
  have hpl' : plan = (done ++ [(i, false)]) ++ rest := by rw [h.hpl]; simp
  have hiplan : (i, false) ∈ plan := by rw [h.hpl]; simp
  have hnod := hp.nodup
  have hnot : ∀ b, (i, b) ∉ done := by
    intro b hb
    rw [h.hpl, List.map_append, List.nodup_append] at hnod
    exact hnod.2.2 i (List.mem_map.2 ⟨_, hb, rfl⟩) i (by simp) rfl
  have hunl : listed[i]? ≠ some true := fun hc => by obtain ⟨b, hb⟩ := h.sub i hc; exact hnot b hb
  have hdonepl : ∀ p ∈ done, p ∈ plan := fun p hpd => by rw [h.hpl]; exact List.mem_append_left _ hpd
  -- nothing that was done waits for i
  have hnr : ∀ p ∈ done, ¬ Reach ops p.1 i := by
    intro p hpd hr
    obtain ⟨pre, post, rfl⟩ := List.append_of_mem hpd
    have := reach_before hp hr pre p.2 (post ++ (i, false) :: rest) (by rw [h.hpl]; simp)
    obtain ⟨q, hq1, hq2⟩ := List.mem_map.1 this
    exact hnot q.2 (by rw [← hq2]; exact List.mem_append_left _ hq1)
  have hnr' : ¬ Reach ops i i := by
    intro hr
    have := reach_before hp hr done false rest h.hpl
    obtain ⟨q, hq1, hq2⟩ := List.mem_map.1 this
    exact hnot q.2 (by rw [← hq2]; exact hq1)
  have hlooks : ∀ p ∈ done, ∀ d, o.dst = some d → d ∉ looksOf ops p.1 := by
    intro p hpd d hd hl
    rcases hp.ssa p (i, false) (hdonepl p hpd) hiplan d (by rw [dstOf_eq hi]; exact hd) hl with hr | hr
    · exact hnr p hpd hr
    · simp at hr
  have hlooks' : ∀ d, o.dst = some d → d ∉ looksOf ops i := by
    intro d hd hl
    rcases hp.ssa (i, false) (i, false) hiplan hiplan d (by rw [dstOf_eq hi]; exact hd) hl with hr | hr
    · exact hnr' hr
    · simp at hr
  have hdst : ∀ p ∈ done, ∀ op d, ops[p.1]? = some op → o.dst = some d → op.dst ≠ some d := by
    intro p hpd op d hop hd
    have hne : p.1 ≠ i := fun e => hnot p.2 (by rw [← e]; exact hpd)
    have := hp.dist p (i, false) (hdonepl p hpd) hiplan hne d (by rw [dstOf_eq hi]; exact hd)
    rwa [dstOf_eq hop] at this
  have hG : ∀ d, o.dst = some d → ∀ e ∈ s.G, e.d ≠ d ∧ e.t ≠ d := by
    intro d hd e he
    obtain ⟨p, b, op, hpd, hop, hod, hga⟩ := h.prov e he
    refine ⟨fun hc => hdst _ hpd op d hop hd (by rw [hod, hc]), fun hc => hlooks _ hpd d hd ?_⟩
    rw [← hc]
    exact looks_guardA (w := e.w) hop (by rw [hga]; simp)
  have henv : ∀ k, o.dst ≠ some k → (qput s o.dst qv).env[k]? = s.env[k]? := fun k hk => qput_env hk
  -- the entries
  have hGs : (qput s o.dst qv).G = s.G ∨ ∃ d t w v, o.dst = some d ∧ qv = .grd t w v ∧ d ≠ t ∧ (qput s o.dst qv).G = ⟨d, t, w, v⟩ :: s.G ∧ d < s.env.length := by
    cases hd : o.dst with
    | none => left; cases qv <;> rfl
    | some d =>
      rcases qput_G (qv := qv) (hG d hd) with h1 | ⟨t, w, v, h1, h2, h3, h4⟩
      · exact .inl h1
      · exact .inr ⟨d, t, w, v, rfl, h1, h2, h3, h4⟩
  have hGsub : ∀ e ∈ s.G, e ∈ (qput s o.dst qv).G := by
    rcases hGs with h1 | ⟨d, t, w, v, _, _, _, h1, _⟩
    · rw [h1]; exact fun e he => he
    · rw [h1]; exact fun e he => List.mem_cons_of_mem _ he
  have hGinv : ∀ e ∈ (qput s o.dst qv).G, e ∈ s.G ∨ ∃ d t w v, o.dst = some d ∧ qv = .grd t w v ∧ d ≠ t ∧ e = ⟨d, t, w, v⟩ ∧ d < s.env.length := by
    rcases hGs with h1 | ⟨d, t, w, v, h0, h2, h3, h1, h4⟩
    · rw [h1]; exact fun e he => .inl he
    · rw [h1]
      intro e he
      rcases List.mem_cons.1 he with rfl | he
      · exact .inr ⟨d, t, w, v, h0, h2, h3, rfl, h4⟩
      · exact .inl he
  have hfind : ∀ x, o.dst ≠ some x → findG (qput s o.dst qv).G x = findG s.G x := by
    intro x hx
    rcases hGs with h1 | ⟨d, t, w, v, h0, _, _, h1, _⟩
    · rw [h1]
    · rw [h1, findG_cons_ne (fun e => hx (by rw [h0]; exact congrArg some e))]
  have same : ∀ x B, o.dst ≠ some x → Same s (qput s o.dst qv) B x := fun x B hx => ⟨.inl (by rw [nth_eq, nth_eq]; exact henv x hx), by rw [hfind x hx]⟩
  have noE' : ∀ {d}, o.dst ≠ some d → noE s d → noE (qput s o.dst qv) d := by
    intro d hd hn e he
    rcases hGinv e he with h1 | ⟨d', t, w, v, h0, _, _, rfl, _⟩
    · exact hn e h1
    · exact fun hc => hd (by rw [h0]; exact congrArg some hc)
  refine ⟨hpl', h.size, fun j hj => ?_, fun j hj => ?_, h.dc, ?_, fun j b op hj hul hop => ?_, fun j b op hj hop => ?_, fun e he => ?_, fun e he e' he' hd => ?_, fun e he => ?_, fun j b op hj hul hop hld => ?_⟩
  · obtain ⟨b, hb⟩ := h.sub j hj; exact ⟨b, List.mem_append_left _ hb⟩
  · rcases List.mem_append.1 hj with hj | hj
    · exact h.bars j hj
    · simp at hj
  · -- the slots
    refine ⟨by rw [qput_len]; exact h.srel.len, fun k x v hk hx hv => ?_, fun e he hn => ?_⟩
    · have hkd : o.dst ≠ some k := fun hc => hk ⟨i, false, o, by simp, hunl, hi, hc⟩
      rw [henv k hkd] at hx
      exact h.srel.env k x v (fun ⟨j, b, op, h1, h2⟩ => hk ⟨j, b, op, List.mem_append_left _ h1, h2⟩) hx hv
    · rcases hGinv e he with h1 | ⟨d, t, w, v, h0, _, _, rfl, _⟩
      · exact h.srel.G e h1 (fun ⟨j, b, op, h2, h3⟩ => hn ⟨j, b, op, List.mem_append_left _ h2, h3⟩)
      · exact absurd ⟨i, false, o, by simp, hunl, hi, h0⟩ hn
  · -- what was worked out
    rcases List.mem_append.1 hj with hj | hj
    · have hns : ∀ t, t ∈ looksOf ops j → o.dst ≠ some t := fun t ht hc => hlooks _ hj t hc ht
      have hdj : ∀ d, op.dst = some d → o.dst ≠ some d := fun d hd hc => hdst _ hj op d hop hc hd
      rcases h.cons j b op hj hul hop with ⟨v, hv, hval⟩ | ⟨t, w, hga, hst, hd'⟩
      · refine .inl ⟨v, ?_, fun d hd => ?_⟩
        · rw [aqS_same (s := s) (fun t ht B _ => same t B (hns t (looks_op hop ht)))]; exact hv
        · obtain ⟨h1, h2⟩ := hval d hd
          have hdd := hdj d hd
          refine ⟨fun t w hga => ?_, fun hga => ?_⟩
          · have htt := hns t (looks_guardA (w := w) hop (by rw [hga]; simp))
            rcases h1 t w hga with ⟨⟨e, he, hr⟩, hany⟩ | ⟨hkb, hen, hno⟩ | ⟨hen, hno⟩
            · exact .inl ⟨⟨e, hGsub e he, hr⟩, by rw [henv d hdd]; exact hany⟩
            · exact .inr (.inl ⟨by rw [henv t htt]; exact hkb, hen.congr (henv d hdd), noE' hdd hno⟩)
            · exact .inr (.inr ⟨by rw [henv d hdd]; exact hen, noE' hdd hno⟩)
          · obtain ⟨h3, h4⟩ := h2 hga
            exact ⟨h3.congr (henv d hdd), noE' hdd h4⟩
      · have htt := hns t (looks_guardA (w := w) hop (by rw [hga]; simp))
        refine .inr ⟨t, w, hga, by rw [henv t htt]; exact hst, fun d hd => ?_⟩
        obtain ⟨h1, h2⟩ := hd' d hd
        exact ⟨by rw [henv d (hdj d hd)]; exact h1, noE' (hdj d hd) h2⟩
    · simp at hj
      obtain ⟨rfl, rfl⟩ := hj
      rw [hi] at hop
      cases hop
      have hns : ∀ t, t ∈ looksOf ops j → o.dst ≠ some t := fun t ht hc => hlooks' t hc ht
      have hsame : ∀ A, aqS P (qput s o.dst qv) A m o = aqS P s A m o := fun A => aqS_same (s := s) (fun t ht B _ => same t B (hns t (looks_op hi ht)))
      have hself : ∀ d v, o.dst = some d → qv = .plain v → ((qput s o.dst qv).env[d]? = some v ∨ (qput s o.dst qv).env[d]? = none) ∧ noE (qput s o.dst qv) d := by
        rintro d v hd rfl
        refine ⟨?_, fun e he => ?_⟩
        · rw [hd]
          simp only [qput, putS, setAt_eq]
          by_cases hl : d < s.env.length
          · left; exact List.getElem?_set_self hl
          · right; exact List.getElem?_eq_none (by rw [List.length_set]; exact Nat.le_of_not_lt hl)
        · rcases hGinv e he with h1 | ⟨d', t, w, v', _, h2, _⟩
          · exact (hG d hd e h1).1
          · simp at h2
      have hq' := hq
      unfold qval at hq
      split at hq
      · rename_i hg
        split at hq
        · rename_i v hv
          cases hq
          refine .inl ⟨v, by rw [guardA_none hg, hsame]; exact hv, fun d hd => ⟨fun t w hga => by rw [guardA_none hg] at hga; simp at hga, fun _ => ⟨EnvAt.of (hself d v hd rfl).1, (hself d v hd rfl).2⟩⟩⟩
        · simp at hq
      · rename_i jg wt hg
        split at hq
        case h_2 => simp at hq
        rename_i t ht
        have hga := guardA_some hg ht
        have htt := hns t (looks_guard hi hg ht)
        split at hq
        · rename_i b hb
          rw [nth_eq] at hb
          split at hq
          · rename_i hbw
            have hbw' : b = wt := eq_of_beq hbw
            subst hbw'
            split at hq
            · rename_i v hv
              cases hq
              refine .inl ⟨v, by rw [hga, hsame]; exact hv, fun d hd => ⟨fun t' w' hga' => ?_, fun hga' => by rw [hga] at hga'; simp at hga'⟩⟩
              rw [hga] at hga'; simp at hga'
              obtain ⟨rfl, rfl⟩ := hga'
              exact .inr (.inl ⟨by rw [henv t htt]; exact hb, EnvAt.of (hself d v hd rfl).1, (hself d v hd rfl).2⟩)
            · simp at hq
          · rename_i hbw
            cases hq
            refine .inr ⟨t, wt, hga, .inl ⟨b, by rw [henv t htt]; exact hb, fun hc => by rw [hc] at hbw; simp at hbw⟩, fun d hd => hself d _ hd rfl⟩
        · rename_i hb
          rw [nth_eq] at hb
          cases hq
          exact .inr ⟨t, wt, hga, .inr (by rw [henv t htt]; exact hb), fun d hd => hself d _ hd rfl⟩
        · split at hq
          case h_2 => simp at hq
          rename_i v hv
          cases hq
          refine .inl ⟨v, by rw [hga, hsame]; exact hv, fun d hd => ⟨fun t' w' hga' => ?_, fun hga' => by rw [hga] at hga'; simp at hga'⟩⟩
          rw [hga] at hga'; simp at hga'
          obtain ⟨rfl, rfl⟩ := hga'
          have hdt : d ≠ t := fun hc => htt (by rw [hd, hc])
          by_cases hl : d < s.env.length
          · left
            have hnd : nth s.env d = some s.env[d] := by rw [nth_eq]; simp [hl]
            have hdt' : Nat.beq d t = false := by rw [Bool.eq_false_iff]; exact fun hc => hdt (Nat.eq_of_beq_eq_true hc)
            rw [hd]
            simp only [qput, hnd, putG, hdt']
            exact ⟨⟨_, List.mem_cons_self, rfl, rfl, rfl, rfl⟩, .inl (by simp only [setAt_eq]; exact List.getElem?_set_self hl)⟩
          · right; right
            have hnd : nth s.env d = none := by rw [nth_eq]; exact List.getElem?_eq_none (Nat.le_of_not_lt hl)
            refine ⟨?_, fun e he => ?_⟩
            · rw [hd]; simp only [qput, hnd, putS, setAt_eq]; exact List.getElem?_eq_none (by rw [List.length_set]; exact Nat.le_of_not_lt hl)
            · rcases hGinv e he with h1 | ⟨d', t', w', v', h0, _, _, _, h4⟩
              · exact (hG d hd e h1).1
              · rw [hd] at h0; cases h0; exact absurd h4 hl
  · rcases List.mem_append.1 hj with hj | hj
    · exact h.gok j b op hj hop
    · simp at hj
      obtain ⟨rfl, rfl⟩ := hj
      rw [hi] at hop; cases hop
      exact qval_gok hq
  · rcases hGinv e he with h1 | ⟨d, t, w, v, h0, h2, _, rfl, _⟩
    · obtain ⟨j, b, op, hr⟩ := h.prov e h1
      exact ⟨j, b, op, List.mem_append_left _ hr.1, hr.2⟩
    · refine ⟨i, false, o, by simp, hi, h0, ?_⟩
      subst h2
      unfold qval at hq
      split at hq
      · split at hq <;> simp at hq
      · rename_i jg wt hg
        split at hq
        case h_2 => simp at hq
        rename_i t' ht
        split at hq
        · split at hq
          · split at hq <;> simp at hq
          · simp at hq
        · simp at hq
        · split at hq
          · simp at hq
            obtain ⟨rfl, rfl, _⟩ := hq
            exact guardA_some hg ht
          · simp at hq
  · rcases hGinv e he with h1 | ⟨d, t, w, v, h0, g2, _, rfl, _⟩
    · rcases hGinv e' he' with h1' | ⟨d, t, w, v, h0, _, _, rfl, _⟩
      · exact h.uniq e h1 e' h1' hd
      · exact absurd hd (hG d h0 e h1).1
    · rcases hGinv e' he' with h1' | ⟨d', t', w', v', h0', h2', _, rfl, _⟩
      · exact absurd hd.symm (hG d h0 e' h1').1
      · rw [h0] at h0'; cases h0'
        rw [g2] at h2'; cases h2'
        rfl
  · rcases hGinv e he with h1 | ⟨d, t, w, v, h0, _, h3, rfl, h4⟩
    · exact h.glt e h1
    · exact ⟨fun hc => h3 hc.symm, by rw [← h.srel.len]; exact h4⟩
  · rcases List.mem_append.1 hj with hj | hj
    · have := h.ld j b op hj hul hop hld
      cases isLoad o.op
      · exact this
      · exact List.mem_cons_of_mem _ this
    · simp at hj
      obtain ⟨rfl, rfl⟩ := hj
      rw [hi] at hop; cases hop
      rw [hld]
      exact List.mem_cons_self
/-- A flag is known. -/
theorem Inv.kb {X : Type} {P : Program} {ops : Array Oper} {plan : Plan} {ρ : List Ghost} {s : S} {m : List (Blk X)} {a : Act} {listed : Array Bool} {done rest : Plan} {loads : List Nat}
    (h : Inv P ops plan ρ s m a listed done rest loads) {t : Nat} {b : Bool} (ht : nth s.env t = some (.s (.b b))) : Inv P ops plan ρ ⟨setAt s.env t (.kb b), s.G⟩ m a listed done rest loads := by
  have ht' := ht
  rw [nth_eq] at ht'
  have hl := (List.getElem?_eq_some_iff.1 ht').1
  have hself : (setAt s.env t (.kb b))[t]? = some (.kb b) := by rw [setAt_eq]; exact List.getElem?_set_self hl
  have hne : ∀ k, k ≠ t → (setAt s.env t (.kb b))[k]? = s.env[k]? := fun k hk => by rw [setAt_eq]; exact List.getElem?_set_ne (fun e => hk e.symm)
  have same : ∀ x B, Same s ⟨setAt s.env t (.kb b), s.G⟩ B x := fun x B => ⟨by
    by_cases hx : x = t
    · subst hx
      exact .inr ⟨b, ht, by rw [nth_eq]; exact hself⟩
    · left; rw [nth_eq, nth_eq]; exact hne x hx, rfl⟩
  have haq : ∀ A o, aqS P ⟨setAt s.env t (.kb b), s.G⟩ A m o = aqS P s A m o := fun A o => aqS_same (fun x _ B _ => same x B)
  have hany : ∀ {d : Nat} {y : AV}, (∀ b, y ≠ .s (.b b)) → (s.env[d]? = some y ∨ s.env[d]? = none) → ((setAt s.env t (.kb b))[d]? = some y ∨ (setAt s.env t (.kb b))[d]? = none) := fun {d y} hy hd => by
    by_cases hdt : d = t
    · subst hdt
      rcases hd with hd | hd
      · rw [ht'] at hd; cases hd; exact absurd rfl (hy b)
      · rw [ht'] at hd; simp at hd
    · rw [hne d hdt]; exact hd
  have hkb : ∀ {u : Nat} {c : Bool}, s.env[u]? = some (.kb c) → (setAt s.env t (.kb b))[u]? = some (.kb c) := fun {u c} hu => by
    by_cases hut : u = t
    · subst hut; rw [ht'] at hu; simp at hu
    · rw [hne u hut]; exact hu
  have hnone : ∀ {d : Nat}, s.env[d]? = none → (setAt s.env t (.kb b))[d]? = none := fun {d} hd => by
    by_cases hdt : d = t
    · subst hdt; rw [ht'] at hd; simp at hd
    · rw [hne d hdt]; exact hd
  have hat : ∀ {d : Nat} {v : AV}, EnvAt s d v → EnvAt ⟨setAt s.env t (.kb b), s.G⟩ d v := fun {d v} hd => by
    rcases hd with ⟨y, hy, hs⟩ | hd
    · by_cases hdt : d = t
      · subst hdt
        rw [ht'] at hy; cases hy
        rcases hs with rfl | ⟨c, _, hc⟩
        · exact .inl ⟨_, hself, .inr ⟨b, rfl, rfl⟩⟩
        · simp at hc
      · exact .inl ⟨y, (hne d hdt).trans hy, hs⟩
    · exact .inr (hnone hd)
  refine ⟨h.hpl, h.size, h.sub, h.bars, h.dc, h.srel.setkb ht, fun j bj op hj hul hop => ?_, h.gok, h.prov, h.uniq, h.glt, h.ld⟩
  rcases h.cons j bj op hj hul hop with ⟨v, hv, hval⟩ | ⟨u, w, hga, hst, hd'⟩
  · refine .inl ⟨v, by rw [haq]; exact hv, fun d hd => ?_⟩
    obtain ⟨h1, h2⟩ := hval d hd
    refine ⟨fun u w hga => ?_, fun hga => ⟨hat (h2 hga).1, (h2 hga).2⟩⟩
    rcases h1 u w hga with ⟨he, hy⟩ | ⟨hk, hen, hno⟩ | ⟨hen, hno⟩
    · exact .inl ⟨he, hany (fun _ => by simp) hy⟩
    · exact .inr (.inl ⟨hkb hk, hat hen, hno⟩)
    · exact .inr (.inr ⟨hnone hen, hno⟩)
  · refine .inr ⟨u, w, hga, ?_, fun d hd => ⟨hany (fun _ => by simp) (hd' d hd).1, (hd' d hd).2⟩⟩
    rcases hst with ⟨c, hc, hcw⟩ | hu
    · exact .inl ⟨c, hkb hc, hcw⟩
    · right
      have := hany (d := u) (y := .tup []) (fun _ => by simp) (.inl hu)
      rcases this with h | h
      · exact h
      · by_cases hut : u = t
        · subst hut; rw [ht'] at hu; simp at hu
        · rw [hne u hut] at h; rw [hu] at h; simp at h
end Go.AEv
