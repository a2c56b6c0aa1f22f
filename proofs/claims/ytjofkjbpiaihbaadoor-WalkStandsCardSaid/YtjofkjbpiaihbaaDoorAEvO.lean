/-
  Regions that draw their order: the barrier, and every order.
-/
import Derived.Test.YtjofkjbpiaihbaaDoorAEvN
namespace Go.AEv
open Go

variable {C : Ctx}

def Form (ops : Array Oper) (s : S) (o : Oper) (s' : S) : Prop :=
  ∃ v ŝ, s' = putS ŝ o.dst v ∧ (ŝ = s ∨ ∃ j w t b, o.guard = some (j, w) ∧ gslot ops j = some t ∧ nth s.env t = some (.s (.b b)) ∧ ŝ = ⟨setAt s.env t (.kb b), s.G⟩)
theorem bexec_form {X : Type} {P : Program} {L : Lib X} {s : S} {A : List (Nat × Bool)} {m : List (Blk X)} {o : Oper} {K : S → List (Blk X) → Prop} {Kp : AV → List (Blk X) → Prop} {F : S → Prop} (hF : ∀ v, F (putS s o.dst v))
    (h : bexec P L s A m o K Kp) : bexec P L s A m o (fun s' m' => F s' ∧ K s' m') Kp := by
  unfold bexec at h ⊢
  split
  · rename_i hq
    rw [hq] at h
    simp only at h ⊢
    split at h
    · exact h.elim
    · split at h
      · rename_i v hv; exact ⟨hF v, h⟩
      · exact h.elim
  · rename_i hq
    rw [hq] at h
    simp only at h
    have : (fun (v : AV) (m' : List (Blk X)) => F (putS s o.dst v) ∧ K (putS s o.dst v) m') = fun v m' => K (putS s o.dst v) m' := by
      funext v m'; exact propext ⟨fun h => h.2, fun h => ⟨hF v, h⟩⟩
    rw [this]; exact h
theorem bstep_form {X : Type} {P : Program} {L : Lib X} {ops : Array Oper} {s : S} {m : List (Blk X)} {o : Oper} {K : S → List (Blk X) → Prop} {Kp : AV → List (Blk X) → Prop}
    (h : bstep P L ops s m o K Kp) : bstep P L ops s m o (fun s' m' => Form ops s o s' ∧ K s' m') Kp := by
  have f0 : ∀ v, Form ops s o (putS s o.dst v) := fun v => ⟨v, s, rfl, .inl rfl⟩
  unfold bstep at h ⊢
  split
  · rename_i hg
    rw [hg] at h
    exact bexec_form f0 h
  · rename_i j w hg
    rw [hg] at h
    simp only at h
    split
    · rename_i t ht
      rw [ht] at h
      simp only at h
      split
      · rename_i b hb
        rw [hb] at h
        simp only at h
        split
        · rename_i hbw; rw [hbw] at h; exact bexec_form f0 h
        · rename_i hbw; rw [hbw] at h; exact ⟨f0 _, h⟩
      · rename_i hb
        rw [hb] at h
        exact ⟨f0 _, h⟩
      · rename_i b hb
        rw [hb] at h
        simp only at h
        have f1 : ∀ v, Form ops s o (putS ⟨setAt s.env t (.kb b), s.G⟩ o.dst v) := fun v => ⟨v, _, rfl, .inr ⟨j, w, t, b, hg, ht, hb, rfl⟩⟩
        split
        · split
          · exact bexec_form f1 h
          · exact ⟨f1 _, h⟩
        · split
          · exact bexec_form f1 h
          · exact ⟨f1 _, h⟩
      · rename_i h1 h2 h3
        split at h
        · rename_i b hb; exact absurd hb (h1 b)
        · rename_i hb; exact absurd hb h2
        · rename_i b hb; exact absurd hb (h3 b)
        · exact h
    · rename_i ht
      rw [ht] at h
      exact h
theorem bstep_gok {X : Type} {P : Program} {L : Lib X} {ops : Array Oper} {s : S} {m : List (Blk X)} {o : Oper} {K : S → List (Blk X) → Prop} {Kp : AV → List (Blk X) → Prop}
    (h : bstep P L ops s m o K Kp) : GuardOk ops o := by
  intro j w hg
  unfold bstep at h
  rw [hg] at h
  simp only at h
  split at h
  · rename_i t ht; exact ⟨t, ht⟩
  · exact h.elim

theorem Inv.reach {X : Type} {P : Program} {ops : Array Oper} {plan : Plan} {ρ : List Ghost} {s : S} {m : List (Blk X)} {a : Act} {listed : Array Bool} {done rest : Plan} {loads : List Nat}
    (h : Inv P ops plan ρ s m a listed done rest loads) {i j : Nat} (hr : Reach ops i j) : (∀ o e, ops[i]? = some o → e ∈ o.after → Region.binds .any e = true → listed[e.on]? = some true) → listed[j]? = some true := by
  induction hr with
  | one ho he hb hj => intro hi; rw [← hj]; exact hi _ _ ho he hb
  | trans h1 h2 ih1 ih2 => intro hi; exact ih2 (fun o e ho he hb => h.dc _ o e (ih1 hi) ho he hb)
theorem get_set_true {listed : Array Bool} {i j : Nat} (h : (listed.setIfInBounds i true)[j]? = some true) : j = i ∨ listed[j]? = some true := by
  by_cases hj : j = i
  · exact .inl hj
  · rw [Array.getElem?_setIfInBounds_ne (by omega)] at h; exact .inr h
theorem get_set_keep {listed : Array Bool} {i j : Nat} (h : listed[j]? = some true) : (listed.setIfInBounds i true)[j]? = some true := by
  by_cases hj : j = i
  · subst hj
    have := (Array.getElem?_eq_some_iff.1 h).1
    simp [this]
  · rw [Array.getElem?_setIfInBounds_ne (by omega)]; exact h

/-- A barrier is done. -/
theorem Inv.barrier {X : Type} {P : Program} {ops : Array Oper} {plan : Plan} (hp : PlanOk ops plan) {ρ ρ' : List Ghost} {s s' : S} {m m' : List (Blk X)} {a : Act} {x : Value} {listed : Array Bool} {done rest : Plan} {loads : List Nat} {i : Nat} {o : Oper} {K : Prop}
    (h : Inv P ops plan ρ s m a listed done ((i, true) :: rest) loads) (hi : ops[i]? = some o) (hready : ∀ e, e ∈ o.after → Region.binds .any e = true → listed[e.on]? = some true) (hgo : GuardOk ops o)
    (hform : Form ops s o s') (hs : SRel ρ' s' (a.put o.dst x).tmps (minus (PD ops done listed) o.dst)) (hsides : sides P ops (masks ops.toList []) i s m s' m' loads K) :
    Inv P ops plan ρ' s' m' (a.put o.dst x) (listed.setIfInBounds i true) (done ++ [(i, true)]) rest loads := by
  have hpl' : plan = (done ++ [(i, true)]) ++ rest := by rw [h.hpl]; simp
  have hiplan : (i, true) ∈ plan := by rw [h.hpl]; simp
  have hnod := hp.nodup
  have hnot : ∀ b, (i, b) ∉ done := by
    intro b hb
    rw [h.hpl, List.map_append, List.nodup_append] at hnod
    exact hnod.2.2 i (List.mem_map.2 ⟨_, hb, rfl⟩) i (by simp) rfl
  have hunl : listed[i]? ≠ some true := fun hc => by obtain ⟨b, hb⟩ := h.sub i hc; exact hnot b hb
  have hdonepl : ∀ p ∈ done, p ∈ plan := fun p hpd => by rw [h.hpl]; exact List.mem_append_left _ hpd
  have hisz : i < listed.size := by rw [h.size]; exact (Array.getElem?_eq_some_iff.1 hi).1
  have hreach : ∀ j, Reach ops i j → listed[j]? = some true := fun j hr => h.reach hr (fun o' e ho' he hb => by rw [hi] at ho'; cases ho'; exact hready e he hb)
  have hnr : ∀ p ∈ done, ¬ Reach ops p.1 i := by
    intro p hpd hr
    obtain ⟨pre, post, rfl⟩ := List.append_of_mem hpd
    have := reach_before hp hr pre p.2 (post ++ (i, true) :: rest) (by rw [h.hpl]; simp)
    obtain ⟨q, hq1, hq2⟩ := List.mem_map.1 this
    exact hnot q.2 (by rw [← hq2]; exact List.mem_append_left _ hq1)
  -- what is pending isn't touched
  have pl : ∀ j b op, (j, b) ∈ done → listed[j]? ≠ some true → ops[j]? = some op → (∀ d, o.dst = some d → d ∉ looksOf ops j ∧ op.dst ≠ some d) ∧ (∀ d, op.dst = some d → d ∉ looksOf ops i) := by
    intro j b op hj hul hop
    refine ⟨fun d hd => ⟨fun hl => ?_, fun hc => ?_⟩, fun d hd hl => ?_⟩
    · rcases hp.ssa (j, b) (i, true) (hdonepl _ hj) hiplan d (by rw [dstOf_eq hi]; exact hd) hl with hr | hr
      · exact hnr _ hj hr
      · exact hul (hreach j hr.2)
    · have hne : j ≠ i := fun e => hnot b (by rw [← e]; exact hj)
      have := hp.dist (j, b) (i, true) (hdonepl _ hj) hiplan hne d (by rw [dstOf_eq hi]; exact hd)
      rw [dstOf_eq hop] at this
      exact this hc
    · rcases hp.ssa (i, true) (j, b) hiplan (hdonepl _ hj) d (by rw [dstOf_eq hop]; exact hd) hl with hr | hr
      · exact hul (hreach j hr)
      · have hb : b = true := hr.1
        subst hb
        exact hul (h.bars j hj)
  obtain ⟨v, ŝ, rfl, hŝ⟩ := hform
  have hĝ : ŝ.G = s.G := by rcases hŝ with rfl | ⟨_, _, _, _, _, _, _, rfl⟩ <;> rfl
  -- the slots
  have henv : ∀ k, o.dst ≠ some k → nth (putS ŝ o.dst v).env k = nth ŝ.env k := by
    intro k hk
    cases hd : o.dst with
    | none => rfl
    | some d =>
      rw [hd] at hk
      simp only [putS, nth_eq, setAt_eq]
      exact List.getElem?_set_ne (fun e => hk (by rw [e]))
  have henv2 : ∀ k, nth ŝ.env k = nth s.env k ∨ ∃ b, nth s.env k = some (.s (.b b)) ∧ nth ŝ.env k = some (.kb b) ∧ k ∈ looksOf ops i := by
    intro k
    rcases hŝ with rfl | ⟨j, w, t, b, hg, ht, hb, rfl⟩
    · exact .inl rfl
    · by_cases hkt : k = t
      · subst hkt
        refine .inr ⟨b, hb, ?_, looks_guard hi hg ht⟩
        rw [nth_eq] at hb
        have hl := (List.getElem?_eq_some_iff.1 hb).1
        simp only [nth_eq, setAt_eq]
        exact List.getElem?_set_self hl
      · left
        simp only [nth_eq, setAt_eq]
        exact List.getElem?_set_ne (fun e => hkt e.symm)
  have hGeq : (putS ŝ o.dst v).G = match o.dst with | some d => filterG s.G d | none => s.G := by
    cases o.dst with
    | none => exact hĝ
    | some d => simp only [putS, hĝ]
  have hGsub : ∀ e ∈ (putS ŝ o.dst v).G, e ∈ s.G := by
    rw [hGeq]
    intro e he
    split at he
    · exact (filterG_mem he).1
    · exact he
  have hGkeep : ∀ e ∈ s.G, (∀ d, o.dst = some d → e.d ≠ d ∧ e.t ≠ d) → e ∈ (putS ŝ o.dst v).G := by
    rw [hGeq]
    intro e he hn
    split
    · rename_i d hd
      have hn := hn d hd
      clear hGeq hGsub
      generalize s.G = G at he
      induction G with
      | nil => simp at he
      | cons g r ih =>
        simp only [filterG]
        rcases List.mem_cons.1 he with rfl | he
        · have h1 : Nat.beq e.d d = false := by rw [Bool.eq_false_iff]; exact fun hc => hn.1 (Nat.eq_of_beq_eq_true hc)
          have h2 : Nat.beq e.t d = false := by rw [Bool.eq_false_iff]; exact fun hc => hn.2 (Nat.eq_of_beq_eq_true hc)
          simp only [h1, h2]
          exact List.mem_cons_self
        · split
          · exact List.mem_cons_of_mem _ (ih he)
          · exact ih he
    · exact he
  have same : ∀ j b op, (j, b) ∈ done → listed[j]? ≠ some true → ops[j]? = some op → ∀ t ∈ looksOf ops j, ∀ B, (∀ u w, (u, w) ∈ B → u ∈ looksOf ops j) → Same s (putS ŝ o.dst v) B t := by
    intro j b op hj hul hop t ht B hB
    obtain ⟨hpl1, _⟩ := pl j b op hj hul hop
    have htd : o.dst ≠ some t := fun hc => (hpl1 t hc).1 ht
    refine ⟨?_, ?_⟩
    · rw [henv t htd]
      rcases henv2 t with h1 | ⟨b, h1, h2, _⟩
      · exact .inl h1
      · exact .inr ⟨b, h1, h2⟩
    · rw [hGeq]
      cases hd : o.dst with
      | none => rfl
      | some d =>
        simp only
        have hdB : ∀ w, memA B d w = false := fun w => by
          rw [Bool.eq_false_iff]; exact fun hm => (hpl1 d hd).1 (hB d w (memA_mem hm))
        by_cases hex : ∃ e ∈ s.G, e.d = t ∧ e.t = d
        · obtain ⟨e, he, he1, he2⟩ := hex
          have l1 : findG (filterG s.G d) t = none := by
            cases hf : findG (filterG s.G d) t with
            | none => rfl
            | some e' =>
              obtain ⟨h1, h2⟩ := findG_mem hf
              obtain ⟨h3, _, h4⟩ := filterG_mem h1
              have := h.uniq e' h3 e he (by rw [h2, he1])
              subst this
              exact absurd he2 h4
          rw [l1]
          cases hf : findG s.G t with
          | none => rfl
          | some e' =>
            obtain ⟨h1, h2⟩ := findG_mem hf
            have := h.uniq e' h1 e he (by rw [h2, he1])
            subst this
            simp only
            rw [he2, hdB]
        · rw [findG_filter (fun e he hed het => hex ⟨e, he, hed, het⟩) (fun hc => htd (by rw [hd, hc]))]
  have hnoE : ∀ {d}, noE s d → noE (putS ŝ o.dst v) d := fun hn e he => hn e (hGsub e he)
  have hul' : ∀ {j}, (listed.setIfInBounds i true)[j]? ≠ some true → listed[j]? ≠ some true ∧ j ≠ i := by
    intro j hj
    refine ⟨fun hc => hj (get_set_keep hc), fun hc => hj ?_⟩
    subst hc; simp [hisz]
  have hsep : ∀ {j b}, (j, b) ∈ done ++ [(i, true)] → j ≠ i → (j, b) ∈ done := by
    intro j b hj hne
    rcases List.mem_append.1 hj with hj | hj
    · exact hj
    · simp at hj; exact absurd hj.1 hne
  refine ⟨hpl', by simpa using h.size, fun j hj => ?_, fun j hj => ?_, fun j op e hj hop he hb => ?_, hs.weaken ?_, fun j b op hj hul hop => ?_, fun j b op hj hop => ?_, fun e he => ?_, fun e he e' he' => h.uniq e (hGsub e he) e' (hGsub e' he'), fun e he => ?_, fun j b op hj hul hop hld => ?_⟩
  · rcases get_set_true hj with rfl | hj
    · exact ⟨true, by simp⟩
    · obtain ⟨b, hb⟩ := h.sub j hj; exact ⟨b, List.mem_append_left _ hb⟩
  · rcases List.mem_append.1 hj with hj | hj
    · exact get_set_keep (h.bars j hj)
    · simp at hj; subst hj; simp [hisz]
  · rcases get_set_true hj with rfl | hj
    · rw [hi] at hop; cases hop
      exact get_set_keep (hready e he hb)
    · exact get_set_keep (h.dc j op e hj hop he hb)
  · rintro k ⟨⟨j, b, op, h1, h2, h3, h4⟩, hk⟩
    refine ⟨j, b, op, List.mem_append_left _ h1, fun hc => ?_, h3, h4⟩
    rcases get_set_true hc with rfl | hc
    · exact hnot b h1
    · exact h2 hc
  · -- what was worked out still holds
    obtain ⟨hul, hne⟩ := hul' hul
    have hj := hsep hj hne
    obtain ⟨hpl1, hpl2⟩ := pl j b op hj hul hop
    have haq : aqS P (putS ŝ o.dst v) (guardA ops op) m' op = aqS P s (guardA ops op) m op := by
      cases hld : isLoad op.op with
      | true =>
        refine sides_at hsides j (h.ld j b op hj hul hop hld) ?_ op hop
        rw [Bool.eq_false_iff]
        exact fun hc => hul (hreach j (bitOf_reach hc))
      | false =>
        rw [aqS_mem (m := m) hld]
        refine aqS_same (fun t ht B hB => same j b op hj hul hop t (looks_op hop ht) B (fun u w hu => ?_))
        rcases hB u w hu with hu | hu
        · exact looks_guardA hop hu
        · exact looks_op hop hu
    have hed : ∀ d, op.dst = some d → (putS ŝ o.dst v).env[d]? = s.env[d]? := by
      intro d hd
      have hdd : o.dst ≠ some d := fun hc => (hpl1 d hc).2 hd
      rw [← nth_eq, ← nth_eq, henv d hdd]
      rcases henv2 d with h1 | ⟨b, _, _, h1⟩
      · exact h1
      · exact absurd h1 (hpl2 d hd)
    have hkb : ∀ t b', t ∈ looksOf ops j → s.env[t]? = some (.kb b') → (putS ŝ o.dst v).env[t]? = some (.kb b') := by
      intro t b' ht hb
      have htd : o.dst ≠ some t := fun hc => (hpl1 t hc).1 ht
      rw [← nth_eq, henv t htd]
      rcases henv2 t with h1 | ⟨b, h1, _⟩
      · rw [h1, nth_eq]; exact hb
      · rw [nth_eq, hb] at h1; simp at h1
    have htup : ∀ t, t ∈ looksOf ops j → s.env[t]? = some (.tup []) → (putS ŝ o.dst v).env[t]? = some (.tup []) := by
      intro t ht hb
      have htd : o.dst ≠ some t := fun hc => (hpl1 t hc).1 ht
      rw [← nth_eq, henv t htd]
      rcases henv2 t with h1 | ⟨b, h1, _⟩
      · rw [h1, nth_eq]; exact hb
      · rw [nth_eq, hb] at h1; simp at h1
    rcases h.cons j b op hj hul hop with ⟨u, hu, hval⟩ | ⟨t, w, hga, hst, hd'⟩
    · refine .inl ⟨u, by rw [haq]; exact hu, fun d hd => ?_⟩
      obtain ⟨h1, h2⟩ := hval d hd
      refine ⟨fun t w hga => ?_, fun hga => ?_⟩
      · have htl := looks_guardA (w := w) hop (show (t, w) ∈ guardA ops op by rw [hga]; simp)
        rcases h1 t w hga with ⟨⟨e, he, g1, g2, g3⟩, hany⟩ | ⟨hk, hen, hno⟩ | ⟨hen, hno⟩
        · refine .inl ⟨⟨e, hGkeep e he (fun d' hd'' => ⟨fun hc => (hpl1 d' hd'').2 (by rw [hd, ← g1, hc]), fun hc => (hpl1 d' hd'').1 (by rw [← hc, g2]; exact htl)⟩), g1, g2, g3⟩, by rw [hed d hd]; exact hany⟩
        · exact .inr (.inl ⟨hkb t w htl hk, hen.congr (hed d hd), hnoE hno⟩)
        · exact .inr (.inr ⟨by rw [hed d hd]; exact hen, hnoE hno⟩)
      · obtain ⟨h3, h4⟩ := h2 hga
        exact ⟨h3.congr (hed d hd), hnoE h4⟩
    · have htl := looks_guardA (w := w) hop (show (t, w) ∈ guardA ops op by rw [hga]; simp)
      refine .inr ⟨t, w, hga, ?_, fun d hd => ?_⟩
      · rcases hst with ⟨b', hb, hne'⟩ | hb
        · exact .inl ⟨b', hkb t b' htl hb, hne'⟩
        · exact .inr (htup t htl hb)
      · obtain ⟨h1, h2⟩ := hd' d hd
        exact ⟨by rw [hed d hd]; exact h1, hnoE h2⟩
  · rcases List.mem_append.1 hj with hj | hj
    · exact h.gok j b op hj hop
    · simp at hj
      obtain ⟨rfl, rfl⟩ := hj
      rw [hi] at hop; cases hop
      exact hgo
  · obtain ⟨j, b, op, hr⟩ := h.prov e (hGsub e he)
    exact ⟨j, b, op, List.mem_append_left _ hr.1, hr.2⟩
  · rw [put_size]; exact h.glt e (hGsub e he)
  · obtain ⟨hul, hne⟩ := hul' hul
    exact h.ld j b op (hsep hj hne) hul hop hld

/-- What had been worked out ahead is done. -/
theorem Inv.pend {X : Type} {P : Program} {ops : Array Oper} {plan : Plan} (hp : PlanOk ops plan) {ρ : List Ghost} {s : S} {m : List (Blk X)} {a : Act} {x : Value} {listed : Array Bool} {done rest : Plan} {loads : List Nat} {i : Nat} {b : Bool} {o : Oper}
    (h : Inv P ops plan ρ s m a listed done rest loads) (hi : ops[i]? = some o) (hid : (i, b) ∈ done) (hunl : listed[i]? ≠ some true) (hready : ∀ e, e ∈ o.after → Region.binds .any e = true → listed[e.on]? = some true)
    (hfill : ∀ d, o.dst = some d → Fill ρ s a.tmps d x) : Inv P ops plan ρ s m (a.put o.dst x) (listed.setIfInBounds i true) done rest loads := by
  have hdonepl : ∀ p ∈ done, p ∈ plan := fun p hpd => by rw [h.hpl]; exact List.mem_append_left _ hpd
  have hisz : i < listed.size := by rw [h.size]; exact (Array.getElem?_eq_some_iff.1 hi).1
  have hul' : ∀ {j}, (listed.setIfInBounds i true)[j]? ≠ some true → listed[j]? ≠ some true ∧ j ≠ i := by
    intro j hj
    refine ⟨fun hc => hj (get_set_keep hc), fun hc => hj ?_⟩
    subst hc; simp [hisz]
  have hne' : ∀ {j}, listed[j]? ≠ some true → j ≠ i → (listed.setIfInBounds i true)[j]? ≠ some true := by
    intro j hj hji hc
    rcases get_set_true hc with hc | hc
    · exact hji hc
    · exact hj hc
  refine ⟨h.hpl, by simpa using h.size, fun j hj => ?_, fun j hj => get_set_keep (h.bars j hj), fun j op e hj hop he hb => ?_, ?_, fun j b op hj hul hop => h.cons j b op hj (hul' hul).1 hop, h.gok, h.prov, h.uniq, fun e he => by rw [put_size]; exact h.glt e he, fun j b op hj hul hop hld => h.ld j b op hj (hul' hul).1 hop hld⟩
  · rcases get_set_true hj with rfl | hj
    · exact ⟨b, hid⟩
    · exact h.sub j hj
  · rcases get_set_true hj with rfl | hj
    · rw [hi] at hop; cases hop
      exact get_set_keep (hready e he hb)
    · exact get_set_keep (h.dc j op e hj hop he hb)
  · refine h.srel.fill o.dst hfill (fun k ⟨j, b', op, h1, h2, h3, h4⟩ hk => ⟨j, b', op, h1, hne' h2 (fun e => hk (by subst e; rw [hi] at h3; cases h3; exact h4)), h3, h4⟩) (fun e he het => ?_) h.glt
    obtain ⟨j, b', op, h1, h2, h3, h4⟩ := h.prov e he
    have htl := looks_guardA (w := e.w) h2 (show (e.t, e.w) ∈ guardA ops op by rw [h4]; simp)
    have hne : ∀ hr : Reach ops j i, j ≠ i := by
      rintro hr rfl
      obtain ⟨pre, post, hpp⟩ := List.append_of_mem (hdonepl _ hid)
      have := reach_before hp hr pre b post hpp
      have hnod := hp.nodup
      rw [hpp, List.map_append, List.nodup_append] at hnod
      exact hnod.2.2 _ this _ (by simp) rfl
    rcases hp.ssa (j, b') (i, b) (hdonepl _ h1) (hdonepl _ hid) e.t (by rw [dstOf_eq hi]; exact het) htl with hr | hr
    · refine ⟨j, b', op, h1, hne' (fun hc => ?_) (hne hr), h2, h3⟩
      exact hunl (h.reach hr (fun o' e' ho' he' hb' => h.dc j o' e' hc ho' he' hb'))
    · have hb : b = true := hr.1
      subst hb
      exact absurd (h.bars i hid) hunl

def unl (n : Nat) (listed : Array Bool) : Nat := ((List.range n).filter fun i => listed[i]? != some true).length
theorem filter_lt {p q : Nat → Bool} (hpq : ∀ x, p x = true → q x = true) : ∀ (l : List Nat) (i : Nat), i ∈ l → q i = true → p i = false → (l.filter p).length < (l.filter q).length
  | [], i, h => by simp at h
  | x :: r, i, h => by
    intro hq hpi
    have hle : ∀ l : List Nat, (l.filter p).length ≤ (l.filter q).length := by
      intro l
      induction l with
      | nil => simp
      | cons y l ih =>
        simp only [List.filter_cons]
        by_cases hy : p y = true
        · simp [hy, hpq y hy, ih]
        · simp only [Bool.not_eq_true] at hy
          simp only [hy, Bool.false_eq_true, if_false]
          split
          · simp; omega
          · exact ih
    simp only [List.filter_cons]
    rcases List.mem_cons.1 h with rfl | h
    · simp only [hpi, hq, if_true, Bool.false_eq_true, if_false, List.length_cons]
      have := hle r; omega
    · have ih := filter_lt hpq r i h hq hpi
      by_cases hx : p x = true
      · simp [hx, hpq x hx]; exact ih
      · simp only [Bool.not_eq_true] at hx
        simp only [hx, Bool.false_eq_true, if_false]
        split
        · simp only [List.length_cons]; omega
        · exact ih
theorem unl_lt {n : Nat} {listed : Array Bool} {i : Nat} (hi : i < n) (hs : listed.size = n) (h : listed[i]? ≠ some true) : unl n (listed.setIfInBounds i true) < unl n listed := by
  unfold unl
  refine filter_lt (fun x hx => ?_) _ i (by simpa using hi) (by simpa using h) (by simp [hs, hi])
  simp at hx ⊢
  exact fun hc => hx (get_set_keep hc)
theorem unl_zero {n : Nat} {listed : Array Bool} (h : unl n listed = 0) : ∀ i, i < n → listed[i]? = some true := by
  intro i hi
  unfold unl at h
  rw [List.length_eq_zero_iff, List.filter_eq_nil_iff] at h
  simpa using h i (by simpa using hi)
theorem ready_iff {ops : Array Oper} {listed : Array Bool} (hs : listed.size = ops.size) {i : Nat} : i ∈ Region.ready .any ops listed ↔ ∃ o, ops[i]? = some o ∧ listed[i]? ≠ some true ∧ ∀ e, e ∈ o.after → Region.binds .any e = true → listed[e.on]? = some true := by
  have hD : ∀ j, listed.getD j false = true ↔ listed[j]? = some true := by
    intro j
    rw [Array.getD_eq_getD_getElem?]
    cases listed[j]? with
    | none => simp
    | some b => simp
  unfold Region.ready
  rw [List.mem_filter, List.mem_range]
  constructor
  · rintro ⟨hi, h⟩
    rw [Bool.and_eq_true] at h
    have ho : ops[i]? = some ops[i] := by simp [hi]
    refine ⟨ops[i], ho, fun hc => ?_, fun e he hb => ?_⟩
    · have h1 := h.1
      rw [Array.getD_eq_getD_getElem?, hc] at h1
      simp at h1
    · have h2 := h.2
      rw [ho] at h2
      simp only [Option.map_some, Option.getD_some, Array.all_eq_true_iff_forall_mem] at h2
      have := h2 e he
      rw [hb] at this
      simp only [Bool.not_true, Bool.false_or] at this
      exact (hD _).1 this
  · rintro ⟨o, ho, hul, hpr⟩
    have hi := (Array.getElem?_eq_some_iff.1 ho).1
    refine ⟨hi, ?_⟩
    rw [Bool.and_eq_true]
    constructor
    · rw [Array.getD_eq_getD_getElem?]
      have : listed[i]? = some listed[i] := by simp [hs, hi]
      rw [this] at hul ⊢
      simpa using hul
    · rw [ho]
      simp only [Option.map_some, Option.getD_some, Array.all_eq_true_iff_forall_mem]
      intro e he
      cases hb : Region.binds .any e with
      | false => rfl
      | true => simp only [Bool.not_true, Bool.false_or]; exact (hD _).2 (hpr e he hb)

section
variable {L : Lib C.X} {ops : Array Oper} {plan : Plan} {Q : List AV → List (Blk C.X) → Prop} {Kp : AV → List (Blk C.X) → Prop} {Q' : Exit → Act → World → Prop} {ρ₀ : List Ghost} {w₀ : World} {fp₀ : Nat → Prop} {D : List Deferred}

/-- As far as it goes without a barrier. -/
theorem advance_all (hp : PlanOk ops plan) {ρ : List Ghost} {m : List (Blk C.X)} {a : Act} {listed : Array Bool} : ∀ (rest done : Plan) (s : S) (loads : List Nat), Inv C.P ops plan ρ s m a listed done rest loads →
    aDraw C.P L ops (masks ops.toList []) Q Kp rest loads s m → ∃ done' rest' s' loads', Inv C.P ops plan ρ s' m a listed done' rest' loads' ∧ aDraw C.P L ops (masks ops.toList []) Q Kp rest' loads' s' m ∧ (rest' = [] ∨ ∃ i r, rest' = (i, true) :: r)
  | [], done, s, loads, h, hd => ⟨done, [], s, loads, h, hd, .inl rfl⟩
  | (i, true) :: r, done, s, loads, h, hd => ⟨done, _, s, loads, h, hd, .inr ⟨i, r, rfl⟩⟩
  | (i, false) :: r, done, s, loads, h, hd => by
    simp only [aDraw] at hd
    split at hd
    · exact hd.elim
    · rename_i o ho
      split at hd
      · rename_i t b hsp
        have hkb := h.kb (splitOn_at hsp)
        cases b with
        | true =>
          simp only at hd
          split at hd
          · exact hd.elim
          rename_i hdg
          split at hd
          · rename_i qv hq
            exact advance_all hp r _ _ _ (hkb.advance hp ho (qvalF_qval hdg hq)) hd
          · exact hd.elim
        | false =>
          simp only at hd
          split at hd
          · exact hd.elim
          rename_i hdg
          split at hd
          · rename_i qv hq
            exact advance_all hp r _ _ _ (hkb.advance hp ho (qvalF_qval hdg hq)) hd
          · exact hd.elim
      · split at hd
        · exact hd.elim
        rename_i hdg
        split at hd
        · rename_i qv hq
          exact advance_all hp r _ _ _ (h.advance hp ho (qvalF_qval hdg hq)) hd
        · exact hd.elim

theorem draw_all (hL : LibSound C L) (hp : PlanOk ops plan)
    (hQ : ∀ s m ρ fp a w, Q s.env m → SRel ρ s a.tmps none' → a.defers = D → HRel C ρ m w fp → St ρ₀ w₀ fp₀ ρ w fp → Q' .normal a w)
    (hP : ∀ a x w, a.defers = D → Behind C ρ₀ w₀ fp₀ Kp x w → Q' (.panic [{ v := x, recovered := false }]) a w) :
    ∀ (fuel : Nat) (listed : Array Bool) (done rest : Plan) (loads : List Nat) (s : S) (m : List (Blk C.X)) (ρ : List Ghost) (fp : Nat → Prop) (a : Act) (w : World), Inv C.P ops plan ρ s m a listed done rest loads →
      aDraw C.P L ops (masks ops.toList []) Q Kp rest loads s m → HRel C ρ m w fp → St ρ₀ w₀ fp₀ ρ w fp → a.defers = D → unl ops.size listed ≤ fuel → wpAny C.P .any ops Q' fuel listed a w := by
  -- where all is done
  have fin : ∀ (listed : Array Bool) (done rest : Plan) (loads : List Nat) (s : S) (m : List (Blk C.X)) (ρ : List Ghost) (fp : Nat → Prop) (a : Act) (w : World), Inv C.P ops plan ρ s m a listed done rest loads →
      aDraw C.P L ops (masks ops.toList []) Q Kp rest loads s m → HRel C ρ m w fp → St ρ₀ w₀ fp₀ ρ w fp → a.defers = D → (∀ i, i < ops.size → listed[i]? = some true) → Q' .normal a w := by
    intro listed done rest loads s m ρ fp a w h hd hH hst hdef hall
    cases rest with
    | nil =>
      refine hQ s m ρ fp a w hd (h.srel.weaken (fun k ⟨i, b, o, h1, h2, h3, h4⟩ => h2 (hall i (Array.getElem?_eq_some_iff.1 h3).1))) hdef hH hst
    | cons p r =>
      exfalso
      obtain ⟨i, b⟩ := p
      have hi : i < ops.size := by
        simp only [aDraw] at hd
        split at hd
        · exact hd.elim
        · rename_i o ho; exact (Array.getElem?_eq_some_iff.1 ho).1
      obtain ⟨b', hb'⟩ := h.sub i (hall i hi)
      have hnod := hp.nodup
      rw [h.hpl, List.map_append, List.nodup_append] at hnod
      exact hnod.2.2 i (List.mem_map.2 ⟨_, hb', rfl⟩) i (by simp) rfl
  intro fuel
  induction fuel with
  | zero =>
    intro listed done rest loads s m ρ fp a w h hd hH hst hdef hu
    have hall := unl_zero (Nat.le_zero.1 hu)
    refine ⟨?_, fin _ _ _ _ _ _ _ _ _ _ h hd hH hst hdef hall⟩
    rw [List.eq_nil_iff_forall_not_mem]
    intro i hi
    obtain ⟨o, ho, hul, _⟩ := (ready_iff h.size).1 hi
    exact hul (hall i (Array.getElem?_eq_some_iff.1 ho).1)
  | succ fuel ih =>
    intro listed done rest loads s m ρ fp a w h hd hH hst hdef hu
    have hdp : ∀ (o : Oper) x, (a.put o.dst x).defers = D := fun o x => by cases o.dst <;> exact hdef
    refine ⟨fun hnil => ?_, fun i hi => ?_⟩
    · -- nothing is ready: all is done
      refine fin _ _ _ _ _ _ _ _ _ _ h hd hH hst hdef ?_
      -- the first one of the plan that isn't listed would be ready
      have key : ∀ (l pre : Plan), plan = pre ++ l → (∀ p ∈ pre, p.1 < ops.size → listed[p.1]? = some true) → ∀ p ∈ l, p.1 < ops.size → listed[p.1]? = some true := by
        intro l
        induction l with
        | nil => intro pre _ _ p hp; simp at hp
        | cons q r ihl =>
          intro pre hpl hpre
          have hq : q.1 < ops.size → listed[q.1]? = some true := by
            intro hlt
            have ho : ops[q.1]? = some ops[q.1] := by simp [hlt]
            apply Classical.byContradiction
            intro hc
            have : q.1 ∈ Region.ready .any ops listed := (ready_iff h.size).2 ⟨_, ho, hc, fun e he hb => by
              obtain ⟨q', hq1, hq2⟩ := List.mem_map.1 (hp.ord pre q r hpl _ e ho he hb)
              by_cases hlt' : q'.1 < ops.size
              · rw [← hq2]; exact hpre q' hq1 hlt'
              · exfalso
                -- an edge that leads outside the region: its operation is never listed
                obtain ⟨pre1, post1, hpp⟩ := List.append_of_mem hq1
                exact hlt' (hp.inb _ (by rw [hpl]; exact List.mem_append_left _ hq1))⟩
            rw [hnil] at this
            simp at this
          intro p hpm hlt
          rcases List.mem_cons.1 hpm with rfl | hpm
          · exact hq hlt
          · refine ihl (pre ++ [q]) (by rw [hpl]; simp) (fun p' hp' hlt' => ?_) p hpm hlt
            rcases List.mem_append.1 hp' with hp' | hp'
            · exact hpre p' hp' hlt'
            · simp at hp'; subst hp'; exact hq hlt'
      intro i hi
      obtain ⟨b, hb⟩ := hp.cov i hi
      exact key plan [] rfl (fun p hp => by simp at hp) (i, b) hb hi
    · obtain ⟨o, ho, hul, hready⟩ := (ready_iff h.size).1 hi
      have hisz := (Array.getElem?_eq_some_iff.1 ho).1
      have hu' : unl ops.size (listed.setIfInBounds i true) ≤ fuel := by have := unl_lt hisz h.size hul; omega
      obtain ⟨done', rest', s', loads', h', hd', hrest⟩ := advance_all hp rest done s loads h hd
      have hreach : ∀ j, Reach ops i j → listed[j]? = some true := fun j hr => h'.reach hr (fun o' e ho' he hb => by rw [ho] at ho'; cases ho'; exact hready e he hb)
      obtain ⟨b, hb⟩ := hp.cov i hisz
      -- no slot that it looks at is pending
      have hlook : Looks ops o (PD ops done' listed) := by
        have key : ∀ t ∈ looksOf ops i, ¬ PD ops done' listed t := by
          rintro t ht ⟨j, bj, oj, h1, h2, h3, h4⟩
          have hjp : (j, bj) ∈ plan := by rw [h'.hpl]; exact List.mem_append_left _ h1
          rcases hp.ssa (i, b) (j, bj) hb hjp t (by rw [dstOf_eq h3]; exact h4) ht with hr | hr
          · exact h2 (hreach j hr)
          · have : bj = true := hr.1
            subst this
            exact h2 (h'.bars j h1)
        exact ⟨fun t ht => key t (looks_op ho ht), fun j w t hg ht => key t (looks_guard ho hg ht)⟩
      by_cases hid : ∃ b', (i, b') ∈ done'
      · obtain ⟨b', hb'⟩ := hid
        refine pexec hH h'.srel hlook (h'.gok i b' o hb' ho) h'.uniq (h'.cons i b' o hb' hul ho) ho (fun x hf => ?_)
        exact ih _ _ _ _ _ _ _ _ _ _ (h'.pend hp ho hb' hul hready hf) hd' hH hst (hdp o x) hu'
      · -- it is the barrier
        have hir : (i, b) ∈ rest' := by
          rw [h'.hpl] at hb
          rcases List.mem_append.1 hb with hb | hb
          · exact absurd ⟨b, hb⟩ hid
          · exact hb
        rcases hrest with rfl | ⟨k, r, rfl⟩
        · simp at hir
        · have hkul : listed[k]? ≠ some true := by
            intro hc
            obtain ⟨b', hb'⟩ := h'.sub k hc
            have hnod := hp.nodup
            rw [h'.hpl, List.map_append, List.nodup_append] at hnod
            exact hnod.2.2 k (List.mem_map.2 ⟨_, hb', rfl⟩) k (by simp) rfl
          have hik : i = k ∧ b = true := by
            rcases List.mem_cons.1 hir with he | hir
            · cases he; exact ⟨rfl, rfl⟩
            · exact absurd (hreach k (hp.bar done' k r h'.hpl _ hir)) hkul
          obtain ⟨rfl, rfl⟩ := hik
          simp only [aDraw, ho] at hd'
          have hgo := bstep_gok hd'
          refine bstep_sound hL hH h'.srel hlook ho (bstep_form hd') (fun x w' hn => ?_) (fun x w' hb => hP a x w' hdef ?_)
          · obtain ⟨s2, m2, ρ2, fp2, ⟨hform, hk⟩, hs2, hh2, hst2⟩ := hn
            exact ih _ _ _ _ _ _ _ _ _ _ (h'.barrier hp ho hready hgo hform hs2 hk) (sides_K hk) hh2 (hst.trans hst2) (hdp o x) hu'
          · obtain ⟨v, m', ρ', fp', hk, hst', hv, hh⟩ := hb
            exact ⟨v, m', ρ', fp', hk, hst.trans hst', hv, hh⟩
end
end Go.AEv
