/-
  Regions that draw their order: the proof.
-/
import Derived.Test.YtjofkjbpiaihbaaDoorAEvL
namespace Go.AEv
open Go

variable {C : Ctx}

def noE (s : S) (d : Nat) : Prop := ∀ e ∈ s.G, e.d ≠ d
/-- What is said of a value once a flag is known. -/
def Sim (y v : AV) : Prop := y = v ∨ ∃ b, v = .s (.b b) ∧ y = .kb b
def EnvAt (s : S) (d : Nat) (v : AV) : Prop := (∃ y, s.env[d]? = some y ∧ Sim y v) ∨ s.env[d]? = none
theorem EnvAt.of {s : S} {d : Nat} {v : AV} (h : s.env[d]? = some v ∨ s.env[d]? = none) : EnvAt s d v := h.imp (fun h => ⟨v, h, .inl rfl⟩) (fun h => h)
theorem EnvAt.congr {s s' : S} {d : Nat} {v : AV} (he : s'.env[d]? = s.env[d]?) (h : EnvAt s d v) : EnvAt s' d v := by unfold EnvAt; rw [he]; exact h
/-- What stands in the slot of an operation that was worked out ahead. -/
def Val (ops : Array Oper) (s : S) (o : Oper) (v : AV) : Prop := ∀ d, o.dst = some d →
  (∀ t w, guardA ops o = [(t, w)] → (∃ e ∈ s.G, e.d = d ∧ e.t = t ∧ e.w = w ∧ e.v = v) ∧ (s.env[d]? = some .any ∨ s.env[d]? = none) ∨ (s.env[t]? = some (.kb w) ∧ EnvAt s d v ∧ noE s d) ∨ s.env[d]? = none ∧ noE s d) ∧
  (guardA ops o = [] → EnvAt s d v ∧ noE s d)
def Cons {X : Type} (P : Program) (ops : Array Oper) (s : S) (m : List (Blk X)) (o : Oper) : Prop :=
  (∃ v, aqS P s (guardA ops o) m o = some v ∧ Val ops s o v) ∨
  (∃ t w, guardA ops o = [(t, w)] ∧ ((∃ b, s.env[t]? = some (.kb b) ∧ b ≠ w) ∨ s.env[t]? = some (.tup [])) ∧ ∀ d, o.dst = some d → (s.env[d]? = some (.tup []) ∨ s.env[d]? = none) ∧ noE s d)
/-- Every guard names a slot. -/
def GuardOk (ops : Array Oper) (o : Oper) : Prop := ∀ j w, o.guard = some (j, w) → ∃ t, gslot ops j = some t

theorem guardA_none {ops : Array Oper} {o : Oper} (h : o.guard = none) : guardA ops o = [] := by simp [guardA, h]
theorem guardA_some {ops : Array Oper} {o : Oper} {j t : Nat} {w : Bool} (h : o.guard = some (j, w)) (ht : gslot ops j = some t) : guardA ops o = [(t, w)] := by simp [guardA, h, ht]

/-- What is said of a slot when the operation has been done. -/
def Fill (ρ : List Ghost) (s : S) (tm : Array Value) (d : Nat) (x : Value) : Prop :=
  (∀ y, s.env[d]? = some y → VRel ρ y x) ∧ ∀ e ∈ s.G, e.d = d → (tm[e.t]? = some (.bool e.w) → VRel ρ e.v x) ∧ (tm[e.t]? ≠ some (.bool e.w) → x = undef)

theorem pexec {ρ : List Ghost} {m : List (Blk C.X)} {w : World} {fp : Nat → Prop} (hH : HRel C ρ m w fp) {ops : Array Oper} {s : S} {a : Act} {pend : Nat → Prop} (hS : SRel ρ s a.tmps pend) {o : Oper} (hl : Looks ops o pend) (hg : GuardOk ops o)
    (huniq : ∀ e ∈ s.G, ∀ e' ∈ s.G, e.d = e'.d → e = e') (h : Cons C.P ops s m o) {K : Act → World → Prop} {Q : Exit → Act → World → Prop} {i : Nat} (hi : ops[i]? = some o)
    (hK : ∀ x, (∀ d, o.dst = some d → Fill ρ s a.tmps d x) → K (a.put o.dst x) w) : wpOp C.P ops Q i K a w := by
  have skip : Region.wanted o (yielded ops a.tmps) = false → (∀ d, o.dst = some d → Fill ρ s a.tmps d undef) → wpOp C.P ops Q i K a w := by
    intro hw hf
    unfold wpOp
    simp only [hi, hw, Bool.false_eq_true, if_false]
    exact hK undef hf
  have go : ∀ A v, AOk a.tmps A → aqS C.P s A m o = some v → Region.wanted o (yielded ops a.tmps) = true → (∀ x, VRel ρ v x → ∀ d, o.dst = some d → Fill ρ s a.tmps d x) → wpOp C.P ops Q i K a w := by
    intro A v hA hv hw hf
    obtain ⟨x, h1, h2⟩ := aqS_sound hH hS hA hl.1 hv
    unfold wpOp
    simp only [hi, hw, if_true]
    left
    unfold Oper.wp
    rw [h1]
    exact hK x (hf x h2)
  have env1 : ∀ {d : Nat} {v : AV} {x : Value}, EnvAt s d v → VRel ρ v x → ∀ y, s.env[d]? = some y → VRel ρ y x := by
    intro d v x he hx y hy
    rcases he with ⟨z, he, hs⟩ | he
    · rw [he] at hy; cases hy
      rcases hs with rfl | ⟨b, rfl, rfl⟩
      · exact hx
      · rw [hx.s_inv]; exact .kb b
    · rw [he] at hy; simp at hy
  cases hgu : o.guard with
  | none =>
    have hA := guardA_none (ops := ops) hgu
    rcases h with ⟨v, hv, hval⟩ | ⟨t, w', ht, _⟩
    · rw [hA] at hv
      refine go [] v (AOk.nil _) hv (by simp [Region.wanted, hgu]) (fun x hx d hd => ?_)
      obtain ⟨h1, h2⟩ := (hval d hd).2 hA
      exact ⟨env1 h1 hx, fun e he hed => absurd hed (h2 e he)⟩
    · rw [hA] at ht; simp at ht
  | some g =>
    obtain ⟨j, wt⟩ := g
    obtain ⟨t, ht⟩ := hg j wt hgu
    have hA := guardA_some hgu ht
    have hwi := wanted_iff (tm := a.tmps) hgu ht
    have hpt := hl.2 j wt t hgu ht
    rcases h with ⟨v, hv, hval⟩ | ⟨t', w', ht', hst, hd'⟩
    · rw [hA] at hv
      have fill : ∀ x, (a.tmps[t]? = some (.bool wt) → VRel ρ v x) → (a.tmps[t]? ≠ some (.bool wt) → x = undef) → ∀ d, o.dst = some d → Fill ρ s a.tmps d x := by
        intro x h1 h2 d hd
        rcases (hval d hd).1 t wt hA with ⟨⟨e, he, hed, het, hew, hev⟩, hany⟩ | ⟨hkb, hen, hno⟩ | ⟨hen, hno⟩
        · refine ⟨env1 (EnvAt.of hany) (.any x), fun e' he' hed' => ?_⟩
          have := huniq e' he' e he (by rw [hed', hed])
          subst this
          rw [het, hew, hev]
          exact ⟨h1, h2⟩
        · have hb : a.tmps[t]? = some (.bool wt) := by
            obtain ⟨u, hu1, hu2⟩ := hS.get hkb hpt
            cases hu2; exact hu1
          exact ⟨env1 hen (h1 hb), fun e he hed => absurd hed (hno e he)⟩
        · exact ⟨fun y hy => by rw [hen] at hy; simp at hy, fun e he hed => absurd hed (hno e he)⟩
      by_cases hc : a.tmps[t]? = some (.bool wt)
      · exact go _ v (AOk.one hc) hv (hwi.2 hc) (fun x hx => fill x (fun _ => hx) (fun hn => absurd hc hn))
      · exact skip (by rw [Bool.eq_false_iff]; exact fun h => hc (hwi.1 h)) (fill undef (fun h => absurd h hc) (fun _ => rfl))
    · rw [hA] at ht'
      simp at ht'
      obtain ⟨rfl, rfl⟩ := ht'
      have hc : ¬ a.tmps[t]? = some (.bool wt) := by
        intro hc
        rcases hst with ⟨b, hb, hne⟩ | hb
        · obtain ⟨u, hu1, hu2⟩ := hS.get hb hpt
          cases hu2
          rw [hc] at hu1; simp at hu1; exact hne hu1.symm
        · obtain ⟨u, hu1, hu2⟩ := hS.get hb hpt
          obtain ⟨vs, rfl, _⟩ := hu2.tup_inv
          rw [hc] at hu1; simp at hu1
      refine skip (by rw [Bool.eq_false_iff]; exact fun h => hc (hwi.1 h)) (fun d hd => ?_)
      obtain ⟨h1, h2⟩ := hd' d hd
      exact ⟨env1 (EnvAt.of h1) (.tup' (VsRel.nil ρ)), fun e he hed => absurd hed (h2 e he)⟩

theorem SRel.weaken {ρ : List Ghost} {s : S} {tm : Array Value} {pend pend' : Nat → Prop} (h : SRel ρ s tm pend) (hp : ∀ k, pend k → pend' k) : SRel ρ s tm pend' :=
  ⟨h.len, fun k x v hk => h.env k x v (fun hk' => hk (hp k hk')), fun e he hn => h.G e he (fun hk => hn (hp _ hk))⟩
theorem SRel.fill {ρ : List Ghost} {s : S} {a : Act} {pend pend' : Nat → Prop} (h : SRel ρ s a.tmps pend) (dst : Option Tmp) {x : Value} (hf : ∀ d, dst = some d → Fill ρ s a.tmps d x)
    (hp : ∀ k, pend k → dst ≠ some k → pend' k) (ht : ∀ e ∈ s.G, dst = some e.t → pend' e.d) (hlt : ∀ e ∈ s.G, e.t ≠ e.d ∧ e.d < a.tmps.size) : SRel ρ s (a.put dst x).tmps pend' := by
  cases dst with
  | none => exact h.weaken (fun k hk => hp k hk (by simp))
  | some d =>
    have hd := hf d rfl
    refine ⟨by rw [put_size]; exact h.len, fun k y u hk hy hu => ?_, fun e he hn => ?_⟩
    · by_cases hkd : k = d
      · subst hkd
        have hl : k < s.env.length := (List.getElem?_eq_some_iff.1 hy).1
        rw [put_get_self a x (h.len ▸ hl)] at hu
        cases hu
        exact hd.1 y hy
      · rw [put_get_ne a x hkd] at hu
        exact h.env k y u (fun hpk => hk (hp k hpk (fun e => hkd (by cases e; rfl)))) hy hu
    · have htd : e.t ≠ d := fun hc => hn (ht e he (by rw [hc]))
      unfold GOk
      rw [put_get_ne a x htd]
      by_cases hed : e.d = d
      · obtain ⟨h1, h2⟩ := hd.2 e he hed
        have hl := (hlt e he).2
        rw [hed] at hl ⊢
        rw [put_get_self a x hl]
        exact ⟨fun hc => ⟨x, rfl, h1 hc⟩, fun hc => by rw [h2 hc]⟩
      · rw [put_get_ne a x hed]
        exact h.G e he (fun hpk => hn (hp _ hpk (fun e' => hed (by cases e'; rfl))))
end Go.AEv
