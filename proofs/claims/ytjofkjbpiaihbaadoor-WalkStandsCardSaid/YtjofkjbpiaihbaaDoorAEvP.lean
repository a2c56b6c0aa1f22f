/-
  Code and functions: 'aev' evaluates a piece of code, 'aFun' a function; what they say holds of the model.
-/
import Derived.Test.YtjofkjbpiaihbaaDoorAEvO
namespace Go.AEv
open Go

variable {C : Ctx}

inductive AExit where
  | normal
  | exit (id : Nat)
  | goto (l : Nat)
  | ret

def aRegion {X : Type} (P : Program) (L : Lib X) (ops : Array Oper) (draw : Bool) (Q : List AV → List (Blk X) → Prop) (Kp : AV → List (Blk X) → Prop) (env : List AV) (m : List (Blk X)) : Prop :=
  match draw with
  | false => aLex P L ops Q Kp ops.toList ⟨env, []⟩ m
  | true => match chkPlan ops (masks ops.toList []) (planOf ops (masks ops.toList [])) with
    | true => aDraw P L ops (masks ops.toList []) Q Kp (planOf ops (masks ops.toList [])) [] ⟨env, []⟩ m
    | false => False

/-- A scope's jumps. -/
def scopeK {X : Type} (ev : Code → List AV → List (Blk X) → (AExit → List AV → List (Blk X) → Prop) → Prop) (b : Code) : Nat → Code → List AV → List (Blk X) → (AExit → List AV → List (Blk X) → Prop) → Prop
  | 0, _, _, _, _ => False
  | n + 1, r, env, m, Q => ev r env m fun e env' m' => match e with
    | .goto l => match findLabel b l with
      | some r' => scopeK ev b n r' env' m' Q
      | none => Q (.goto l) env' m'
    | e => Q e env' m'
/-- What is said of loops, in place of going round them. -/
def LoopSpec (X : Type) := (AV → List (Blk X) → Prop) → Code → List AV → List (Blk X) → (AExit → List AV → List (Blk X) → Prop) → Prop
def aev {X : Type} (P : Program) (L : Lib X) (lp : Option (LoopSpec X)) (Kp : AV → List (Blk X) → Prop) : Nat → Code → List AV → List (Blk X) → (AExit → List AV → List (Blk X) → Prop) → Prop
  | 0, _, _, _, _ => False
  | f + 1, c, env, m, Q => match c with
    | .skip => Q .normal env m
    | .label _ => Q .normal env m
    | .ret => Q .ret env m
    | .exit id => Q (.exit id) env m
    | .goto l => Q (.goto l) env m
    | .region _ ops draw => aRegion P L ops draw (Q .normal) Kp env m
    | .seq a b => aev P L lp Kp f a env m fun e env' m' => match e with
      | .normal => aev P L lp Kp f b env' m' Q
      | e => Q e env' m'
    | .cond c x y => match evA ⟨env, []⟩ [] c with
      | .s (.b t) => match t with
        | true => aev P L lp Kp f x env m Q
        | false => aev P L lp Kp f y env m Q
      | _ => False
    | .block id b => aev P L lp Kp f b env m fun e env' m' => match e with
      | .exit id' => match Nat.beq id' id with
        | true => Q .normal env' m'
        | false => Q (.exit id') env' m'
      | e => Q e env' m'
    | .loop b => match lp with
      | some S => S Kp b env m Q
      | none => aev P L lp Kp f b env m fun e env' m' => match e with
        | .normal => aev P L lp Kp f (.loop b) env' m' Q
        | e => Q e env' m'
    | .scope b => scopeK (aev P L lp Kp f) b f b env m Q
    | _ => False

/-- The model's ends of a piece of code. -/
def Res (C : Ctx) (ρ : List Ghost) (w : World) (fp : Nat → Prop) (D : List Deferred) (Q : AExit → List AV → List (Blk C.X) → Prop) (Kp : AV → List (Blk C.X) → Prop) (e : Exit) (a' : Act) (w' : World) : Prop :=
  let at_ (x : AExit) : Prop := ∃ env' m' ρ' fp', Q x env' m' ∧ VsRel ρ' env' a'.tmps.toList ∧ a'.defers = D ∧ HRel C ρ' m' w' fp' ∧ St ρ w fp ρ' w' fp'
  match e with
  | .normal => at_ .normal
  | .exit id => at_ (.exit id)
  | .goto l => at_ (.goto l)
  | .ret => at_ .ret
  | .panic ch => a'.defers = D ∧ ∃ x, ch = [{ v := x, recovered := false }] ∧ Behind C ρ w fp Kp x w'
  | .outgrown => False

def At (C : Ctx) (ρ : List Ghost) (w : World) (fp : Nat → Prop) (D : List Deferred) (Q : AExit → List AV → List (Blk C.X) → Prop) (x : AExit) (a' : Act) (w' : World) : Prop :=
  ∃ env' m' ρ' fp', Q x env' m' ∧ VsRel ρ' env' a'.tmps.toList ∧ a'.defers = D ∧ HRel C ρ' m' w' fp' ∧ St ρ w fp ρ' w' fp'

def LoopAt (P : Program) (c : Code) (Q : Exit → Act → World → Prop) (a : Act) (w : World) : Prop :=
  ∀ (b : Frame) (k : List Item) (cs : List Frame), ∃ e a' w', Q e a' w' ∧ Arrives P (lone (b.at a (.code c :: .inLoop c :: k)) cs w) b k cs e a' w'
theorem wp_of_loopAt {P : Program} {c : Code} {Q : Exit → Act → World → Prop} {a : Act} {w : World} (h : LoopAt P c Q a w) : (Code.loop c).wp P Q a w :=
  fun b k cs => let ⟨e, a', w', q, r⟩ := h b k cs; ⟨e, a', w', q, .of_steps (.one step_loop) r⟩
theorem loopAt_of {P : Program} {c : Code} {Q : Exit → Act → World → Prop} {a : Act} {w : World} (h : c.wp P (Exit.then (LoopAt P c Q) Q) a w) : LoopAt P c Q a w := by
  intro b k cs
  obtain ⟨e, a₁, w₁, hq, harr⟩ := h b (.inLoop c :: k) cs
  cases e with
  | normal =>
    obtain ⟨e₂, a₂, w₂, hq₂, harr₂⟩ := hq b k cs
    exact ⟨e₂, a₂, w₂, hq₂, .of_steps (Steps.trans harr (.one step_inLoop)) harr₂⟩
  | exit id => exact ⟨_, a₁, w₁, hq, .pass (x := .inLoop c) rfl (fun _ _ => .inl (by simp)) harr⟩
  | goto l => exact ⟨_, a₁, w₁, hq, .pass (x := .inLoop c) rfl (fun _ _ => .inl (by simp)) harr⟩
  | ret => exact ⟨_, a₁, w₁, hq, .pass (x := .inLoop c) rfl (fun _ _ => .inl (by simp)) harr⟩
  | panic ch => exact ⟨_, a₁, w₁, hq, .pass (x := .inLoop c) rfl (fun _ _ => .inl (by simp)) harr⟩
  | outgrown => exact ⟨_, a₁, w₁, hq, .pass (x := .inLoop c) rfl (fun _ _ => .inl (by simp)) harr⟩
def LoopsSound (C : Ctx) (lp : Option (LoopSpec C.X)) : Prop := ∀ S, lp = some S → ∀ Kp D c env m Q ρ fp a w, S Kp c env m Q → VsRel ρ env a.tmps.toList → a.defers = D → HRel C ρ m w fp → LoopAt C.P c (Res C ρ w fp D Q Kp) a w
theorem noLoops (C : Ctx) : LoopsSound C none := fun _ h => by simp at h
def ScopeAt (P : Program) (body r : Code) (Q : Exit → Act → World → Prop) (a : Act) (w : World) : Prop :=
  ∀ (b : Frame) (k : List Item) (cs : List Frame), ∃ e a' w', Q e a' w' ∧ Arrives P (lone (b.at a (.code r :: .inScope body :: k)) cs w) b k cs e a' w'
theorem wp_of_scopeAt {P : Program} {c : Code} {Q : Exit → Act → World → Prop} {a : Act} {w : World} (h : ScopeAt P c c Q a w) : (Code.scope c).wp P Q a w :=
  fun b k cs => let ⟨e, a', w', q, r⟩ := h b k cs; ⟨e, a', w', q, .of_steps (.one step_scope) r⟩
def ScopeQ (P : Program) (body : Code) (Q : Exit → Act → World → Prop) : Exit → Act → World → Prop
  | .goto l, a, w => match findLabel body l with
    | some r => ScopeAt P body r Q a w
    | none => Q (.goto l) a w
  | e, a, w => Q e a w
theorem scopeAt_of {P : Program} {body r : Code} {Q : Exit → Act → World → Prop} {a : Act} {w : World} (h : r.wp P (ScopeQ P body Q) a w) : ScopeAt P body r Q a w := by
  intro b k cs
  obtain ⟨e, a₁, w₁, hq, harr⟩ := h b (.inScope body :: k) cs
  cases e with
  | normal => exact ⟨.normal, a₁, w₁, hq, Steps.trans harr (.one step_inScope)⟩
  | exit id => exact ⟨.exit id, a₁, w₁, hq, fun k' hk => harr k' (by simp [exitTo, hk])⟩
  | goto l =>
    simp only [ScopeQ] at hq
    split at hq
    · rename_i r' hr
      obtain ⟨e₂, a₂, w₂, hq₂, harr₂⟩ := hq b k cs
      exact ⟨e₂, a₂, w₂, hq₂, .of_steps (harr _ (by simp [gotoIn, hr])) harr₂⟩
    · rename_i hr
      exact ⟨.goto l, a₁, w₁, hq, fun k' hk => harr k' (by simp [gotoIn, hr, hk])⟩
  | ret => exact ⟨_, a₁, w₁, hq, harr⟩
  | panic ch => exact ⟨_, a₁, w₁, hq, harr⟩
  | outgrown => exact ⟨_, a₁, w₁, hq, harr⟩

theorem Res.mono {ρ₀ ρ : List Ghost} {w₀ w : World} {fp₀ fp : Nat → Prop} {D : List Deferred} {Q Q' : AExit → List AV → List (Blk C.X) → Prop} {Kp : AV → List (Blk C.X) → Prop} {e : Exit} {a' : Act} {w' : World}
    (hst : St ρ₀ w₀ fp₀ ρ w fp) (hq : ∀ x env m, Q x env m → Q' x env m) (h : Res C ρ w fp D Q Kp e a' w') : Res C ρ₀ w₀ fp₀ D Q' Kp e a' w' := by
  cases e with
  | panic ch => obtain ⟨hd, x, hx, v, m', ρ', fp', hk, hs, hv, hh⟩ := h; exact ⟨hd, x, hx, v, m', ρ', fp', hk, hst.trans hs, hv, hh⟩
  | outgrown => exact h
  | normal => obtain ⟨env', m', ρ', fp', hk, hv, hd, hh, hs⟩ := h; exact ⟨env', m', ρ', fp', hq _ _ _ hk, hv, hd, hh, hst.trans hs⟩
  | ret => obtain ⟨env', m', ρ', fp', hk, hv, hd, hh, hs⟩ := h; exact ⟨env', m', ρ', fp', hq _ _ _ hk, hv, hd, hh, hst.trans hs⟩
  | exit id => obtain ⟨env', m', ρ', fp', hk, hv, hd, hh, hs⟩ := h; exact ⟨env', m', ρ', fp', hq _ _ _ hk, hv, hd, hh, hst.trans hs⟩
  | goto l => obtain ⟨env', m', ρ', fp', hk, hv, hd, hh, hs⟩ := h; exact ⟨env', m', ρ', fp', hq _ _ _ hk, hv, hd, hh, hst.trans hs⟩

theorem vsRel_srel {ρ : List Ghost} {env : List AV} {a : Act} (h : VsRel ρ env a.tmps.toList) : SRel ρ ⟨env, []⟩ a.tmps none' :=
  ⟨by simpa using h.1, fun k x v _ hx hv => h.2 k x v hx (by simpa using hv), fun e he => by simp at he⟩

theorem aRegion_sound {L : Lib C.X} (hL : LibSound C L) (hmix : C.P.follows .mixedOrders = true) {id : Nat} {ops : Array Oper} {draw : Bool} {Q : AExit → List AV → List (Blk C.X) → Prop} {Kp : AV → List (Blk C.X) → Prop} {env : List AV} {m : List (Blk C.X)}
    {ρ : List Ghost} {fp : Nat → Prop} {D : List Deferred} {a : Act} {w : World} (h : aRegion C.P L ops draw (Q .normal) Kp env m) (hv : VsRel ρ env a.tmps.toList) (hd : a.defers = D) (hH : HRel C ρ m w fp) :
    (Code.region id ops draw).wp C.P (Res C ρ w fp D Q Kp) a w := by
  unfold aRegion at h
  split at h
  · refine wp_region ?_
    have := aLex_sound (C := C) hL (ops := ops) (Q := Q .normal) (Kp := Kp) (Q' := Res C ρ w fp D Q Kp) (ρ₀ := ρ) (w₀ := w) (fp₀ := fp) (D := D)
      (fun s m' ρ' fp' a' w' hq hs hd' hh hst => ⟨s.env, m', ρ', fp', hq, hs.vs, hd', hh, hst⟩) (fun a' x w' hd' hb => ⟨hd', x, rfl, hb⟩)
      ops.toList 0 ⟨env, []⟩ m ρ fp a w (fun j => by simp) h (vsRel_srel hv) hd hH (.refl _ _ _)
    simpa using this
  · split at h
    · rename_i hc
      have hp := planOk_of hc
      refine wp_region_any hmix ?_
      have hst : St ρ w fp ρ w.drew fp := ⟨.refl _, Fr.drew _ _, fun _ hb => .inl hb⟩
      refine draw_all (C := C) (plan := planOf ops (masks ops.toList [])) (Q := Q .normal) (Kp := Kp) (ρ₀ := ρ) (w₀ := w) (fp₀ := fp) (D := D) hL hp
        (fun s m' ρ' fp' a' w' hq hs hd' hh hst => ⟨s.env, m', ρ', fp', hq, hs.vs, hd', hh, hst⟩) (fun a' x w' hd' hb => ⟨hd', x, rfl, hb⟩)
        ops.size _ [] _ [] ⟨env, []⟩ m ρ fp a w.drew ?_ h hH.drew hst hd (by unfold unl; exact Nat.le_trans (List.length_filter_le _ _) (by simp))
      have hno : ∀ i : Nat, (Array.replicate ops.size false)[i]? ≠ some true := by
        intro i; simp [Array.getElem?_replicate]
      exact ⟨by simp, by simp, fun i hi => absurd hi (hno i), fun i hi => by simp at hi, fun i o e hi => absurd hi (hno i), (vsRel_srel hv).weaken (fun _ h => h.elim), fun i b o hi => by simp at hi, fun i b o hi => by simp at hi, fun e he => by simp at he, fun e he => by simp at he, fun e he => by simp at he, fun i b o hi => by simp at hi⟩
    · exact h.elim

theorem aev_sound {L : Lib C.X} (hL : LibSound C L) {lp : Option (LoopSpec C.X)} (hlp : LoopsSound C lp) (hmix : C.P.follows .mixedOrders = true) {Kp : AV → List (Blk C.X) → Prop} {D : List Deferred} : ∀ (f : Nat) (c : Code) (env : List AV) (m : List (Blk C.X)) (Q : AExit → List AV → List (Blk C.X) → Prop)
    (ρ : List Ghost) (fp : Nat → Prop) (a : Act) (w : World), aev C.P L lp Kp f c env m Q → VsRel ρ env a.tmps.toList → a.defers = D → HRel C ρ m w fp →
    c.wp C.P (Res C ρ w fp D Q Kp) a w ∧ ∀ b, c = .loop b → LoopAt C.P b (Res C ρ w fp D Q Kp) a w := by
  intro f
  induction f with
  | zero => intro c env m Q ρ fp a w h; exact h.elim
  | succ f ih =>
    intro c env m Q ρ fp a w h hv hd hH
    have nl : ∀ {P : Prop}, (∀ b, c ≠ .loop b) → P → P ∧ ∀ b, c = .loop b → LoopAt C.P b (Res C ρ w fp D Q Kp) a w := fun hn hp => ⟨hp, fun b hb => absurd hb (hn b)⟩
    cases c with
    | skip => exact nl (by simp) (wp_skip ⟨env, m, ρ, fp, h, hv, hd, hH, .refl _ _ _⟩)
    | label l => exact nl (by simp) (wp_label ⟨env, m, ρ, fp, h, hv, hd, hH, .refl _ _ _⟩)
    | ret => exact nl (by simp) (wp_ret ⟨env, m, ρ, fp, h, hv, hd, hH, .refl _ _ _⟩)
    | exit id => exact nl (by simp) (wp_exit ⟨env, m, ρ, fp, h, hv, hd, hH, .refl _ _ _⟩)
    | goto l => exact nl (by simp) (wp_goto ⟨env, m, ρ, fp, h, hv, hd, hH, .refl _ _ _⟩)
    | region id ops draw => exact nl (by simp) (aRegion_sound hL hmix h hv hd hH)
    | rangeFunc _ _ _ _ => exact h.elim
    | refuse _ => exact h.elim
    | seq x y =>
      refine nl (by simp) (wp_seq (wp_mono (ih x env m _ ρ fp a w h hv hd hH).1 (fun e a' w' hr => ?_)))
      cases e with
      | normal =>
        obtain ⟨env', m', ρ', fp', hk, hv', hd', hh, hs⟩ := hr
        exact wp_mono (ih y env' m' Q ρ' fp' a' w' hk hv' hd' hh).1 (fun e a w hr => hr.mono hs (fun _ _ _ h => h))
      | ret => exact hr
      | exit id => exact hr
      | goto l => exact hr
      | panic ch => exact hr
      | outgrown => exact hr
    | cond c x y =>
      refine nl (by simp) ?_
      simp only [aev] at h
      split at h
      · rename_i t ht
        have hc := evA_rel (vsRel_srel hv) (AOk.nil _) c (fun _ _ h => h)
        rw [ht] at hc
        have hcv : a.eval c = .bool t := hc.s_inv
        refine wp_cond_split hcv (fun e => ?_) (fun e => ?_)
        · subst e; exact (ih x env m Q ρ fp a w h hv hd hH).1
        · subst e; exact (ih y env m Q ρ fp a w h hv hd hH).1
      · exact h.elim
    | block id b =>
      refine nl (by simp) (wp_block (wp_mono (ih b env m _ ρ fp a w h hv hd hH).1 (fun e a' w' hr => ?_)))
      cases e with
      | exit id' =>
        obtain ⟨env', m', ρ', fp', hk, hv', hd', hh, hs⟩ := hr
        simp only at hk
        simp only [Exit.inBlock]
        split at hk
        · rename_i he
          rw [if_pos (Nat.eq_of_beq_eq_true he)]
          exact ⟨env', m', ρ', fp', hk, hv', hd', hh, hs⟩
        · rename_i he
          rw [if_neg (fun hc => by subst hc; simp [Nat.beq_refl] at he)]
          exact ⟨env', m', ρ', fp', hk, hv', hd', hh, hs⟩
      | normal => exact hr
      | ret => exact hr
      | goto l => exact hr
      | panic ch => exact hr
      | outgrown => exact hr
    | loop b =>
      have hl : LoopAt C.P b (Res C ρ w fp D Q Kp) a w := by
        simp only [aev] at h
        cases hlp' : lp with
        | some S =>
          rw [hlp'] at h
          exact hlp S hlp' Kp D b env m Q ρ fp a w h hv hd hH
        | none =>
        rw [hlp'] at h ih
        simp only at h
        refine loopAt_of (wp_mono (ih b env m _ ρ fp a w h hv hd hH).1 (fun e a' w' hr => ?_))
        cases e with
        | normal =>
          obtain ⟨env', m', ρ', fp', hk, hv', hd', hh, hs⟩ := hr
          have := (ih (.loop b) env' m' Q ρ' fp' a' w' hk hv' hd' hh).2 b rfl
          exact fun bb k cs => let ⟨e, a'', w'', q, r⟩ := this bb k cs; ⟨e, a'', w'', q.mono hs (fun _ _ _ h => h), r⟩
        | ret => exact hr
        | exit id => exact hr
        | goto l => exact hr
        | panic ch => exact hr
        | outgrown => exact hr
      exact ⟨wp_of_loopAt hl, fun b' hb => by cases hb; exact hl⟩
    | scope b =>
      refine nl (by simp) (wp_of_scopeAt ?_)
      have key : ∀ (n : Nat) (r : Code) (env : List AV) (m : List (Blk C.X)) (ρ' : List Ghost) (fp' : Nat → Prop) (a : Act) (w' : World), scopeK (aev C.P L lp Kp f) b n r env m Q → VsRel ρ' env a.tmps.toList → a.defers = D → HRel C ρ' m w' fp' → St ρ w fp ρ' w' fp' →
          ScopeAt C.P b r (Res C ρ w fp D Q Kp) a w' := by
        intro n
        induction n with
        | zero => intro r env m ρ' fp' a w' h; exact h.elim
        | succ n ihn =>
          intro r env m ρ' fp' a w' h hv hd hH hst
          refine scopeAt_of (wp_mono (ih r env m _ ρ' fp' a w' h hv hd hH).1 (fun e a' w'' hr => ?_))
          cases e with
          | goto l =>
            obtain ⟨env', m', ρ'', fp'', hk, hv', hd', hh, hs⟩ := hr
            simp only at hk
            simp only [ScopeQ]
            split at hk
            · rename_i r' hr'
              exact ihn r' env' m' ρ'' fp'' a' w'' hk hv' hd' hh (hst.trans hs)
            · rename_i hr'
              exact ⟨env', m', ρ'', fp'', hk, hv', hd', hh, hst.trans hs⟩
          | normal => obtain ⟨env', m', ρ'', fp'', hk, hv', hd', hh, hs⟩ := hr; exact ⟨env', m', ρ'', fp'', hk, hv', hd', hh, hst.trans hs⟩
          | ret => obtain ⟨env', m', ρ'', fp'', hk, hv', hd', hh, hs⟩ := hr; exact ⟨env', m', ρ'', fp'', hk, hv', hd', hh, hst.trans hs⟩
          | exit id => obtain ⟨env', m', ρ'', fp'', hk, hv', hd', hh, hs⟩ := hr; exact ⟨env', m', ρ'', fp'', hk, hv', hd', hh, hst.trans hs⟩
          | panic ch => obtain ⟨hd, x, hx, v, m', ρ', fp', hk, hs, hv, hh⟩ := hr; exact ⟨hd, x, hx, v, m', ρ', fp', hk, hst.trans hs, hv, hh⟩
          | outgrown => exact hr
      exact key f b env m ρ fp a w h hv hd hH (.refl _ _ _)

/-! ### what isn't wanted any more is forgotten -/
mutual
def scopedV (n : Nat) : AV → Bool
  | .ptr i _ => Nat.ble (i + 1) n
  | .sl i _ _ _ _ => Nat.ble (i + 1) n
  | .mp i => Nat.ble (i + 1) n
  | .opq i => Nat.ble (i + 1) n
  | .fn _ cs => scopedVs n cs
  | .ifc _ v => scopedV n v
  | .agg cs => scopedVs n cs
  | .tup cs => scopedVs n cs
  | _ => true
def scopedVs (n : Nat) : List AV → Bool
  | [] => true
  | x :: r => match scopedV n x with
    | true => scopedVs n r
    | false => false
end
def scopedB {X : Type} (sc : Nat → X → Bool) (n : Nat) : Blk X → Bool
  | .row c => scopedVs n c
  | .rrow c => scopedVs n c
  | .ext x => sc n x
  | _ => true
def scopedM {X : Type} (sc : Nat → X → Bool) (n : Nat) : List (Blk X) → Bool
  | [] => true
  | b :: r => match scopedB sc n b with
    | true => scopedM sc n r
    | false => false
def takeL {α : Type} : Nat → List α → List α
  | 0, _ => []
  | _ + 1, [] => []
  | n + 1, x :: r => x :: takeL n r
theorem takeL_eq {α : Type} : ∀ (n : Nat) (l : List α), takeL n l = l.take n
  | 0, _ => by simp [takeL]
  | n + 1, [] => by simp [takeL]
  | n + 1, x :: r => by simp [takeL, takeL_eq n r]
def trimK {X : Type} (sc : Nat → X → Bool) (n : Nat) (K : AV → List (Blk X) → Prop) (v : AV) (m : List (Blk X)) : Prop :=
  match Nat.ble m.length n with
  | true => K v m
  | false => match scopedV n v, scopedM sc n (takeL n m) with
    | true, true => K v (takeL n m)
    | _, _ => False

theorem scopedVs_all {n : Nat} : ∀ {cs : List AV}, scopedVs n cs = true → ∀ x ∈ cs, scopedV n x = true
  | [], _, x, h => by simp at h
  | y :: r, h, x, hx => by
    simp only [scopedVs] at h
    split at h
    · rename_i h1
      rcases List.mem_cons.1 hx with rfl | hx
      · exact h1
      · exact scopedVs_all h x hx
    · simp at h
theorem take_get {ρ : List Ghost} {n i : Nat} {g : Ghost} (h : ρ[i]? = some g) (hi : Nat.ble (i + 1) n = true) : (ρ.take n)[i]? = some g := by
  rw [List.getElem?_take, if_pos (show i < n from Nat.le_of_ble_eq_true hi)]; exact h
theorem VRel.take {ρ : List Ghost} {n : Nat} {x : AV} {v : Value} (h : VRel ρ x v) (hs : scopedV n x = true) : VRel (ρ.take n) x v := by
  induction h with
  | s x => exact .s x
  | ptr h => exact .ptr (take_get h (by simpa [scopedV] using hs))
  | nilp => exact .nilp
  | sl h hl hc hn => exact .sl (take_get h (by simpa [scopedV] using hs)) hl hc hn
  | sl0 hc => exact .sl0 hc
  | mp h => exact .mp (take_get h (by simpa [scopedV] using hs))
  | nilm => exact .nilm
  | fn hl h ih => exact .fn hl (fun k x v hx hv => ih k x v hx hv (scopedVs_all (by simpa [scopedV] using hs) x (List.mem_of_getElem? hx)))
  | nilf => exact .nilf
  | ifc h ih => exact .ifc (ih (by simpa [scopedV] using hs))
  | nilif => exact .nilif
  | agg hl h ih => exact .agg hl (fun k x v hx hv => ih k x v hx hv (scopedVs_all (by simpa [scopedV] using hs) x (List.mem_of_getElem? hx)))
  | tup hl h ih => exact .tup hl (fun k x v hx hv => ih k x v hx hv (scopedVs_all (by simpa [scopedV] using hs) x (List.mem_of_getElem? hx)))
  | opq h => exact .opq (take_get h (by simpa [scopedV] using hs))
  | any v => exact .any v
  | kb b => exact .kb b
theorem BRel.take {ρ : List Ghost} {n : Nat} {g : Ghost} {w : World} {blk : Blk C.X} {W R : Nat → Prop} (h : BRel C ρ g w blk W R) (hs : scopedB C.scp n blk = true) : BRel C (ρ.take n) g w blk W R := by
  cases blk with
  | row c =>
    obtain ⟨⟨vs, hv, hr⟩, hr'⟩ := h
    exact ⟨⟨vs, ⟨hv.1, fun k x v hx hv' => (hv.2 k x v hx hv').take (scopedVs_all hs x (List.mem_of_getElem? hx))⟩, hr⟩, hr'⟩
  | ext x => exact C.take h hs
  | dead => exact h
  | flat c => exact h
  | vec c => exact h
  | ro c => exact h
  | rrow c =>
    obtain ⟨⟨vs, hv, hr⟩, hr'⟩ := h
    exact ⟨⟨vs, ⟨hv.1, fun k x v hx hv' => (hv.2 k x v hx hv').take (scopedVs_all hs x (List.mem_of_getElem? hx))⟩, hr⟩, hr'⟩
theorem scopedM_all {X : Type} {sc : Nat → X → Bool} {n : Nat} : ∀ {m : List (Blk X)}, scopedM sc n m = true → ∀ b ∈ m, scopedB sc n b = true
  | [], _, x, h => by simp at h
  | y :: r, h, x, hx => by
    simp only [scopedM] at h
    split at h
    · rename_i h1
      rcases List.mem_cons.1 hx with rfl | hx
      · exact h1
      · exact scopedM_all h x hx
    · simp at h
theorem HRel.take {ρ : List Ghost} {m : List (Blk C.X)} {w : World} {fp : Nat → Prop} (h : HRel C ρ m w fp) {n : Nat} (hs : scopedM C.scp n (m.take n) = true) : HRel C (ρ.take n) (m.take n) w fp := by
  obtain ⟨W, R, hsep, hf⟩ := h
  refine ⟨fun i b => i < n ∧ W i b, fun i b => i < n ∧ R i b, ⟨by simp [hsep.len], fun i blk g hi hg => ?_, fun i b hi => ?_, fun i j b h1 h2 => hsep.ww i j b h1.2 h2.2, fun i j b h1 h2 => hsep.wr i j b h1.2 h2.2, fun i b hb => hsep.lt i b (hb.imp (·.2) (·.2)), fun i b hb => hsep.ge i b hb.2, hsep.inv, hsep.nGle⟩, fun i b hb => hf i b hb.2⟩
  · have hin : i < n := by have := (List.getElem?_eq_some_iff.1 hi).1; simp at this; omega
    have hmem := List.mem_of_getElem? hi
    rw [List.getElem?_take, if_pos hin] at hi hg
    have e1 : (fun b => i < n ∧ W i b) = W i := by funext b; simp [hin]
    have e2 : (fun b => i < n ∧ R i b) = R i := by funext b; simp [hin]
    rw [e1, e2]
    exact (hsep.blk i blk g hi hg).take (scopedM_all hs blk hmem)
  · by_cases hin : i < n
    · have := hsep.out i b (by simp at hi; omega)
      exact ⟨fun h => this.1 h.2, fun h => this.2 h.2⟩
    · exact ⟨fun h => hin h.1, fun h => hin h.1⟩
theorem trimK_behind {ρ : List Ghost} {w : World} {fp : Nat → Prop} {n : Nat} (hn : ρ.length ≤ n) {K : AV → List (Blk C.X) → Prop} {x : Value} {w' : World} (h : Behind C ρ w fp (trimK C.scp n K) x w') : Behind C ρ w fp K x w' := by
  obtain ⟨v, m', ρ', fp', hk, hs, hv, hh⟩ := h
  unfold trimK at hk
  split at hk
  · exact ⟨v, m', ρ', fp', hk, hs, hv, hh⟩
  · split at hk
    · rename_i h1 h2
      rw [takeL_eq] at hk h2
      refine ⟨v, m'.take n, ρ'.take n, fp', hk, ⟨?_, hs.fr, hs.sub⟩, hv.take h1, hh.take h2⟩
      obtain ⟨e, rfl⟩ := hs.pfx
      exact ⟨e.take (n - ρ.length), by rw [List.take_append, List.take_of_length_le hn]⟩
    · exact hk.elim

/-! ### functions -/
def aRes {X : Type} (P : Program) (env : List AV) (m : List (Blk X)) : List ResultVar → Option (List AV)
  | [] => some []
  | .tmp t :: r => match aRes P env m r with
    | some l => some (evA ⟨env, []⟩ [] (.tmp t) :: l)
    | none => none
  | .cell a t :: r => match evA ⟨env, []⟩ [] (.tmp a) with
    | .ptr i off => match nth m i with
      | some blk => match loadBlk P t blk off, aRes P env m r with
        | some v, some l => some (v :: l)
        | _, _ => none
      | none => none
    | _ => none
def aRet {X : Type} (P : Program) (fn : Func) (env : List AV) (m : List (Blk X)) : Option AV :=
  match aRes P env m fn.results.toList with
  | some [v] => some v
  | some l => some (.tup l)
  | none => none
def padE (n : Nat) (args : List AV) : List AV := args ++ List.replicate n (.tup [])
/-- A function, evaluated: 'keep' new blocks are kept. -/
def aFun {X : Type} (P : Program) (L : Lib X) (lp : Option (LoopSpec X)) (sc : Nat → X → Bool) (fn : Func) (fuel keep : Nat) : FSpec X := fun args m K Kp =>
  match fn.body with
  | some c => aev P L lp (trimK sc (m.length + keep) Kp) fuel c (padE (fn.ntmps - args.length) args) m fun e env' m' => match e with
    | .normal => match aRet P fn env' m' with
      | some v => trimK sc (m.length + keep) K v m'
      | none => False
    | .ret => match aRet P fn env' m' with
      | some v => trimK sc (m.length + keep) K v m'
      | none => False
    | _ => False
  | none => False

theorem aRes_sound {P : Program} {ρ : List Ghost} {m : List (Blk C.X)} {w : World} {fp : Nat → Prop} (hH : HRel C ρ m w fp) {env : List AV} {a : Act} (hv : VsRel ρ env a.tmps.toList) : ∀ (rs : List ResultVar) (l : List AV), aRes P env m rs = some l →
    ∃ vs, (rs.mapM fun | .tmp t => pure (a.tmps.getD t undef) | .cell b t => do loadVar t (← asAddr (a.tmps.getD b undef)) : Sem (List Value)).run P w = .ok vs w ∧ VsRel ρ l vs
  | [], l, h => by simp [aRes] at h; subst h; exact ⟨[], by simp, VsRel.nil ρ⟩
  | .tmp t :: r, l, h => by
    simp only [aRes] at h
    split at h
    · rename_i l' hl
      cases h
      obtain ⟨vs, h1, h2⟩ := aRes_sound hH hv r l' hl
      have hx := evA_rel (vsRel_srel hv) (AOk.nil _) (.tmp t) (fun _ _ h => h)
      exact ⟨_ :: vs, by simp only [List.mapM_cons, Sem.run_bind, Sem.run_pure, Result.andThen_ok, h1]; rfl, VsRel.cons hx h2⟩
    · simp at h
  | .cell b t :: r, l, h => by
    simp only [aRes] at h
    split at h
    · rename_i i off hb
      split at h
      · rename_i blk hblk
        split at h
        · rename_i v l' hl hl'
          cases h
          obtain ⟨vs, h1, h2⟩ := aRes_sound hH hv r l' hl'
          have hx := evA_rel (vsRel_srel hv) (AOk.nil _) (.tmp b) (fun _ _ h => h)
          rw [hb] at hx
          have hx' : VRel ρ (.ptr i off) (a.tmps.getD b undef) := hx
          generalize hra : a.tmps.getD b undef = va at hx'
          cases hx' with
          | @ptr _ _ g hg =>
            obtain ⟨W, R, hB⟩ := hH.at hblk hg
            obtain ⟨u, g1, g2⟩ := loadBlk_sound hB hl
            have hasA : (asAddr (a.tmps.getD b undef)).run P w = .ok ⟨g.b, g.o + off, none⟩ w := by rw [hra]; rfl
            exact ⟨u :: vs, by simp only [List.mapM_cons, Sem.run_bind, hasA, Result.andThen_ok, g1, h1, Sem.run_pure], VsRel.cons g2 h2⟩
        · simp at h
      · simp at h
    · simp at h
theorem aRet_sound {P : Program} {ρ : List Ghost} {m : List (Blk C.X)} {w : World} {fp : Nat → Prop} (hH : HRel C ρ m w fp) {env : List AV} {a : Act} (hv : VsRel ρ env a.tmps.toList) {fn : Func} {v : AV} (h : aRet P fn env m = some v) :
    ∃ x, (results fn a.tmps).run P w = .ok x w ∧ VRel ρ v x := by
  unfold aRet at h
  have run : ∀ {l vs}, aRes P env m fn.results.toList = some l → VsRel ρ l vs → (fn.results.toList.mapM fun | .tmp t => pure (a.tmps.getD t undef) | .cell b t => do loadVar t (← asAddr (a.tmps.getD b undef)) : Sem (List Value)).run P w = .ok vs w →
      (results fn a.tmps).run P w = .ok (if h : vs.toArray.size = 1 then vs.toArray[0] else .tuple vs.toArray) w := by
    intro l vs _ _ hr
    unfold results
    rw [Array.mapM_eq_mapM_toList]
    simp only [Sem.run_bind, map_eq_pure_bind, Sem.run_pure]
    erw [hr]
    rfl
  split at h
  · rename_i v' hl
    cases h
    obtain ⟨vs, h1, h2⟩ := aRes_sound hH hv _ _ hl
    match vs, h2 with
    | [u], h2 => exact ⟨u, by rw [run hl h2 h1]; simp, h2.2 0 _ _ rfl rfl⟩
    | [], h2 => have := h2.1; simp at this
    | _ :: _ :: _, h2 => have := h2.1; simp at this
  · rename_i l hne hl
    cases h
    obtain ⟨vs, h1, h2⟩ := aRes_sound hH hv _ _ hl
    have hvs : ¬ vs.toArray.size = 1 := by
      intro hc
      have hl1 : l.length = 1 := by rw [h2.1]; simpa using hc
      match l, hl1, hne with
      | [y], _, hne => exact hne y rfl
    exact ⟨.tuple vs.toArray, by rw [run hl h2 h1, dif_neg hvs], .tup' (by simpa using h2)⟩
  · simp at h

theorem aFun_sound {L : Lib C.X} (hL : LibSound C L) {lp : Option (LoopSpec C.X)} (hlp : LoopsSound C lp) (hmix : C.P.follows .mixedOrders = true) {f : FuncId} {fn : Func} (hf : C.P.funcs[f]? = some fn) (hcall : ∀ as w, (callFunc f as).run C.P w = .ok (.enter f as) w) (fuel keep : Nat) :
    FSound C f (aFun C.P L lp C.scp fn fuel keep) := by
  intro args m K Kp h
  refine ⟨hcall, fun ρ w fp vs hv hH => ?_⟩
  unfold aFun at h
  split at h
  · rename_i c hb
    have hlen : ρ.length ≤ m.length + keep := by
      obtain ⟨W, R, hs, _⟩ := hH
      rw [hs.len]; omega
    refine calls_of_wp hf hb ?_
    have henv : VsRel ρ (padE (fn.ntmps - args.length) args) (vs.toArray ++ Array.replicate (fn.ntmps - vs.toArray.size) undef).toList := by
      have hl : vs.toArray.size = args.length := by simpa using hv.1.symm
      rw [hl]
      simp only [padE, Array.toList_append, Array.toList_replicate]
      refine hv.append ⟨by simp, fun k x v hx hv' => ?_⟩
      have h1 : x = .tup [] := by
        have := List.mem_of_getElem? hx
        exact (List.mem_replicate.1 this).2
      have h2 : v = undef := by
        have := List.mem_of_getElem? hv'
        exact (List.mem_replicate.1 this).2
      subst h1; subst h2
      exact .tup' (VsRel.nil ρ)
    refine wp_mono (aev_sound hL hlp hmix fuel c _ m _ ρ fp _ w h henv (D := []) rfl hH).1 (fun e a' w' hr => ?_)
    have ok : ∀ env' m' ρ' fp', (match aRet C.P fn env' m' with | some v => trimK C.scp (m.length + keep) K v m' | none => False) → VsRel ρ' env' a'.tmps.toList → a'.defers = [] → HRel C ρ' m' w' fp' → St ρ w fp ρ' w' fp' →
        a'.defers = [] ∧ ∃ v, (results fn a'.tmps).run C.P w' = .ok v w' ∧ CallPost C ρ w fp K Kp (.returned v) w' := by
      intro env' m' ρ' fp' hk hv' hd' hh hs
      split at hk
      · rename_i v hret
        obtain ⟨x, h1, h2⟩ := aRet_sound hh hv' hret
        exact ⟨hd', x, h1, trimK_behind hlen ⟨v, m', ρ', fp', hk, hs, h2, hh⟩⟩
      · exact hk.elim
    cases e with
    | normal => obtain ⟨env', m', ρ', fp', hk, hv', hd', hh, hs⟩ := hr; exact ok env' m' ρ' fp' hk hv' hd' hh hs
    | ret => obtain ⟨env', m', ρ', fp', hk, hv', hd', hh, hs⟩ := hr; exact ok env' m' ρ' fp' hk hv' hd' hh hs
    | exit id => obtain ⟨env', m', ρ', fp', hk, _⟩ := hr; exact hk.elim
    | goto l => obtain ⟨env', m', ρ', fp', hk, _⟩ := hr; exact hk.elim
    | panic ch =>
      obtain ⟨hd', x, rfl, hb⟩ := hr
      refine ⟨hd', ?_⟩
      obtain ⟨v, m', ρ', fp', hk, hs, hv', hh⟩ := trimK_behind hlen hb
      exact ⟨v, m', ρ', fp', x, rfl, hk, hs, hv', hh⟩
    | outgrown => exact hr.elim
  · exact h.elim
end Go.AEv
