/-
  Loops by an invariant; functions that turn one block, and read others.
-/
import Derived.Test.YtjofkjbpiaihbaaDoorAEvS
namespace Go.AEv
open Go
variable {C : Ctx}

/-- Slots of which nothing is remembered. -/
def dropS : List Nat → List AV → List AV
  | [], e => e
  | k :: r, e => dropS r (setAt e k .any)
theorem VsRel.setAny {ρ : List Ghost} {e : List AV} {vs : List Value} (h : VsRel ρ e vs) (k : Nat) : VsRel ρ (setAt e k .any) vs := by
  refine ⟨by rw [setAt_eq]; simpa using h.1, fun j x v hx hv => ?_⟩
  rw [setAt_eq] at hx
  by_cases hj : k = j
  · subst hj
    have hl : k < e.length := by have := (List.getElem?_eq_some_iff.1 hx).1; simpa using this
    rw [List.getElem?_set_self hl] at hx
    cases hx; exact .any v
  · rw [List.getElem?_set_ne hj] at hx
    exact h.2 j x v hx hv
theorem VsRel.drop {ρ : List Ghost} : ∀ (l : List Nat) {e : List AV} {vs : List Value}, VsRel ρ e vs → VsRel ρ (dropS l e) vs
  | [], _, _, h => h
  | k :: r, _, _, h => VsRel.drop r (h.setAny k)

theorem hasAt_of {α : Type} {c : List α} {n : Nat} {x : α} (h : nth c n = some x) : hasAt c n = true := by
  induction c generalizing n with
  | nil => simp [nth] at h
  | cons y r ih =>
    cases n with
    | zero => rfl
    | succ n => exact ih h
/-- What is behind a round: a smaller number, or an end. -/
def roundQ {X : Type} (I : Nat → List AV → List (Blk X) → Prop) (Q : AExit → List AV → List (Blk X) → Prop) (k : Nat) (e : AExit) (env : List AV) (m : List (Blk X)) : Prop :=
  match e with
  | .normal => ∃ k', k' < k ∧ I k' env m
  | e => Q e env m
/-- A loop's rounds: what holds at each round's head, and a number that goes down. -/
theorem loop_ind {L : Lib C.X} (hL : LibSound C L) {lp : Option (LoopSpec C.X)} (hlp : LoopsSound C lp) (hmix : C.P.follows .mixedOrders = true) {Kp : AV → List (Blk C.X) → Prop} {D : List Deferred} {c : Code} {Q : AExit → List AV → List (Blk C.X) → Prop}
    (ds : List Nat) (fuel : Nat) (I : Nat → List AV → List (Blk C.X) → Prop)
    (h : ∀ k env m, I k env m → aev C.P L lp Kp fuel c env m (fun e env' m' => roundQ I Q k e (dropS ds env') m')) :
    ∀ (k : Nat) (env : List AV) (m : List (Blk C.X)) (ρ : List Ghost) (fp : Nat → Prop) (a : Act) (w : World), I k env m → VsRel ρ env a.tmps.toList → a.defers = D → HRel C ρ m w fp → LoopAt C.P c (Res C ρ w fp D Q Kp) a w := by
  intro k
  induction k using Nat.strongRecOn with
  | _ k ih =>
    intro env m ρ fp a w hI hv hd hH
    refine loopAt_of (wp_mono (aev_sound hL hlp hmix fuel c env m _ ρ fp a w (h k env m hI) hv hd hH).1 (fun e a' w' hr => ?_))
    cases e with
    | normal =>
      obtain ⟨env', m', ρ', fp', ⟨k', hk', hI'⟩, hv', hd', hh, hs⟩ := hr
      have := ih k' hk' _ m' ρ' fp' a' w' hI' (hv'.drop ds) hd' hh
      exact fun bb kk cs => let ⟨e, a'', w'', q, r⟩ := this bb kk cs; ⟨e, a'', w'', q.mono hs (fun _ _ _ h => h), r⟩
    | ret => obtain ⟨env', m', ρ', fp', hk, hv', hd', hh, hs⟩ := hr; exact ⟨_, m', ρ', fp', hk, hv'.drop ds, hd', hh, hs⟩
    | exit id => obtain ⟨env', m', ρ', fp', hk, hv', hd', hh, hs⟩ := hr; exact ⟨_, m', ρ', fp', hk, hv'.drop ds, hd', hh, hs⟩
    | goto l => obtain ⟨env', m', ρ', fp', hk, hv', hd', hh, hs⟩ := hr; exact ⟨_, m', ρ', fp', hk, hv'.drop ds, hd', hh, hs⟩
    | panic ch => exact hr
    | outgrown => exact hr

theorem closed_blk {ρ ρ' : List Ghost} {g : Ghost} {w : World} {blk : Blk C.X} {W R : Nat → Prop} (h : BRel C ρ g w blk W R) (hs : scopedB C.scp 0 blk = true) : BRel C ρ' g w blk W R := by
  have := h.take hs
  simp only [List.take_zero] at this
  exact this.mono ⟨ρ', by simp⟩
/-- Nothing is read alone. -/
def NoR (C : Ctx) (blk : Blk C.X) : Prop := ∀ ρ g w W R, BRel C ρ g w blk W R → ∀ b, ¬ R b
theorem NoR.row (c : List AV) : NoR C (.row c) := fun _ _ _ _ _ h => h.2.2.2
theorem NoR.flat (c : List SV) : NoR C (.flat c) := fun _ _ _ _ _ h => h.2.2.2.2
/-- A function that turns one block, and reads others: what it says over these alone, it says beside any others. -/
theorem FSound.upd {f : FuncId} {s0 s : FSpec C.X} (h0 : FSound C f s0)
    (hs : ∀ args m K Kp, s args m K Kp → ∃ args0 r blk0 m0, nth m r = some blk0 ∧ scopedB C.scp 0 blk0 = true ∧ NoR C blk0 ∧
      s0 args0 (blk0 :: m0) (fun v m' => scopedV 0 v = true ∧ ∃ blk1 r1, m' = blk1 :: r1 ∧ scopedB C.scp 0 blk1 = true ∧ NoR C blk1 ∧ K v (setAt m r blk1)) (fun _ _ => False) ∧
      ∀ (ρ : List Ghost) (w : World) (vs : List Value) (W R : Nat → Nat → Prop), VsRel ρ args vs → HSep C ρ m w W R → ∀ g, ρ[r]? = some g → ∃ l : List (Ghost × Blk C.X), l.map (·.2) = m0 ∧ VsRel (g :: l.map (·.1)) args0 vs ∧
        ∀ p ∈ l, ∃ R0, BRel C (g :: l.map (·.1)) p.1 w p.2 (fun _ => False) R0 ∧ (∀ b, R0 b → b < w.heap.size ∧ ¬ W r b)) : FSound C f s := by
  classical
  intro args m K Kp hk
  obtain ⟨args0, r, blk0, m0, hr, hsc, hnr, h1, h2⟩ := hs args m K Kp hk
  obtain ⟨hc, h3⟩ := h0 _ _ _ _ h1
  refine ⟨hc, fun ρ w fp vs hv hH => ?_⟩
  obtain ⟨W, R, hsep, hf⟩ := hH
  rw [nth_eq] at hr
  have hrl : r < m.length := (List.getElem?_eq_some_iff.1 hr).1
  have hrl' : r < ρ.length := hsep.len ▸ hrl
  have hg : ρ[r]? = some ρ[r] := by simp [hrl']
  generalize ρ[r] = g at hg
  obtain ⟨l, rfl, hv0, hl⟩ := h2 ρ w vs W R hv hsep g hg
  let Rf : Nat → Nat → Prop := fun i b => match i with
    | 0 => R r b
    | i + 1 => ∃ h : i < l.length, Classical.choose (hl l[i] (List.getElem_mem h)) b
  let Wf : Nat → Nat → Prop := fun i b => match i with
    | 0 => W r b
    | _ + 1 => False
  have hR : ∀ i (h : i < l.length), Rf (i + 1) = Classical.choose (hl l[i] (List.getElem_mem h)) := fun i h => by funext b; simp [Rf, h]
  have hH0 : HRel C (g :: l.map (·.1)) (blk0 :: l.map (·.2)) w (fun b => W r b) := by
    refine ⟨Wf, Rf, ⟨by simp, fun i blk g' hi hg' => ?_, fun i b hi => ?_, fun i j b hi hj => ?_, fun i j b hi hj => ?_, fun i b hb => ?_, fun i b hb => ?_, hsep.inv, hsep.nGle⟩, fun i b hb => ?_⟩
    · cases i with
      | zero => simp at hi hg'; subst hi; subst hg'; exact closed_blk (hsep.blk r _ _ hr hg) hsc
      | succ i =>
        simp only [List.getElem?_cons_succ] at hi hg'
        have hil : i < l.length := by have := (List.getElem?_eq_some_iff.1 hi).1; simpa using this
        simp [hil] at hi hg'
        subst hi; subst hg'
        rw [hR i hil]
        exact (Classical.choose_spec (hl l[i] (List.getElem_mem hil))).1
    · cases i with
      | zero => simp at hi
      | succ i => exact ⟨fun h => h, fun ⟨h1, _⟩ => by simp at hi; omega⟩
    · cases i with
      | zero => cases j with
        | zero => rfl
        | succ j => exact hj.elim
      | succ i => exact hi.elim
    · cases i with
      | zero => cases j with
        | zero => exact hsep.wr r r b hi hj
        | succ j =>
          obtain ⟨hj1, hj2⟩ := hj
          exact ((Classical.choose_spec (hl l[j] (List.getElem_mem hj1))).2 b hj2).2 hi
      | succ i => exact hi.elim
    · cases i with
      | zero => exact hsep.lt r b hb
      | succ i =>
        rcases hb with hb | ⟨h1, hb⟩
        · exact hb.elim
        · exact ((Classical.choose_spec (hl l[i] (List.getElem_mem h1))).2 b hb).1
    · cases i with
      | zero => exact hsep.ge r b hb
      | succ i => exact hb.elim
    · cases i with
      | zero => exact hb
      | succ i => exact hb.elim
  refine Calls.mono (h3 _ w _ vs hv0 hH0) (fun e w' hr' => ?_)
  cases e with
  | returned x =>
    obtain ⟨v, m', ρ', fp', ⟨hsv, blk1, r1, rfl, hsb, hnr1, hk'⟩, hst, hvr, ⟨W', R', hs', hf'⟩⟩ := hr'
    have hsub : ∀ b, fp' b → W r b ∨ w.heap.size ≤ b := hst.sub
    have hkeep : ∀ b, b < w.heap.size → ¬ W r b → w'.heap[b]? = w.heap[b]? := hst.fr.keep
    obtain ⟨e0, he⟩ := hst.pfx
    have hg0 : ρ'[0]? = some g := by rw [he]; rfl
    have hB := hs'.blk 0 blk1 g rfl hg0
    have hRe : R' 0 = R r := by
      funext b
      have h1 := hnr1 _ _ _ _ _ hB b
      have h2 := hnr _ _ _ _ _ (hsep.blk r _ _ hr hg) b
      simp [h1, h2]
    rw [hRe] at hB
    have hW' : ∀ b, W' 0 b → W r b ∨ w.heap.size ≤ b := fun b hb => hsub b (hf' 0 b hb)
    refine ⟨v, _, ρ, fun b => fp b ∨ w.heap.size ≤ b, hk', ⟨.refl _, ⟨hst.fr.size, fun b hb hn => hkeep b hb (fun h => hn (hf r b h)), hst.fr.tape, hst.fr.os, hst.fr.out⟩, fun b hb => hb⟩, closed_rel hvr hsv, _, _,
      hsep.updNew (w' := w') hrl hg hst.fr.size hkeep hW' (fun b hb => hs'.lt 0 b (.inl hb)) (closed_blk hB hsb), fun j b hb => ?_⟩
    split at hb
    · rcases hW' b hb with h | h
      · exact .inl (hf r b h)
      · exact .inr h
    · exact .inl (hf j b hb)
  | panicked ch =>
    obtain ⟨v, m', ρ', fp', x, hch, hk', _⟩ := hr'
    exact hk'.elim
  | outgrown => exact hr'
end Go.AEv
