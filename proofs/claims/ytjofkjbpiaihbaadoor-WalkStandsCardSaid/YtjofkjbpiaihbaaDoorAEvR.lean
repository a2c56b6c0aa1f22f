/-
  Libraries of functions, and functions that turn nothing: they are looked at over what they read alone.
-/
import Derived.Test.YtjofkjbpiaihbaaDoorAEvQ
namespace Go.AEv
open Go
variable {C : Ctx}

def Lib.empty (X : Type) : Lib X := ⟨fun _ _ _ _ _ => False, fun _ _ => none, fun _ _ _ _ => False⟩
theorem Lib.empty_sound : LibSound C (Lib.empty C.X) :=
  ⟨fun _ _ _ _ _ h => h.elim, fun _ _ h => h.elim, fun _ => rfl, fun _ _ _ h => by simp [Lib.empty] at h⟩
def Lib.add {X : Type} (L : Lib X) (f : Nat) (s : FSpec X) : Lib X := ⟨fun g => match Nat.beq g f with
  | true => s
  | false => L.Γ g, L.μ, L.hook⟩
theorem LibSound.add {L : Lib C.X} (h : LibSound C L) {f : Nat} {s : FSpec C.X} (hs : FSound C f s) : LibSound C (L.add f s) :=
  ⟨fun g => by
    show FSound C g (match Nat.beq g f with | true => s | false => L.Γ g)
    split
    · rename_i e; rw [Nat.eq_of_beq_eq_true e]; exact hs
    · exact h.Γ g, h.hook, h.congr, h.μ⟩
theorem FSound.weaken {f : FuncId} {s s' : FSpec C.X} (h : FSound C f s) (hs : ∀ args m K Kp, s' args m K Kp → s args m K Kp) : FSound C f s' :=
  fun args m K Kp hk => h args m K Kp (hs args m K Kp hk)
/-- What is said of a function holds, if its evaluation says so. -/
theorem fsound_of {L : Lib C.X} (hL : LibSound C L) {lp : Option (LoopSpec C.X)} (hlp : LoopsSound C lp) (hmix : C.P.follows .mixedOrders = true) {f : FuncId} {fn : Func} (hf : C.P.funcs[f]? = some fn)
    (hcall : ∀ as w, (callFunc f as).run C.P w = .ok (.enter f as) w) {s : FSpec C.X} (h : ∀ args m K Kp, s args m K Kp → ∃ fuel keep, aFun C.P L lp C.scp fn fuel keep args m K Kp) : FSound C f s :=
  fun args m K Kp hk => let ⟨fuel, keep, hh⟩ := h args m K Kp hk; aFun_sound hL hlp hmix hf hcall fuel keep args m K Kp hh

theorem closed_rel {ρ ρ' : List Ghost} {x : AV} {v : Value} (h : VRel ρ x v) (hs : scopedV 0 x = true) : VRel ρ' x v := by
  have := h.take hs
  simp only [List.take_zero] at this
  exact this.mono ⟨ρ', by simp⟩
/-- A function that turns nothing: what it says over blocks that are only read, it says beside any others. -/
theorem FSound.pure {f : FuncId} {s0 s : FSpec C.X} (h0 : FSound C f s0)
    (hs : ∀ args m K Kp, s args m K Kp → ∃ args0 m0, s0 args0 m0 (fun v _ => scopedV 0 v = true ∧ K v m) (fun v _ => scopedV 0 v = true ∧ Kp v m) ∧
      ∀ ρ w fp vs, VsRel ρ args vs → HRel C ρ m w fp → ∃ ρ0, VsRel ρ0 args0 vs ∧ HRel C ρ0 m0 w (fun _ => False)) : FSound C f s := by
  intro args m K Kp hk
  obtain ⟨args0, m0, h1, h2⟩ := hs args m K Kp hk
  obtain ⟨hc, h3⟩ := h0 _ _ _ _ h1
  refine ⟨hc, fun ρ w fp vs hv hH => ?_⟩
  obtain ⟨ρ0, hv0, hH0⟩ := h2 ρ w fp vs hv hH
  have key : ∀ {ρ' w' fp'}, St ρ0 w (fun _ => False) ρ' w' fp' → St ρ w fp ρ w' fp ∧ HRel C ρ m w' fp := fun {ρ' w' fp'} hst => by
    obtain ⟨W, R, hs, hf⟩ := hH
    refine ⟨⟨.refl _, ⟨hst.fr.size, fun b hb _ => hst.fr.keep b hb (fun h => h), hst.fr.tape, hst.fr.os, hst.fr.out⟩, fun b hb => .inl hb⟩, W, R, hs.grow hst.fr.size (fun b hb => hst.fr.keep b hb (fun h => h)), hf⟩
  refine Calls.mono (h3 ρ0 w _ vs hv0 hH0) (fun e w' hr => ?_)
  cases e with
  | returned x =>
    obtain ⟨v, m', ρ', fp', ⟨hsc, hk'⟩, hst, hvr, _⟩ := hr
    exact ⟨v, m, ρ, fp, hk', (key hst).1, closed_rel hvr hsc, (key hst).2⟩
  | panicked ch =>
    obtain ⟨v, m', ρ', fp', x, hch, ⟨hsc, hk'⟩, hst, hvr, _⟩ := hr
    exact ⟨v, m, ρ, fp, x, hch, hk', (key hst).1, closed_rel hvr hsc, (key hst).2⟩
  | outgrown => exact hr

/-- Blocks that are only read. -/
theorem HRel.ros {ρ : List Ghost} {m : List (Blk C.X)} {w : World} {fp : Nat → Prop} (h : HRel C ρ m w fp) (l : List (Ghost × Blk C.X))
    (hl : ∀ p ∈ l, ∃ R, BRel C (l.map (·.1)) p.1 w p.2 (fun _ => False) R ∧ ∀ b, R b → b < w.heap.size) : HRel C (l.map (·.1)) (l.map (·.2)) w (fun _ => False) := by
  classical
  obtain ⟨W, R, hs, hf⟩ := h
  let Rf : Nat → Nat → Prop := fun i b => ∃ h : i < l.length, Classical.choose (hl l[i] (List.getElem_mem h)) b
  have hR : ∀ i (h : i < l.length), Rf i = Classical.choose (hl l[i] (List.getElem_mem h)) := fun i h => by funext b; simp [Rf, h]
  refine ⟨fun _ _ => False, Rf, ⟨by simp, fun i blk g hi hg => ?_, fun i b hi => ⟨fun h => h, fun h => ?_⟩, fun _ _ _ h => h.elim, fun _ _ _ h => h.elim, fun i b hb => ?_, fun _ _ h => h.elim, hs.inv, hs.nGle⟩, fun _ _ h => h⟩
  · have hil : i < l.length := by have := (List.getElem?_eq_some_iff.1 hi).1; simpa using this
    simp [hil] at hi hg
    subst hi; subst hg
    rw [hR i hil]
    exact (Classical.choose_spec (hl l[i] (List.getElem_mem hil))).1
  · obtain ⟨h1, _⟩ := h
    simp at hi
    omega
  · rcases hb with hb | ⟨h1, h2⟩
    · exact hb.elim
    · exact (Classical.choose_spec (hl l[i] (List.getElem_mem h1))).2 b h2
/-- With nothing read, and arguments without pointers. -/
theorem pure_closed {ρ : List Ghost} {args : List AV} {m : List (Blk C.X)} (hs : scopedVs 0 args = true) {w : World} {fp : Nat → Prop} {vs : List Value} (hv : VsRel ρ args vs) (hH : HRel C ρ m w fp) :
    ∃ ρ0, VsRel ρ0 args vs ∧ HRel C ρ0 [] w (fun _ => False) :=
  ⟨[], ⟨hv.1, fun k x v hx hv' => closed_rel (hv.2 k x v hx hv') (scopedVs_all hs x (List.mem_of_getElem? hx))⟩, by have := hH.ros [] (by simp); simpa using this⟩
theorem ro_of_flat {ρ ρ0 : List Ghost} {g : Ghost} {w : World} {c : List SV} {W R : Nat → Prop} (h : BRel C ρ g w (.flat c) W R) (hw : ∀ b, W b → b < w.heap.size) : ∃ R0, BRel C ρ0 g w (.ro c) (fun _ => False) R0 ∧ ∀ b, R0 b → b < w.heap.size :=
  ⟨fun b => b = g.b ∧ c ≠ [], ⟨h.1, fun _ h => h, fun _ => Iff.rfl⟩, fun b hb => hw b ((h.2.2.2.1 b).2 hb.1)⟩
theorem rrow_of_row {ρ ρ0 : List Ghost} {g : Ghost} {w : World} {c c0 : List AV} {W R : Nat → Prop} (h : BRel C ρ g w (.row c) W R) (hw : ∀ b, W b → b < w.heap.size) (hc : ∀ vs, VsRel ρ c vs → VsRel ρ0 c0 vs) : ∃ R0, BRel C ρ0 g w (.rrow c0) (fun _ => False) R0 ∧ ∀ b, R0 b → b < w.heap.size := by
  obtain ⟨⟨vs, hv, hs, _⟩, _, hW, _⟩ := h
  exact ⟨fun b => b = g.b ∧ c0 ≠ [], ⟨⟨vs, hc vs hv, hs⟩, fun _ h => h, fun _ => Iff.rfl⟩, fun b hb => hw b ((hW b).2 hb.1)⟩
/-- An argument as a function that turns nothing may see it: a pointer is not looked at. -/
def clos (x : AV) : AV := match scopedV 0 x with
  | true => x
  | false => .any
theorem clos_rel {ρ : List Ghost} {x : AV} {v : Value} (h : VRel ρ x v) : VRel [] (clos x) v := by
  unfold clos
  split
  · rename_i hs; exact closed_rel h hs
  · exact .any v
theorem FSound.closed {f : FuncId} {s0 s : FSpec C.X} (h0 : FSound C f s0)
    (hs : ∀ args m K Kp, s args m K Kp → s0 (args.map clos) [] (fun v _ => scopedV 0 v = true ∧ K v m) (fun v _ => scopedV 0 v = true ∧ Kp v m)) : FSound C f s :=
  h0.pure fun args m K Kp h => ⟨args.map clos, [], hs args m K Kp h, fun ρ w fp vs hv hH => ⟨[], ⟨by simpa using hv.1, fun k x v hx hv' => by
    simp only [List.getElem?_map, Option.map_eq_some_iff] at hx
    obtain ⟨y, hy, rfl⟩ := hx
    exact clos_rel (hv.2 k y v hy hv')⟩, by have := hH.ros [] (by simp); simpa using this⟩⟩
end Go.AEv
