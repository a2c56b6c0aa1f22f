/-
  Regions that draw their order: one evaluation, in an order of our own, stands for every order.
-/
import Derived.Test.YtjofkjbpiaihbaaDoorAEvK
namespace Go.AEv
open Go

variable {C : Ctx}

/-! ### what waits for what -/
inductive Reach (ops : Array Oper) : Nat → Nat → Prop
  | one {i j : Nat} {o : Oper} {e : Edge} (ho : ops[i]? = some o) (he : e ∈ o.after) (hb : Region.binds .any e = true) (hj : e.on = j) : Reach ops i j
  | trans {i k j : Nat} (h : Reach ops i k) (h' : Reach ops k j) : Reach ops i j
def mask1 (acc : List Nat) : List Edge → Nat
  | [] => 0
  | e :: r => match Region.binds .any e with
    | true => (match nth acc e.on with
      | some x => x ||| 2 ^ e.on
      | none => 2 ^ e.on) ||| mask1 acc r
    | false => mask1 acc r
def masks : List Oper → List Nat → List Nat
  | [], acc => acc
  | o :: r, acc => masks r (acc ++ [mask1 acc o.after.toList])
def bitOf (ms : List Nat) (i j : Nat) : Bool :=
  match nth ms i with
  | some x => x.testBit j
  | none => false

theorem mask1_reach {ops : Array Oper} {acc : List Nat} (hacc : ∀ i x, acc[i]? = some x → ∀ j, x.testBit j = true → Reach ops i j) {i : Nat} {o : Oper} (ho : ops[i]? = some o) :
    ∀ (l : List Edge), (∀ e ∈ l, e ∈ o.after) → ∀ j, (mask1 acc l).testBit j = true → Reach ops i j
  | [], _, j, h => by simp [mask1] at h
  | e :: r, hl, j, h => by
    have ih := mask1_reach hacc ho r (fun e he => hl e (List.mem_cons_of_mem _ he)) j
    simp only [mask1] at h
    split at h
    · rename_i hb
      rw [Nat.testBit_or, Bool.or_eq_true] at h
      have hone : Reach ops i e.on := .one ho (hl e List.mem_cons_self) hb rfl
      rcases h with h | h
      · split at h
        · rename_i x hx
          rw [Nat.testBit_or, Bool.or_eq_true] at h
          rcases h with h | h
          · exact .trans hone (hacc e.on x (by rw [← nth_eq]; exact hx) j h)
          · rw [Nat.testBit_two_pow] at h
            have : e.on = j := by simpa using h
            rw [← this]; exact hone
        · rw [Nat.testBit_two_pow] at h
          have : e.on = j := by simpa using h
          rw [← this]; exact hone
      · exact ih h
    · exact ih h
theorem masks_reach {ops : Array Oper} : ∀ (l : List Oper) (acc : List Nat), (∀ j, l[j]? = ops[acc.length + j]?) → (∀ i x, acc[i]? = some x → ∀ j, x.testBit j = true → Reach ops i j) →
    ∀ i x, (masks l acc)[i]? = some x → ∀ j, x.testBit j = true → Reach ops i j
  | [], acc, _, hacc => hacc
  | o :: r, acc, hl, hacc => by
    simp only [masks]
    have h0 : ops[acc.length]? = some o := by have := hl 0; simpa using this.symm
    refine masks_reach r _ (fun j => by have := hl (j + 1); simp at this ⊢; rw [this]; congr 1; omega) (fun i x hx j hj => ?_)
    by_cases hi : i < acc.length
    · rw [List.getElem?_append_left hi] at hx; exact hacc i x hx j hj
    · rw [List.getElem?_append_right (by omega)] at hx
      have : i - acc.length = 0 := by
        have := (List.getElem?_eq_some_iff.1 hx).1
        simp at this; omega
      rw [this] at hx
      simp at hx
      have hii : i = acc.length := by omega
      subst hii; subst hx
      exact mask1_reach hacc h0 _ (fun e he => by simpa using he) j hj
theorem bitOf_reach {ops : Array Oper} {i j : Nat} (h : bitOf (masks ops.toList []) i j = true) : Reach ops i j := by
  unfold bitOf at h
  split at h
  · rename_i x hx
    exact masks_reach ops.toList [] (fun j => by simp) (fun i x hx => by simp at hx) i x (by rw [← nth_eq]; exact hx) j h
  · simp at h

/-! ### the plan: in which order, and which are barriers -/
abbrev Plan := List (Nat × Bool)
def dstOf (ops : Array Oper) (i : Nat) : Option Tmp :=
  match ops[i]? with
  | some o => o.dst
  | none => none
def looksOf (ops : Array Oper) (i : Nat) : List Tmp :=
  match ops[i]? with
  | some o => o.looksAt ops
  | none => []
def memN : List Nat → Nat → Bool
  | [], _ => false
  | x :: r, y => match Nat.beq x y with
    | true => true
    | false => memN r y
theorem memN_mem : ∀ {l : List Nat} {y : Nat}, memN l y = true ↔ y ∈ l
  | [], _ => by simp [memN]
  | x :: r, y => by
    simp only [memN]
    split
    · rename_i h; have := Nat.eq_of_beq_eq_true h; subst this; simp
    · rename_i h
      rw [memN_mem (l := r), List.mem_cons]
      constructor
      · exact .inr
      · rintro (rfl | h')
        · simp [Nat.beq_refl] at h
        · exact h'
def isBar (ops : Array Oper) (ms : List Nat) (i : Nat) (o : Oper) : Bool :=
  !quietD o || match o.dst with
    | none => false
    | some d => (List.range ops.size).any fun j => bitOf ms i j && memN (looksOf ops j) d
def bars (ops : Array Oper) (ms : List Nat) : List Nat := (List.range ops.size).filter fun i => match ops[i]? with
  | some o => isBar ops ms i o
  | none => false
/-- How many of the barriers an operation waits for. -/
def level (ms : List Nat) (bs : List Nat) (i : Nat) : Nat := (bs.filter fun b => bitOf ms i b).length
def stage (ops : Array Oper) (ms bs : List Nat) (k : Nat) : Plan := ((List.range ops.size).filter fun i => !memN bs i && Nat.beq (level ms bs i) k).map fun i => (i, false)
def stages (ops : Array Oper) (ms bs : List Nat) : Nat → List Nat → Plan
  | k, [] => stage ops ms bs k
  | k, b :: r => stage ops ms bs k ++ (b, true) :: stages ops ms bs (k + 1) r
def planOf (ops : Array Oper) (ms : List Nat) : Plan := stages ops ms (bars ops ms) 0 (bars ops ms)

def ordP (ops : Array Oper) : List Nat → Plan → Bool
  | _, [] => true
  | done, p :: r => (match ops[p.1]? with
    | some o => o.after.toList.all fun e => !Region.binds .any e || memN done e.on
    | none => true) && ordP ops (p.1 :: done) r
def barP (ms : List Nat) : Plan → Bool
  | [] => true
  | p :: r => (!p.2 || r.all fun q => bitOf ms q.1 p.1) && barP ms r
def nodupP : Plan → Bool
  | [] => true
  | p :: r => !(r.any fun q => Nat.beq q.1 p.1) && nodupP r
def ssaP (ops : Array Oper) (ms : List Nat) (plan : Plan) : Bool :=
  plan.all fun q => match dstOf ops q.1 with
    | none => true
    | some d => plan.all fun p => (!memN (looksOf ops p.1) d || bitOf ms p.1 q.1 || (q.2 && bitOf ms q.1 p.1)) && (Nat.beq p.1 q.1 || match dstOf ops p.1 with
      | some d' => !Nat.beq d d'
      | none => true)
def quietP (ops : Array Oper) (plan : Plan) : Bool := plan.all fun p => p.2 || match ops[p.1]? with
  | some o => quietD o
  | none => true
def covP (n : Nat) (plan : Plan) : Bool := (List.range n).all fun i => plan.any fun p => Nat.beq p.1 i
def inbP (n : Nat) (plan : Plan) : Bool := plan.all fun p => Nat.ble (p.1 + 1) n
def chkPlan (ops : Array Oper) (ms : List Nat) (plan : Plan) : Bool :=
  (covP ops.size plan && inbP ops.size plan) && nodupP plan && ordP ops [] plan && barP ms plan && ssaP ops ms plan && quietP ops plan

structure PlanOk (ops : Array Oper) (plan : Plan) : Prop where
  cov : ∀ i, i < ops.size → ∃ b, (i, b) ∈ plan
  inb : ∀ p ∈ plan, p.1 < ops.size
  nodup : (plan.map (·.1)).Nodup
  ord : ∀ pre p post, plan = pre ++ p :: post → ∀ o e, ops[p.1]? = some o → e ∈ o.after → Region.binds .any e = true → e.on ∈ pre.map (·.1)
  bar : ∀ pre i post, plan = pre ++ (i, true) :: post → ∀ q ∈ post, Reach ops q.1 i
  ssa : ∀ p q, p ∈ plan → q ∈ plan → ∀ d, dstOf ops q.1 = some d → d ∈ looksOf ops p.1 → Reach ops p.1 q.1 ∨ (q.2 = true ∧ Reach ops q.1 p.1)
  dist : ∀ p q, p ∈ plan → q ∈ plan → p.1 ≠ q.1 → ∀ d, dstOf ops q.1 = some d → dstOf ops p.1 ≠ some d
  quiet : ∀ i o, (i, false) ∈ plan → ops[i]? = some o → quietD o = true

theorem ordP_sound {ops : Array Oper} : ∀ (plan : Plan) (done : List Nat), ordP ops done plan = true → ∀ pre p post, plan = pre ++ p :: post → ∀ o e, ops[p.1]? = some o → e ∈ o.after → Region.binds .any e = true → e.on ∈ pre.map (·.1) ∨ e.on ∈ done
  | [], _, _, pre, p, post, h => by simp at h
  | q :: r, done, hc, pre, p, post, h => by
    simp only [ordP, Bool.and_eq_true] at hc
    intro o e ho he hb
    cases pre with
    | nil =>
      simp at h
      obtain ⟨rfl, rfl⟩ := h
      have h1 := hc.1
      rw [ho] at h1
      simp only [List.all_eq_true] at h1
      have := h1 e (by simpa using he)
      simp [hb, memN_mem] at this
      exact .inr this
    | cons x pre =>
      simp at h
      obtain ⟨rfl, rfl⟩ := h
      rcases ordP_sound _ _ hc.2 pre p post rfl o e ho he hb with h1 | h1
      · left; simp; right; simpa using h1
      · rcases List.mem_cons.1 h1 with h2 | h2
        · left; simp [h2]
        · exact .inr h2
theorem barP_sound {ops : Array Oper} : ∀ (plan : Plan), barP (masks ops.toList []) plan = true → ∀ pre i post, plan = pre ++ (i, true) :: post → ∀ q ∈ post, Reach ops q.1 i
  | [], _, pre, i, post, h => by simp at h
  | x :: r, hc, pre, i, post, h => by
    simp only [barP, Bool.and_eq_true] at hc
    cases pre with
    | nil =>
      simp at h
      obtain ⟨rfl, rfl⟩ := h
      intro q hq
      have h1 := hc.1
      simp only [Bool.not_true, Bool.false_or, List.all_eq_true] at h1
      exact bitOf_reach (h1 q hq)
    | cons y pre =>
      simp at h
      obtain ⟨rfl, rfl⟩ := h
      exact barP_sound _ hc.2 pre i post rfl
theorem nodupP_sound : ∀ (plan : Plan), nodupP plan = true → (plan.map (·.1)).Nodup
  | [], _ => by simp
  | p :: r, h => by
    simp only [nodupP, Bool.and_eq_true, Bool.not_eq_true', List.any_eq_false] at h
    rw [List.map_cons, List.nodup_cons]
    refine ⟨fun hm => ?_, nodupP_sound r h.2⟩
    obtain ⟨q, hq, he⟩ := List.mem_map.1 hm
    have := h.1 q hq
    rw [he] at this
    simp [Nat.beq_refl] at this
theorem planOk_of {ops : Array Oper} {plan : Plan} (h : chkPlan ops (masks ops.toList []) plan = true) : PlanOk ops plan := by
  simp only [chkPlan, Bool.and_eq_true] at h
  obtain ⟨⟨⟨⟨⟨⟨h1, h0⟩, h2⟩, h3⟩, h4⟩, h5⟩, h6⟩ := h
  refine ⟨fun i hi => ?_, fun p hpm => by simp only [inbP, List.all_eq_true] at h0; exact Nat.le_of_ble_eq_true (h0 p hpm), nodupP_sound _ h2, fun pre p post hp o e ho he hb => ?_, barP_sound _ h4, fun p q hp hq d hd hl => ?_, fun p q hp hq hne d hd => ?_, fun i o hi ho => ?_⟩
  · simp only [covP, List.all_eq_true, List.any_eq_true] at h1
    obtain ⟨p, hp, he⟩ := h1 i (by simpa using hi)
    have := Nat.eq_of_beq_eq_true he
    subst this
    exact ⟨p.2, hp⟩
  · rcases ordP_sound _ _ h3 pre p post hp o e ho he hb with h | h
    · exact h
    · simp at h
  · simp only [ssaP, List.all_eq_true] at h5
    have h := h5 q hq
    rw [hd] at h
    simp only [List.all_eq_true] at h
    have := (Bool.and_eq_true_iff.1 (h p hp)).1
    rw [Bool.or_eq_true, Bool.or_eq_true, Bool.and_eq_true] at this
    rcases this with (h | h) | h
    · simp only [Bool.not_eq_true'] at h
      exact absurd (memN_mem.2 hl) (by rw [h]; simp)
    · exact .inl (bitOf_reach h)
    · exact .inr ⟨h.1, bitOf_reach h.2⟩
  · simp only [ssaP, List.all_eq_true] at h5
    have h := h5 q hq
    rw [hd] at h
    simp only [List.all_eq_true] at h
    have := (Bool.and_eq_true_iff.1 (h p hp)).2
    rw [Bool.or_eq_true] at this
    rcases this with h | h
    · exact absurd (Nat.eq_of_beq_eq_true h) hne
    · intro he
      rw [he] at h
      simp [Nat.beq_refl] at h
  · simp only [quietP, List.all_eq_true] at h6
    have := h6 _ hi
    simpa [ho] using this

theorem reach_before {ops : Array Oper} {plan : Plan} (hp : PlanOk ops plan) {i j : Nat} (h : Reach ops i j) : ∀ pre b post, plan = pre ++ (i, b) :: post → j ∈ pre.map (·.1) := by
  induction h with
  | one ho he hb hj => intro pre b post hpl; rw [← hj]; exact hp.ord pre _ post hpl _ _ ho he hb
  | @trans i k j h h' ih ih' =>
    intro pre b post hpl
    obtain ⟨⟨k', bk⟩, hk, he⟩ := List.mem_map.1 (ih pre b post hpl)
    simp only at he
    subst he
    obtain ⟨pre1, post1, rfl⟩ := List.append_of_mem hk
    have := ih' pre1 bk (post1 ++ (i, b) :: post) (by rw [hpl]; simp)
    rw [List.map_append]
    exact List.mem_append_left _ this

/-! ### the evaluation -/
def guardA (ops : Array Oper) (o : Oper) : List (Nat × Bool) :=
  match o.guard with
  | none => []
  | some (j, w) => match gslot ops j with
    | some t => [(t, w)]
    | none => []
def isLoad : Op → Bool
  | .load _ _ => true
  | _ => false
/-- Are they the same, as far as is seen at a look? -/
def capSame : Option Nat → Option Nat → Bool
  | none, none => true
  | some a, some b => Nat.beq a b
  | _, _ => false
def avSame : Option AV → Option AV → Bool
  | some (.ptr i o), some (.ptr i' o') => match Nat.beq i i' with
    | true => Nat.beq o o'
    | false => false
  | some (.sl i o e n c), some (.sl i' o' e' n' c') => match Nat.beq i i', Nat.beq o o', Nat.beq e e', Nat.beq n n' with
    | true, true, true, true => capSame c c'
    | _, _, _, _ => false
  | some .nilp, some .nilp => true
  | some .nilm, some .nilm => true
  | some .nilf, some .nilf => true
  | some .nilif, some .nilif => true
  | some (.mp i), some (.mp i') => Nat.beq i i'
  | _, _ => false
theorem capSame_eq {a b : Option Nat} (h : capSame a b = true) : a = b := by
  cases a <;> cases b <;> simp only [capSame] at h <;> first | rfl | (rw [Nat.eq_of_beq_eq_true h]) | simp at h
theorem avSame_eq {a b : Option AV} (h : avSame a b = true) : a = b := by
  unfold avSame at h
  split at h <;> first | rfl | (simp at h; done) | skip
  · split at h
    · rename_i h1; rw [Nat.eq_of_beq_eq_true h1, Nat.eq_of_beq_eq_true h]
    · simp at h
  · split at h
    · rename_i h1 h2 h3 h4; rw [Nat.eq_of_beq_eq_true h1, Nat.eq_of_beq_eq_true h2, Nat.eq_of_beq_eq_true h3, Nat.eq_of_beq_eq_true h4, capSame_eq h]
    · simp at h
  · rw [Nat.eq_of_beq_eq_true h]
/-- What was read ahead of a barrier and might be read behind it reads the same there. -/
def sides {X : Type} (P : Program) (ops : Array Oper) (ms : List Nat) (i : Nat) (s : S) (m : List (Blk X)) (s' : S) (m' : List (Blk X)) : List Nat → Prop → Prop
  | [], K => K
  | l :: r, K => match bitOf ms i l with
    | true => sides P ops ms i s m s' m' r K
    | false => match ops[l]? with
      | some o => match avSame (aqS P s' (guardA ops o) m' o) (aqS P s (guardA ops o) m o) with
        | true => sides P ops ms i s m s' m' r K
        | false => aqS P s' (guardA ops o) m' o = aqS P s (guardA ops o) m o ∧ sides P ops ms i s m s' m' r K
      | none => sides P ops ms i s m s' m' r K
def aDraw {X : Type} (P : Program) (L : Lib X) (ops : Array Oper) (ms : List Nat) (Q : List AV → List (Blk X) → Prop) (Kp : AV → List (Blk X) → Prop) : Plan → List Nat → S → List (Blk X) → Prop
  | [], _, s, m => Q s.env m
  | (i, b) :: rest, loads, s, m => match ops[i]? with
    | none => False
    | some o => match b with
      | false => match splitOn ops s o with
        | some (t, b) => match b with
          | true => match shDang P ops ⟨setAt s.env t (.kb true), s.G⟩ m o with
            | true => False
            | false => match qvalF P ops ⟨setAt s.env t (.kb true), s.G⟩ m o with
              | some qv => aDraw P L ops ms Q Kp rest (match isLoad o.op with | true => i :: loads | false => loads) (qput ⟨setAt s.env t (.kb true), s.G⟩ o.dst qv) m
              | none => False
          | false => match shDang P ops ⟨setAt s.env t (.kb false), s.G⟩ m o with
            | true => False
            | false => match qvalF P ops ⟨setAt s.env t (.kb false), s.G⟩ m o with
              | some qv => aDraw P L ops ms Q Kp rest (match isLoad o.op with | true => i :: loads | false => loads) (qput ⟨setAt s.env t (.kb false), s.G⟩ o.dst qv) m
              | none => False
        | none => match shDang P ops s m o with
          | true => False
          | false => match qvalF P ops s m o with
            | some qv => aDraw P L ops ms Q Kp rest (match isLoad o.op with | true => i :: loads | false => loads) (qput s o.dst qv) m
            | none => False
      | true => bstep P L ops s m o (fun s' m' => sides P ops ms i s m s' m' loads (aDraw P L ops ms Q Kp rest loads s' m')) Kp

theorem sides_K {X : Type} {P : Program} {ops : Array Oper} {ms : List Nat} {i : Nat} {s s' : S} {m m' : List (Blk X)} {K : Prop} : ∀ {loads : List Nat}, sides P ops ms i s m s' m' loads K → K
  | [], h => h
  | l :: r, h => by
    simp only [sides] at h
    split at h
    · exact sides_K h
    · split at h
      · split at h
        · exact sides_K h
        · exact sides_K h.2
      · exact sides_K h
theorem sides_at {X : Type} {P : Program} {ops : Array Oper} {ms : List Nat} {i : Nat} {s s' : S} {m m' : List (Blk X)} {K : Prop} : ∀ {loads : List Nat}, sides P ops ms i s m s' m' loads K → ∀ l ∈ loads, bitOf ms i l = false → ∀ o, ops[l]? = some o →
    aqS P s' (guardA ops o) m' o = aqS P s (guardA ops o) m o
  | [], _, l, hl => by simp at hl
  | x :: r, h, l, hl => by
    intro hb o ho
    simp only [sides] at h
    rcases List.mem_cons.1 hl with rfl | hl
    · rw [hb] at h
      simp only [ho] at h
      split at h
      · rename_i hs; exact avSame_eq hs
      · exact h.1
    · split at h
      · exact sides_at h l hl hb o ho
      · split at h
        · split at h
          · exact sides_at h l hl hb o ho
          · exact sides_at h.2 l hl hb o ho
        · exact sides_at h l hl hb o ho

/-! ### what an operation's value hangs on -/
theorem filterG_id : ∀ {G : List GE} {d : Nat}, (∀ e ∈ G, e.d ≠ d ∧ e.t ≠ d) → filterG G d = G
  | [], _, _ => rfl
  | e :: r, d, h => by
    have he := h e List.mem_cons_self
    have h1 : Nat.beq e.d d = false := by rw [Bool.eq_false_iff]; exact fun hc => he.1 (Nat.eq_of_beq_eq_true hc)
    have h2 : Nat.beq e.t d = false := by rw [Bool.eq_false_iff]; exact fun hc => he.2 (Nat.eq_of_beq_eq_true hc)
    simp only [filterG, h1, h2]
    rw [filterG_id (fun e he => h e (List.mem_cons_of_mem _ he))]
theorem findG_filter : ∀ {G : List GE} {d x : Nat}, (∀ e ∈ G, e.d = x → e.t ≠ d) → x ≠ d → findG (filterG G d) x = findG G x
  | [], _, _, _, _ => rfl
  | e :: r, d, x, h, hx => by
    have ih := findG_filter (G := r) (fun e he => h e (List.mem_cons_of_mem _ he)) hx
    by_cases hex : e.d = x
    · have h1 : Nat.beq e.d d = false := by rw [Bool.eq_false_iff]; exact fun hc => hx (hex ▸ Nat.eq_of_beq_eq_true hc)
      have h2 : Nat.beq e.t d = false := by rw [Bool.eq_false_iff]; exact fun hc => h e List.mem_cons_self hex (Nat.eq_of_beq_eq_true hc)
      have h3 : Nat.beq e.d x = true := by rw [hex]; exact Nat.beq_refl _
      simp only [filterG, h1, h2, findG, h3]
    · have h3 : Nat.beq e.d x = false := by rw [Bool.eq_false_iff]; exact fun hc => hex (Nat.eq_of_beq_eq_true hc)
      have h4 : findG (e :: r) x = findG r x := by simp only [findG, h3]
      rw [h4, ← ih]
      simp only [filterG]
      split
      · simp only [findG, h3]
      · rfl
/-- Two states that are the same as far as an operation looks. -/
structure Same (s s' : S) (A : List (Nat × Bool)) (x : Nat) : Prop where
  env : nth s'.env x = nth s.env x ∨ ∃ b, nth s.env x = some (.s (.b b)) ∧ nth s'.env x = some (.kb b)
  G : (match findG s'.G x with
      | some e => match memA A e.t e.w with
        | true => e.v
        | false => .any
      | none => .any) = (match findG s.G x with
      | some e => match memA A e.t e.w with
        | true => e.v
        | false => (.any : AV)
      | none => .any)
theorem evA_same {s s' : S} {A : List (Nat × Bool)} {x : Operand} (h : ∀ t, x = .tmp t → Same s s' A t) : evA s' A x = evA s A x := by
  cases x with
  | tmp t =>
    obtain ⟨h1, h2⟩ := h t rfl
    simp only [evA]
    rcases h1 with h1 | ⟨b, h1, h1'⟩
    · rw [h1]
      split
      · exact h2
      · rfl
      · rfl
      · rfl
    · rw [h1, h1']
  | _ => rfl
theorem aqS_same {X : Type} {P : Program} {s s' : S} {A : List (Nat × Bool)} {m : List (Blk X)} {o : Oper} (h : ∀ t, .tmp t ∈ o.op.operands → ∀ B, (∀ u w, (u, w) ∈ B → (u, w) ∈ A ∨ .tmp u ∈ o.op.operands) → Same s s' B t) : aqS P s' A m o = aqS P s A m o := by
  unfold aqS
  split
  · rename_i t x y ho
    have hm : ∀ u, u ∈ o.op.operands ↔ u = .tmp t ∨ u = x ∨ u = y := by rw [ho]; simp [Op.operands]
    have hB : ∀ b, ∀ u w, (u, w) ∈ (t, b) :: A → (u, w) ∈ A ∨ .tmp u ∈ o.op.operands := fun b u w hu => by
      rcases List.mem_cons.1 hu with he | hu
      · cases he; exact .inr ((hm _).2 (.inl rfl))
      · exact .inl hu
    rw [evA_same (x := .tmp t) (fun k hk => h k ((hm _).2 (.inl hk.symm)) A (fun u w hu => .inl hu)), evA_same (x := x) (fun k hk => h k ((hm _).2 (.inr (.inl hk.symm))) _ (hB true)), evA_same (x := y) (fun k hk => h k ((hm _).2 (.inr (.inr hk.symm))) _ (hB false))]
  · exact aq_congr fun x hx => evA_same fun t ht => h t (ht ▸ hx) A (fun u w hu => .inl hu)
theorem aqS_mem {X : Type} {P : Program} {s : S} {A : List (Nat × Bool)} {m m' : List (Blk X)} {o : Oper} (h : isLoad o.op = false) : aqS P s A m' o = aqS P s A m o := by
  unfold aqS
  split
  · rfl
  · unfold aq
    split <;> first | rfl | (rename_i ho; rw [ho] at h; simp [isLoad] at h)
end Go.AEv
