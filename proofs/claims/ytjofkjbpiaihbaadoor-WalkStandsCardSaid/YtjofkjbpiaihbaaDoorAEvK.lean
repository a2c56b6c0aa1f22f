/-
  Regions: one operation behind the other, with guards.
-/
import Derived.Test.YtjofkjbpiaihbaaDoorAEvJ
namespace Go.AEv
open Go

variable {C : Ctx}

/-- A guarded operation's value: it stands in slot d if slot t holds w; else d holds nothing. -/
structure GE where
  d : Nat
  t : Nat
  w : Bool
  v : AV
structure S where
  env : List AV
  G : List GE

def findG : List GE → Nat → Option GE
  | [], _ => none
  | e :: r, x => match Nat.beq e.d x with
    | true => some e
    | false => findG r x
def memA : List (Nat × Bool) → Nat → Bool → Bool
  | [], _, _ => false
  | (t, w) :: r, t', w' => match Nat.beq t t', w == w' with
    | true, true => true
    | _, _ => memA r t' w'
def evA (s : S) (A : List (Nat × Bool)) : Operand → AV
  | .tmp x => match nth s.env x with
    | some .any => match findG s.G x with
      | some e => match memA A e.t e.w with
        | true => e.v
        | false => .any
      | none => .any
    | some (.kb b) => .s (.b b)
    | some v => v
    | none => .any
  | .const v => ofConst v
  | .global _ => .any
  | .func f => .fn (.func f) []

def filterG : List GE → Nat → List GE
  | [], _ => []
  | e :: r, x => match Nat.beq e.d x, Nat.beq e.t x with
    | false, false => e :: filterG r x
    | _, _ => filterG r x
def putS (s : S) (dst : Option Tmp) (v : AV) : S :=
  match dst with
  | some d => ⟨setAt s.env d v, filterG s.G d⟩
  | none => s
def putG (s : S) (dst : Option Tmp) (t : Nat) (w : Bool) (v : AV) : S :=
  match dst with
  | some d => ⟨setAt s.env d .any, match Nat.beq d t with
    | true => filterG s.G d
    | false => ⟨d, t, w, v⟩ :: filterG s.G d⟩
  | none => s

def gslot (ops : Array Oper) (j : Nat) : Option Tmp :=
  match ops[j]? with
  | some o => o.dst
  | none => none

theorem findG_mem : ∀ {G : List GE} {x : Nat} {e : GE}, findG G x = some e → e ∈ G ∧ e.d = x
  | [], _, _, h => by simp [findG] at h
  | g :: r, x, e, h => by
    simp only [findG] at h
    split at h
    · rename_i hd; cases h; exact ⟨List.mem_cons_self, Nat.eq_of_beq_eq_true hd⟩
    · obtain ⟨h1, h2⟩ := findG_mem h; exact ⟨List.mem_cons_of_mem _ h1, h2⟩
theorem filterG_mem : ∀ {G : List GE} {x : Nat} {e : GE}, e ∈ filterG G x → e ∈ G ∧ e.d ≠ x ∧ e.t ≠ x
  | [], _, _, h => by simp [filterG] at h
  | g :: r, x, e, h => by
    simp only [filterG] at h
    split at h
    · rename_i h1 h2
      rcases List.mem_cons.1 h with rfl | h
      · exact ⟨List.mem_cons_self, fun he => by rw [he] at h1; simp [Nat.beq_refl] at h1, fun he => by rw [he] at h2; simp [Nat.beq_refl] at h2⟩
      · obtain ⟨a, b⟩ := filterG_mem h; exact ⟨List.mem_cons_of_mem _ a, b⟩
    · obtain ⟨a, b⟩ := filterG_mem h; exact ⟨List.mem_cons_of_mem _ a, b⟩
theorem memA_mem : ∀ {A : List (Nat × Bool)} {t : Nat} {w : Bool}, memA A t w = true → (t, w) ∈ A
  | [], _, _, h => by simp [memA] at h
  | (a, b) :: r, t, w, h => by
    simp only [memA] at h
    split at h
    · rename_i h1 h2
      have := Nat.eq_of_beq_eq_true h1
      have h3 := eq_of_beq h2
      subst this; subst h3
      exact List.mem_cons_self
    · exact List.mem_cons_of_mem _ (memA_mem h)


/-! ### what a state stands for; 'pend': slots of which nothing is said -/
def GOk (ρ : List Ghost) (tm : Array Value) (e : GE) : Prop :=
  (tm[e.t]? = some (.bool e.w) → ∃ x, tm[e.d]? = some x ∧ VRel ρ e.v x) ∧ (tm[e.t]? ≠ some (.bool e.w) → tm[e.d]? = some undef)
structure SRel (ρ : List Ghost) (s : S) (tm : Array Value) (pend : Nat → Prop) : Prop where
  len : s.env.length = tm.size
  env : ∀ (k : Nat) (x : AV) (v : Value), ¬ pend k → s.env[k]? = some x → tm[k]? = some v → VRel ρ x v
  G : ∀ e ∈ s.G, ¬ pend e.d → GOk ρ tm e
def none' : Nat → Prop := fun _ => False
theorem SRel.mono {ρ ρ' : List Ghost} (hp : Pfx ρ ρ') {s : S} {tm : Array Value} {pend : Nat → Prop} (h : SRel ρ s tm pend) : SRel ρ' s tm pend :=
  ⟨h.len, fun k x v hk hx hv => (h.env k x v hk hx hv).mono hp, fun e he hn => ⟨fun ht => let ⟨x, hx, hr⟩ := (h.G e he hn).1 ht; ⟨x, hx, hr.mono hp⟩, (h.G e he hn).2⟩⟩
theorem SRel.get {ρ : List Ghost} {s : S} {tm : Array Value} {pend : Nat → Prop} (h : SRel ρ s tm pend) {k : Nat} {x : AV} (hx : s.env[k]? = some x) (hk : ¬ pend k) : ∃ v, tm[k]? = some v ∧ VRel ρ x v := by
  have hl : k < tm.size := by have := (List.getElem?_eq_some_iff.1 hx).1; rw [h.len] at this; exact this
  exact ⟨tm[k], by simp [hl], h.env k x _ hk hx (by simp [hl])⟩
theorem SRel.vs {ρ : List Ghost} {s : S} {tm : Array Value} (h : SRel ρ s tm none') : VsRel ρ s.env tm.toList :=
  ⟨by simpa using h.len, fun k x v hx hv => h.env k x v (fun h => h) hx (by simpa using hv)⟩

/-- The slots that are assumed hold what is assumed of them. -/
def AOk (tm : Array Value) (A : List (Nat × Bool)) : Prop := ∀ t w, (t, w) ∈ A → tm[t]? = some (.bool w)
theorem AOk.nil (tm : Array Value) : AOk tm [] := fun _ _ h => by simp at h
theorem AOk.cons {tm : Array Value} {A : List (Nat × Bool)} {t : Nat} {w : Bool} (h : tm[t]? = some (.bool w)) (ha : AOk tm A) : AOk tm ((t, w) :: A) := fun t' w' hm => by
  rcases List.mem_cons.1 hm with he | hm
  · cases he; exact h
  · exact ha t' w' hm
theorem AOk.one {tm : Array Value} {t : Nat} {w : Bool} (h : tm[t]? = some (.bool w)) : AOk tm [(t, w)] := AOk.cons h (AOk.nil tm)
theorem undef_not_bool {b : Bool} : undef ≠ Value.bool b := by intro h; simp [undef] at h

theorem evA_rel {ρ : List Ghost} {s : S} {a : Act} {pend : Nat → Prop} (h : SRel ρ s a.tmps pend) {A : List (Nat × Bool)} (hA : AOk a.tmps A) (x : Operand) (hx : ∀ t, x = .tmp t → ¬ pend t) : VRel ρ (evA s A x) (a.eval x) := by
  cases x with
  | const v => exact ofConst_rel ρ v
  | global g => exact .any _
  | func f => exact .fn' (VsRel.nil ρ)
  | tmp x =>
    have hx := hx x rfl
    simp only [evA, nth_eq]
    split
    · split
      · rename_i e he
        split
        · rename_i hm
          obtain ⟨h1, h2⟩ := findG_mem he
          obtain ⟨y, hy, hr⟩ := (h.G e h1 (by rw [h2]; exact hx)).1 (hA _ _ (memA_mem hm))
          rw [h2] at hy
          simp only [Act.eval, Array.getD_eq_getD_getElem?, hy, Option.getD_some]
          exact hr
        · exact .any _
      · exact .any _
    · rename_i b hb
      obtain ⟨v, h1, h2⟩ := h.get hb hx
      simp only [Act.eval, Array.getD_eq_getD_getElem?, h1, Option.getD_some]
      cases h2
      exact .s (.b b)
    · rename_i v _ _ hv
      obtain ⟨u, h1, h2⟩ := h.get hv hx
      simp only [Act.eval, Array.getD_eq_getD_getElem?, h1, Option.getD_some]
      exact h2
    · exact .any _

/-! ### quiet operations, guarded or not -/
def aqS {X : Type} (P : Program) (s : S) (A : List (Nat × Bool)) (m : List (Blk X)) (o : Oper) : Option AV :=
  match o.op with
  | .pick (.tmp t) x y => apick (evA s A (.tmp t)) (evA s ((t, true) :: A) x) (evA s ((t, false) :: A) y)
  | _ => aq P (evA s A) m o

theorem vmerge_rel' {ρ : List Ghost} {t : Bool} {x y z : AV} {v u : Value} (h : vmerge t x y = some z) (hx : t = true → VRel ρ x v) (hy : t = false → VRel ρ y u) : VRel ρ z (if t then v else u) := by
  unfold vmerge at h
  split at h
  · split at h
    · rename_i z' hz
      cases h
      have hv := smerge_val hz
      cases t with
      | true => rw [(hx rfl).s_inv]; simp only [if_true]; simp only [cond_true] at hv; rw [← hv]; exact .s _
      | false => rw [(hy rfl).s_inv]; simp only [Bool.false_eq_true, if_false]; simp only [cond_false] at hv; rw [← hv]; exact .s _
    · simp at h
  · split at h <;> cases h
    · exact hx rfl
    · exact hy rfl


/-- The abstract side looks at an operation's operands alone. -/
theorem aq_congr {X : Type} {P : Program} {ev ev' : Operand → AV} {m : List (Blk X)} {o : Oper} (h : ∀ x ∈ o.op.operands, ev x = ev' x) : aq P ev m o = aq P ev' m o := by
  obtain ⟨dst, op, ty, pos, aft, guard⟩ := o
  simp only at h
  cases op <;> simp only [Op.operands] at h <;> simp only [aq]
  case move x => rw [h x (by simp)]
  case assign x => rw [h x (by simp)]
  case pick c a b => rw [h c (by simp), h a (by simp), h b (by simp)]
  case load t a => rw [h a (by simp)]
  case nilCheck x => rw [h x (by simp)]
  case binOp op t x y yt => rw [h x (by simp), h y (by simp)]
  case unOp op t x => rw [h x (by simp)]
  case convert s d x => rw [h x (by simp)]
  case makeInterface t x => rw [h x (by simp)]
  case makeFunc fn first captured =>
    have : captured.toList.map ev = captured.toList.map ev' := List.map_congr_left fun x hx => h x (by simp; right; simpa using hx)
    rw [this]
  case fieldAddr s x f => rw [h x (by simp)]
  case field t x f => rw [h x (by simp)]
  case indexAddr t x i => rw [h x (by simp), h i (by simp)]
  case index t x i => rw [h x (by simp), h i (by simp)]
  case build t parts =>
    have : (parts.toList.map fun p => (p.1, ev p.2)) = parts.toList.map fun p => (p.1, ev' p.2) := List.map_congr_left fun p hp => by
      rw [h p.2 (by simp; exact ⟨p.1, by simpa using hp⟩)]
    rw [this]
  case extract x i => rw [h x (by simp)]
  case slice t x l hi mx =>
    have e : ∀ (y : Option Operand), (∀ z, y = some z → ev z = ev' z) → y.map ev = y.map ev' := fun y hy => by
      cases y with
      | none => rfl
      | some z => simp [hy z rfl]
    rw [h x (by simp), e l (fun z hz => h z (by simp [hz])), e hi (fun z hz => h z (by simp [hz])), e mx (fun z hz => h z (by simp [hz]))]
  case call c =>
    simp only [Call.operands] at h
    split
    · rename_i hc
      split
      · rename_i x t hx ht; rw [h x (by have : c.args = #[x] := by apply Array.toList_inj.1; simpa using hx
                                        simp [this])]
      · rfl
    · rename_i hc
      split
      · rename_i x y hx
        have : c.args = #[x, y] := by apply Array.toList_inj.1; simpa using hx
        rw [h x (by simp [this]), h y (by simp [this])]
      · rfl
    · rename_i hc
      split
      · rename_i x y hx
        have : c.args = #[x, y] := by apply Array.toList_inj.1; simpa using hx
        rw [h x (by simp [this]), h y (by simp [this])]
      · rfl
    · rfl
theorem ae_congr {P : Program} {L : Lib C.X} (hL : LibSound C L) {ev ev' : Operand → AV} {m : List (Blk C.X)} {o : Oper} {K Kp : AV → List (Blk C.X) → Prop} (h : ∀ x ∈ o.op.operands, ev x = ev' x) : ae P L ev m o K Kp = ae P L ev' m o K Kp := by
  have hc := hL.congr (m := m) (o := o) (K := K) h
  obtain ⟨dst, op, ty, pos, aft, guard⟩ := o
  simp only at h
  cases op <;> simp only [Op.operands] at h <;> simp only [ae]
  case store t a x => rw [h a (by simp), h x (by simp)]
  case box t x => rw [h x (by simp)]
  case panic x => rw [h x (by simp)]
  case call c =>
    simp only [Call.operands] at h
    have hargs : c.args.toList.map ev = c.args.toList.map ev' := List.map_congr_left fun x hx => h x (by simp; right; simpa using hx)
    split
    · rename_i f hc; rw [h f (by simp [hc]), hargs]
    · rename_i r name hc; rw [h r (by simp [hc]), hargs]
    · rename_i hc
      split
      · rename_i s x st xt ha ht
        have : c.args = #[s, x] := by apply Array.toList_inj.1; simpa using ha
        rw [h s (by simp [this]), h x (by simp [this])]
      · rfl
    · exact hc
  all_goals exact hc

/-- The slots that an operation looks at hold what is said of them. -/
def Looks (ops : Array Oper) (o : Oper) (pend : Nat → Prop) : Prop := (∀ t, .tmp t ∈ o.op.operands → ¬ pend t) ∧ ∀ j w t, o.guard = some (j, w) → gslot ops j = some t → ¬ pend t

open Classical in
theorem aqS_sound {ρ : List Ghost} {m : List (Blk C.X)} {w : World} {fp : Nat → Prop} (hH : HRel C ρ m w fp) {s : S} {a : Act} {pend : Nat → Prop} (hS : SRel ρ s a.tmps pend) {A : List (Nat × Bool)} (hA : AOk a.tmps A) {o : Oper}
    (hl : ∀ t, .tmp t ∈ o.op.operands → ¬ pend t) {z : AV} (h : aqS C.P s A m o = some z) : ∃ v, (execOp a.eval o).run C.P w = .ok (.value v) w ∧ VRel ρ z v := by
  unfold aqS at h
  split at h
  · rename_i t x y ho
    have hl' : ∀ u, (u = .tmp t ∨ u = x ∨ u = y) → ∀ k, u = .tmp k → ¬ pend k := fun u hu k hk => hl k (by rw [ho, ← hk]; simp only [Op.operands]; rcases hu with rfl | rfl | rfl <;> simp)
    unfold apick at h
    split at h
    · rename_i b hc
      have hcr := evA_rel hS hA (.tmp t) (hl' _ (.inl rfl))
      rw [hc] at hcr
      have hcv : a.eval (.tmp t) = .bool b := hcr.s_inv
      have htm : a.tmps[t]? = some (.bool b) := by
        simp only [Act.eval, Array.getD_eq_getD_getElem?] at hcv
        cases he : a.tmps[t]? with
        | none => rw [he] at hcv; exact absurd hcv undef_not_bool
        | some u => rw [he] at hcv; simp at hcv; rw [hcv]
      refine ⟨if b then a.eval x else a.eval y, by simp [execOp, ho, hcv, asBool], vmerge_rel' h (fun hb => ?_) (fun hb => ?_)⟩
      · subst hb; exact evA_rel hS (AOk.cons htm hA) x (hl' _ (.inr (.inl rfl)))
      · subst hb; exact evA_rel hS (AOk.cons htm hA) y (hl' _ (.inr (.inr rfl)))
    · simp at h
  · let ev' : Operand → AV := fun x => if ∀ t, x = .tmp t → ¬ pend t then evA s A x else .any
    have hev : ∀ x, VRel ρ (ev' x) (a.eval x) := fun x => by
      by_cases hx : ∀ t, x = .tmp t → ¬ pend t
      · simp only [ev', if_pos hx]; exact evA_rel hS hA x hx
      · simp only [ev', if_neg hx]; exact .any _
    have : aq C.P (evA s A) m o = aq C.P ev' m o := aq_congr fun x hx => by
      have hx' : ∀ t, x = .tmp t → ¬ pend t := fun t ht => hl t (ht ▸ hx)
      simp only [ev', if_pos hx']
    rw [this] at h
    exact aq_sound hH hev h

/-! ### operations that may fail: the check is a test of its own, and the value is told without it -/
def isZ : SV → Bool
  | .u8 x => x == 0
  | .u16 x => x == 0
  | .u32 x => x == 0
  | .u64 x => x == 0
  | .i _ n => n == 0
  | _ => false
def sdivF (op : BinOp) (x y : SV) : Option SV :=
  match op with
  | .quo => match x, y with
    | .u8 x, .u8 y => some (.u8 (x / y))
    | .u16 x, .u16 y => some (.u16 (x / y))
    | .u32 x, .u32 y => some (.u32 (x / y))
    | .u64 x, .u64 y => some (.u64 (x / y))
    | .i k x, .i k' y => match kindEq k k' with
      | true => some (.i k (k.wrap (x.tdiv y)))
      | false => none
    | _, _ => none
  | .rem => match x, y with
    | .u8 x, .u8 y => some (.u8 (x % y))
    | .u16 x, .u16 y => some (.u16 (x % y))
    | .u32 x, .u32 y => some (.u32 (x % y))
    | .u64 x, .u64 y => some (.u64 (x % y))
    | .i k x, .i k' y => match kindEq k k' with
      | true => some (.i k (x.tmod y))
      | false => none
    | _, _ => none
  | _ => none
theorem sdivF_eq {op : BinOp} {x y r : SV} (hz : isZ y = false) (h : sdivF op x y = some r) : sbin op x y = some r := by
  unfold sdivF at h
  split at h
  · split at h <;> first | (simp at h; done) | skip
    all_goals (simp only [isZ, beq_eq_false_iff_ne, ne_eq] at hz)
    all_goals first
      | (split at h <;> first | (simp at h; done) | (cases h; rename_i hk; simp only [sbin, sbin2, hk, ib, hz, decide_false]))
      | (cases h; simp only [sbin, sbin2, ub]; rw [decide_eq_false hz])
  · split at h <;> first | (simp at h; done) | skip
    all_goals (simp only [isZ, beq_eq_false_iff_ne, ne_eq] at hz)
    all_goals first
      | (split at h <;> first | (simp at h; done) | (cases h; rename_i hk; simp only [sbin, sbin2, hk, ib, hz, decide_false]))
      | (cases h; simp only [sbin, sbin2, ub]; rw [decide_eq_false hz])
  · simp at h
def idxLen (P : Program) (t : TypeId) (x : AV) : Option Nat :=
  match P.underlying t with
  | some (.array len _) => some len
  | some (.slice _) => match x with
    | .sl _ _ _ len _ => some len
    | _ => none
  | _ => none
def idxDang (P : Program) (t : TypeId) (x i : AV) : Bool :=
  match anum i, idxLen P t x with
  | some n, some len => !(decide (0 ≤ n ∧ n < (len : Int)))
  | _, _ => false
def idxVal (P : Program) (t : TypeId) (x i : AV) : Option AV :=
  match anum i with
  | some n => match P.underlying t with
    | some (.array _ elem) => match x, szB P elem with
      | .ptr b off, some sz => some (.ptr b (off + n.toNat * sz))
      | _, _ => none
    | some (.slice elem) => match x, szB P elem with
      | .sl b off _ _ _, some sz => some (.ptr b (off + n.toNat * sz))
      | _, _ => none
    | _ => none
  | none => none
theorem idxVal_eq {P : Program} {t : TypeId} {x i z : AV} (hd : idxDang P t x i = false) (h : idxVal P t x i = some z) : aindexAddr P t x i = some z := by
  unfold idxVal at h
  unfold aindexAddr
  unfold idxDang idxLen at hd
  split at h
  · rename_i n hn
    rw [hn] at hd ⊢
    simp only
    split at h
    · rename_i len elem hu
      split at h
      · rename_i b off sz hsz
        rw [hu] at hd
        simp only [Bool.not_eq_false'] at hd
        simp only [hu, hsz, hd]
        exact h
      · simp at h
    · rename_i elem hu
      split at h
      · rename_i b off es len cap sz hsz
        rw [hu] at hd
        simp only [Bool.not_eq_false'] at hd
        simp only [hu, hsz, hd]
        exact h
      · simp at h
    · simp at h
  · simp at h
def hasAt {α : Type} : List α → Nat → Bool
  | [], _ => false
  | _ :: _, 0 => true
  | _ :: r, n + 1 => hasAt r n
def nthD (c : List SV) (n : Nat) : SV :=
  match nth c n with
  | some x => x
  | none => .b false
theorem hasAt_nth {c : List SV} {n : Nat} (h : hasAt c n = true) : nth c n = some (nthD c n) := by
  unfold nthD
  induction c generalizing n with
  | nil => simp [hasAt] at h
  | cons x r ih =>
    cases n with
    | zero => rfl
    | succ n =>
      simp only [hasAt] at h
      simp only [nth]
      exact ih h
def Blk.scal {X : Type} : Blk X → Option (List SV)
  | .flat c => some c
  | .vec c => some c
  | .ro c => some c
  | _ => none
/-- The scalars of which one is read. -/
def ldOf {X : Type} (P : Program) (t : TypeId) (m : List (Blk X)) (a : AV) : Option (List SV × Nat) :=
  match a with
  | .ptr i off => match nth m i with
    | some blk => match isAggB P t, blk.scal with
      | some false, some c => some (c, off)
      | _, _ => none
    | none => none
  | _ => none
theorem ldOf_eq {X : Type} {P : Program} {t : TypeId} {m : List (Blk X)} {i off n : Nat} {c : List SV} {blk : Blk X} (hb : nth m i = some blk) (h : ldOf P t m (.ptr i off) = some (c, n)) (hh : hasAt c n = true) : loadBlk P t blk off = some (.s (nthD c n)) := by
  simp only [ldOf, hb] at h
  split at h
  · rename_i c' ha hc
    simp only [Option.some.injEq, Prod.mk.injEq] at h
    obtain ⟨rfl, rfl⟩ := h
    simp only [loadBlk, ha]
    cases blk <;> simp only [Blk.scal, Option.some.injEq, reduceCtorEq] at hc
    all_goals (subst hc; simp only [Blk.cell, hasAt_nth hh])
  · simp at h
/-- Does it fail? -/
def opDang {X : Type} (P : Program) (ev : Operand → AV) (m : List (Blk X)) (o : Op) : Bool :=
  match o with
  | .binOp .shl _ _ y _ => match ev y with
    | .s (.i _ n) => ilt n 0
    | _ => false
  | .binOp .shr _ _ y _ => match ev y with
    | .s (.i _ n) => ilt n 0
    | _ => false
  | .binOp .quo _ _ y _ => match ev y with
    | .s b => isZ b
    | _ => false
  | .binOp .rem _ _ y _ => match ev y with
    | .s b => isZ b
    | _ => false
  | .indexAddr t x i => idxDang P t (ev x) (ev i)
  | .load t a => match ldOf P t m (ev a) with
    | some (c, n) => !(hasAt c n)
    | none => false
  | _ => false
def shCount (x : AV) : AV :=
  match x with
  | .s (.i k n) => .s (.i k (Int.ofNat n.toNat))
  | x => x
/-- What it comes to, if it doesn't. -/
def opVal {X : Type} (P : Program) (ev : Operand → AV) (m : List (Blk X)) (o : Oper) : Option AV :=
  match o.op with
  | .binOp .shl _ x y _ => match ev x, shCount (ev y) with
    | .s a, .s b => match sbin .shl a b with
      | some r => some (.s r)
      | none => none
    | _, _ => none
  | .binOp .shr _ x y _ => match ev x, shCount (ev y) with
    | .s a, .s b => match sbin .shr a b with
      | some r => some (.s r)
      | none => none
    | _, _ => none
  | .binOp .quo _ x y _ => match ev x, ev y with
    | .s a, .s b => match sdivF .quo a b with
      | some r => some (.s r)
      | none => none
    | _, _ => none
  | .binOp .rem _ x y _ => match ev x, ev y with
    | .s a, .s b => match sdivF .rem a b with
      | some r => some (.s r)
      | none => none
    | _, _ => none
  | .indexAddr t x i => idxVal P t (ev x) (ev i)
  | .load t a => match ldOf P t m (ev a) with
    | some (c, n) => some (.s (nthD c n))
    | none => aq P ev m o
  | _ => aq P ev m o
theorem shCount_self {x : AV} (h : (match x with | .s (.i _ n) => ilt n 0 | _ => false) = false) : shCount x = x := by
  unfold shCount
  split
  · rename_i k n
    simp only [ilt, decide_eq_false_iff_not, Int.not_lt] at h
    rw [show Int.ofNat n.toNat = n from Int.toNat_of_nonneg h]
  · rfl
theorem abin_sh {P : Program} {op : BinOp} {t : TypeId} {a b r : SV} (hop : op = .shl ∨ op = .shr) (h : sbin op a b = some r) : abin P op t (.s a) (.s b) = some (.s r) := by
  unfold abin
  simp only
  cases hb : a.isB with
  | false => simp only [h]
  | true =>
    exfalso
    cases a <;> simp [SV.isB] at hb
    rcases hop with rfl | rfl <;> simp only [sbin, shl1, shr1] at h <;> split at h <;> simp at h
theorem abin_dv {P : Program} {op : BinOp} {t : TypeId} {a b r : SV} (hz : isZ b = false) (h : sdivF op a b = some r) : abin P op t (.s a) (.s b) = some (.s r) := by
  unfold abin
  simp only
  cases hb : a.isB with
  | false => simp only [sdivF_eq hz h]
  | true =>
    exfalso
    cases a <;> simp [SV.isB] at hb
    unfold sdivF at h
    split at h <;> simp at h
theorem opVal_eq {X : Type} {P : Program} {ev : Operand → AV} {m : List (Blk X)} {o : Oper} {v : AV} (hd : opDang P ev m o.op = false) (h : opVal P ev m o = some v) : aq P ev m o = some v := by
  obtain ⟨dst, op, ty, pos, aft, guard⟩ := o
  have key : ∀ {bop t x y t2}, (bop = .shl ∨ bop = .shr) → op = .binOp bop t x y t2 → shCount (ev y) = ev y → (match ev x, shCount (ev y) with
    | .s a, .s b => match sbin bop a b with
      | some r => some (AV.s r)
      | none => none
    | _, _ => none) = some v → aq P ev m ⟨dst, op, ty, pos, aft, guard⟩ = some v := by
    intro bop t x y t2 hop ho he hm
    subst ho
    rw [he] at hm
    split at hm
    · rename_i a b ha hb
      split at hm
      · rename_i r hr
        cases hm
        simp only [aq, ha, hb]
        exact abin_sh hop hr
      · simp at hm
    · simp at hm
  have kdiv : ∀ {bop t x y t2}, op = .binOp bop t x y t2 → (match ev y with | .s b => isZ b | _ => false) = false → (match ev x, ev y with
    | .s a, .s b => match sdivF bop a b with
      | some r => some (AV.s r)
      | none => none
    | _, _ => none) = some v → aq P ev m ⟨dst, op, ty, pos, aft, guard⟩ = some v := by
    intro bop t x y t2 ho hz hm
    subst ho
    split at hm
    · rename_i a b ha hb
      rw [hb] at hz
      simp only at hz
      split at hm
      · rename_i r hr
        cases hm
        simp only [aq, ha, hb]
        exact abin_dv hz hr
      · simp at hm
    · simp at hm
  cases op with
  | binOp bop t x y t2 =>
    cases bop with
    | shl => exact key (.inl rfl) rfl (shCount_self hd) h
    | shr => exact key (.inr rfl) rfl (shCount_self hd) h
    | quo => exact kdiv rfl hd h
    | rem => exact kdiv rfl hd h
    | _ => exact h
  | indexAddr t x i =>
    simp only [aq]
    exact idxVal_eq hd h
  | load t a =>
    simp only [opVal] at h
    simp only [opDang] at hd
    split at h
    · rename_i c n hl
      rw [hl] at hd
      simp only [Bool.not_eq_false'] at hd
      cases h
      simp only [aq]
      cases ha : ev a with
      | ptr i off =>
        rw [ha] at hl
        simp only
        cases hb : nth m i with
        | none => simp [ldOf, hb] at hl
        | some blk => exact ldOf_eq hb hl hd
      | _ => rw [ha] at hl; simp [ldOf] at hl
    · exact h
  | _ => exact h
def aqSF {X : Type} (P : Program) (s : S) (A : List (Nat × Bool)) (m : List (Blk X)) (o : Oper) : Option AV :=
  match o.op with
  | .pick (.tmp _) _ _ => aqS P s A m o
  | _ => opVal P (evA s A) m o
theorem aqSF_eq {X : Type} {P : Program} {s : S} {A : List (Nat × Bool)} {m : List (Blk X)} {o : Oper} {v : AV} (hd : opDang P (evA s A) m o.op = false) (h : aqSF P s A m o = some v) : aqS P s A m o = some v := by
  unfold aqSF at h
  split at h
  · exact h
  · rename_i hne
    have := opVal_eq hd h
    unfold aqS
    split
    · rename_i t x y ho; exact absurd ho (hne t x y)
    · exact this

/-! ### one operation -/
def isQ : Op → Bool
  | .move _ => true
  | .assign _ => true
  | .pick _ _ _ => true
  | .load _ _ => true
  | .nilCheck _ => true
  | .binOp _ _ _ _ _ => true
  | .unOp _ _ _ => true
  | .convert _ _ _ => true
  | .makeInterface _ _ => true
  | .makeFunc _ _ _ => true
  | .fieldAddr _ _ _ => true
  | .field _ _ _ => true
  | .indexAddr _ _ _ => true
  | .index _ _ _ => true
  | .build _ _ => true
  | .extract _ _ => true
  | .slice _ _ _ _ _ => true
  | .call c => match c.callee with
    | .builtin .len => true
    | .builtin .min => true
    | .builtin .max => true
    | _ => false
  | _ => false
def isK : Operand → Bool
  | .const _ => true
  | _ => false
/-- May it be worked out ahead of its guard? -/
def isTotal : Op → Bool
  | .indexAddr _ _ i => isK i
  | .index _ _ i => isK i
  | .slice _ _ _ _ _ => false
  | .binOp .quo _ _ _ _ => false
  | .binOp .rem _ _ _ _ => false
  | .binOp .shl _ _ y _ => isK y
  | .binOp .shr _ _ y _ => isK y
  | _ => true
def quietO (o : Oper) : Bool :=
  match isQ o.op with
  | true => match o.guard with
    | none => true
    | some _ => isTotal o.op
  | false => false

inductive QV where
  | plain (v : AV)
  | grd (t : Nat) (w : Bool) (v : AV)
def qval {X : Type} (P : Program) (ops : Array Oper) (s : S) (m : List (Blk X)) (o : Oper) : Option QV :=
  match o.guard with
  | none => match aqS P s [] m o with
    | some v => some (.plain v)
    | none => none
  | some (j, w) => match gslot ops j with
    | some t => match nth s.env t with
      | some (.kb b) => match b == w with
        | true => match aqS P s [(t, w)] m o with
          | some v => some (.plain v)
          | none => none
        | false => some (.plain (.tup []))
      | some (.tup []) => some (.plain (.tup []))
      | _ => match aqS P s [(t, w)] m o with
        | some v => some (.grd t w v)
        | none => none
    | none => none
def qput (s : S) (dst : Option Tmp) : QV → S
  | .plain v => putS s dst v
  | .grd t w v => match dst with
    | some d => match nth s.env d with
      | some _ => putG s dst t w v
      | none => putS s dst .any
    | none => s

/-- An operation that turns memory, calls, or is not to be worked out ahead. -/
def bexec {X : Type} (P : Program) (L : Lib X) (s : S) (A : List (Nat × Bool)) (m : List (Blk X)) (o : Oper) (K : S → List (Blk X) → Prop) (Kp : AV → List (Blk X) → Prop) : Prop :=
  match isQ o.op with
  | true => match opDang P (evA s A) m o.op with
    | true => False
    | false => match aqSF P s A m o with
      | some v => K (putS s o.dst v) m
      | none => False
  | false => ae P L (evA s A) m o (fun v m' => K (putS s o.dst v) m') Kp
def bstep {X : Type} (P : Program) (L : Lib X) (ops : Array Oper) (s : S) (m : List (Blk X)) (o : Oper) (K : S → List (Blk X) → Prop) (Kp : AV → List (Blk X) → Prop) : Prop :=
  match o.guard with
  | none => bexec P L s [] m o K Kp
  | some (j, w) => match gslot ops j with
    | some t => match nth s.env t with
      | some (.kb b) => match b == w with
        | true => bexec P L s [(t, w)] m o K Kp
        | false => K (putS s o.dst (.tup [])) m
      | some (.tup []) => K (putS s o.dst (.tup [])) m
      | some (.s (.b b)) => match b with
        | true => match w with
          | true => bexec P L ⟨setAt s.env t (.kb true), s.G⟩ [(t, w)] m o K Kp
          | false => K (putS ⟨setAt s.env t (.kb true), s.G⟩ o.dst (.tup [])) m
        | false => match w with
          | false => bexec P L ⟨setAt s.env t (.kb false), s.G⟩ [(t, w)] m o K Kp
          | true => K (putS ⟨setAt s.env t (.kb false), s.G⟩ o.dst (.tup [])) m
      | _ => False
    | none => False

theorem gslot_yielded {ops : Array Oper} {tm : Array Value} {j t : Nat} (h : gslot ops j = some t) : yielded ops tm j = match tm[t]? with
    | some (.bool b) => some b
    | _ => none := by
  unfold gslot at h
  unfold yielded
  split at h
  · rename_i o ho; simp only [ho, Option.bind_some, h]; rfl
  · simp at h
theorem wanted_iff {ops : Array Oper} {tm : Array Value} {o : Oper} {j t : Nat} {w : Bool} (hg : o.guard = some (j, w)) (h : gslot ops j = some t) :
    Region.wanted o (yielded ops tm) = true ↔ tm[t]? = some (.bool w) := by
  simp only [Region.wanted, hg, gslot_yielded h]
  constructor
  · intro he
    split at he
    · rename_i b hb; simp at he; subst he; exact hb
    · simp at he
  · intro he
    rw [he]; simp


/-- What a quiet operation came to. -/
def QRel (ρ : List Ghost) (tm : Array Value) (qv : QV) (x : Value) : Prop :=
  match qv with
  | .plain v => VRel ρ v x
  | .grd t w v => (tm[t]? = some (.bool w) → VRel ρ v x) ∧ (tm[t]? ≠ some (.bool w) → x = undef)

/-- One quiet operation, done in the model. -/
theorem qstep_sound {ρ : List Ghost} {m : List (Blk C.X)} {w : World} {fp : Nat → Prop} (hH : HRel C ρ m w fp) {ops : Array Oper} {s : S} {a : Act} {pend : Nat → Prop} (hS : SRel ρ s a.tmps pend) {o : Oper} (hl : Looks ops o pend)
    {qv : QV} (h : qval C.P ops s m o = some qv) {K : Act → World → Prop} {Q : Exit → Act → World → Prop} {i : Nat} (hi : ops[i]? = some o) (hK : ∀ x, QRel ρ a.tmps qv x → K (a.put o.dst x) w) :
    wpOp C.P ops Q i K a w := by
  have plain : ∀ A v, AOk a.tmps A → aqS C.P s A m o = some v → Region.wanted o (yielded ops a.tmps) = true → (∀ x, QRel ρ a.tmps (.plain v) x → K (a.put o.dst x) w) → wpOp C.P ops Q i K a w := by
    intro A v hA hv hw hK
    obtain ⟨x, h1, h2⟩ := aqS_sound hH hS hA hl.1 hv
    unfold wpOp
    simp only [hi, hw, if_true]
    left
    unfold Oper.wp
    rw [h1]
    exact hK x h2
  have skip : Region.wanted o (yielded ops a.tmps) = false → (∀ x, QRel ρ a.tmps (.plain (.tup [])) x → K (a.put o.dst x) w) → wpOp C.P ops Q i K a w := by
    intro hw hK
    unfold wpOp
    simp only [hi, hw, Bool.false_eq_true, if_false]
    exact hK undef (.tup' (VsRel.nil ρ))
  unfold qval at h
  split at h
  · rename_i hg
    split at h
    · rename_i v hv
      cases h
      exact plain [] v (AOk.nil _) hv (by simp [Region.wanted, hg]) hK
    · simp at h
  · rename_i j wt hg
    split at h
    case h_2 => simp at h
    rename_i t ht
    have hwi := wanted_iff (tm := a.tmps) hg ht
    have hpt := hl.2 j wt t hg ht
    split at h
    · rename_i b hb
      rw [nth_eq] at hb
      obtain ⟨u, hu1, hu2⟩ := hS.get hb hpt
      cases hu2
      split at h
      · rename_i hbw
        have hbw' : b = wt := eq_of_beq hbw
        subst hbw'
        split at h
        · rename_i v hv
          cases h
          exact plain _ v (AOk.one hu1) hv (hwi.2 hu1) hK
        · simp at h
      · rename_i hbw
        cases h
        refine skip ?_ hK
        rw [Bool.eq_false_iff]
        intro hc
        have := hwi.1 hc
        rw [hu1] at this
        simp at this
        subst this
        simp at hbw
    · rename_i hb
      cases h
      rw [nth_eq] at hb
      obtain ⟨u, hu1, hu2⟩ := hS.get hb hpt
      obtain ⟨vs, rfl, hv⟩ := hu2.tup_inv
      refine skip ?_ hK
      rw [Bool.eq_false_iff]
      intro hc
      have := hwi.1 hc
      rw [hu1] at this
      simp at this
    · split at h
      case h_2 => simp at h
      rename_i v hv
      cases h
      by_cases hc : a.tmps[t]? = some (.bool wt)
      · obtain ⟨x, h1, h2⟩ := aqS_sound hH hS (AOk.one hc) hl.1 hv
        unfold wpOp
        simp only [hi, hwi.2 hc, if_true]
        left
        unfold Oper.wp
        rw [h1]
        exact hK x ⟨fun _ => h2, fun hn => absurd hc hn⟩
      · have hw : Region.wanted o (yielded ops a.tmps) = false := by rw [Bool.eq_false_iff]; exact fun h => hc (hwi.1 h)
        unfold wpOp
        simp only [hi, hw, Bool.false_eq_true, if_false]
        exact hK undef ⟨fun h => absurd h hc, fun _ => rfl⟩

/-! ### what is put -/
theorem put_get_ne (a : Act) {d k : Nat} (x : Value) (h : k ≠ d) : (a.put (some d) x).tmps[k]? = a.tmps[k]? := by simp only [Act.put]; exact Array.getElem?_setIfInBounds_ne (by omega)
theorem put_get_self (a : Act) {d : Nat} (x : Value) (h : d < a.tmps.size) : (a.put (some d) x).tmps[d]? = some x := by simp [Act.put, h]
theorem put_size (a : Act) (dst : Option Tmp) (x : Value) : (a.put dst x).tmps.size = a.tmps.size := by cases dst <;> simp [Act.put]
def minus (pend : Nat → Prop) (dst : Option Tmp) : Nat → Prop := fun k => pend k ∧ dst ≠ some k
theorem SRel.put {ρ : List Ghost} {s : S} {a : Act} {pend : Nat → Prop} (h : SRel ρ s a.tmps pend) {v : AV} {x : Value} (hv : VRel ρ v x) (dst : Option Tmp) : SRel ρ (putS s dst v) (a.put dst x).tmps (minus pend dst) := by
  cases dst with
  | none => exact ⟨h.len, fun k y u hk => h.env k y u (fun hp => hk ⟨hp, by simp⟩), fun e he hn => h.G e he (fun hp => hn ⟨hp, by simp⟩)⟩
  | some d =>
    refine ⟨by rw [put_size]; simp only [putS, setAt_eq, List.length_set]; exact h.len, fun k y u hk hy hu => ?_, fun e he hn => ?_⟩
    · simp only [putS, setAt_eq] at hy
      by_cases hkd : k = d
      · subst hkd
        have hl : k < s.env.length := by have := (List.getElem?_eq_some_iff.1 hy).1; simpa using this
        rw [List.getElem?_set_self hl] at hy
        rw [put_get_self a x (h.len ▸ hl)] at hu
        cases hy; cases hu; exact hv
      · rw [List.getElem?_set_ne (fun e => hkd e.symm)] at hy
        rw [put_get_ne a x hkd] at hu
        exact h.env k y u (fun hp => hk ⟨hp, fun e => hkd (by cases e; rfl)⟩) hy hu
    · obtain ⟨h1, h2, h3⟩ := filterG_mem he
      unfold GOk
      rw [put_get_ne a x h3, put_get_ne a x h2]
      exact h.G e h1 (fun hp => hn ⟨hp, fun e' => h2 (by cases e'; rfl)⟩)
theorem SRel.qput {ρ : List Ghost} {s : S} {a : Act} {pend : Nat → Prop} (h : SRel ρ s a.tmps pend) {qv : QV} {x : Value} (hv : QRel ρ a.tmps qv x) (dst : Option Tmp) : SRel ρ (AEv.qput s dst qv) (a.put dst x).tmps (minus pend dst) := by
  cases qv with
  | plain v => exact h.put hv dst
  | grd t w v =>
    have hp := h.put (VRel.any (ρ := ρ) x) dst
    cases dst with
    | none => exact ⟨h.len, fun k y u hk => h.env k y u (fun hp => hk ⟨hp, by simp⟩), fun e he hn => h.G e he (fun hp => hn ⟨hp, by simp⟩)⟩
    | some d =>
      simp only [AEv.qput]
      split
      · rename_i y hy
        rw [nth_eq] at hy
        have hl : d < a.tmps.size := by have := (List.getElem?_eq_some_iff.1 hy).1; rw [h.len] at this; exact this
        refine ⟨hp.len, hp.env, fun e he hn => ?_⟩
        simp only [putG] at he
        split at he
        · exact hp.G e he hn
        · rename_i hdt
          have hdt' : t ≠ d := fun e => by rw [e] at hdt; simp [Nat.beq_refl] at hdt
          rcases List.mem_cons.1 he with rfl | he
          · unfold GOk
            rw [put_get_ne a x hdt', put_get_self a x hl]
            exact ⟨fun ht => ⟨x, rfl, hv.1 ht⟩, fun ht => by rw [hv.2 ht]⟩
          · exact hp.G e he hn
      · exact hp

/-- What comes behind an operation: a state that stands for the slots, memory for the world. -/
def NextOk (C : Ctx) (ρ : List Ghost) (w : World) (fp : Nat → Prop) (pend : Nat → Prop) (K : S → List (Blk C.X) → Prop) (a' : Act) (w' : World) : Prop :=
  ∃ s m ρ' fp', K s m ∧ SRel ρ' s a'.tmps pend ∧ HRel C ρ' m w' fp' ∧ St ρ w fp ρ' w' fp'

open Classical in
theorem bexec_sound {L : Lib C.X} (hL : LibSound C L) {ρ : List Ghost} {m : List (Blk C.X)} {w : World} {fp : Nat → Prop} (hH : HRel C ρ m w fp) {s : S} {a : Act} {pend : Nat → Prop} (hS : SRel ρ s a.tmps pend) {o : Oper}
    (hl : ∀ t, .tmp t ∈ o.op.operands → ¬ pend t) {A : List (Nat × Bool)} (hA : AOk a.tmps A)
    {K : S → List (Blk C.X) → Prop} {Kp : AV → List (Blk C.X) → Prop} (h : bexec C.P L s A m o K Kp) {next : Act → World → Prop} {Q : Exit → Act → World → Prop}
    (hN : ∀ x w', NextOk C ρ w fp (minus pend o.dst) K (a.put o.dst x) w' → next (a.put o.dst x) w') (hQ : ∀ x w', Behind C ρ w fp Kp x w' → Q (.panic [{ v := x, recovered := false }]) a w') :
    o.upon C.P a next Q ((execOp a.eval o).run C.P w) := by
  unfold bexec at h
  split at h
  · split at h
    · exact h.elim
    rename_i hdg
    split at h
    · rename_i v hv0
      have hv := aqSF_eq hdg hv0
      obtain ⟨x, h1, h2⟩ := aqS_sound hH hS hA hl hv
      rw [h1]
      exact hN x w ⟨_, _, ρ, fp, h, hS.put h2 _, hH, .refl _ _ _⟩
    · exact h.elim
  · let ev' : Operand → AV := fun x => if ∀ t, x = .tmp t → ¬ pend t then evA s A x else .any
    have hev : ∀ x, VRel ρ (ev' x) (a.eval x) := fun x => by
      by_cases hx : ∀ t, x = .tmp t → ¬ pend t
      · simp only [ev', if_pos hx]; exact evA_rel hS hA x hx
      · simp only [ev', if_neg hx]; exact .any _
    rw [ae_congr hL (ev' := ev') (fun x hx => by
      have hx' : ∀ t, x = .tmp t → ¬ pend t := fun t ht => hl t (ht ▸ hx)
      simp only [ev', if_pos hx'])] at h
    refine ae_sound hL hH hev h ⟨fun x w' hb => ?_, hQ⟩
    obtain ⟨v, m', ρ', fp', hk, hst, hv, hh⟩ := hb
    exact hN x w' ⟨_, _, ρ', fp', hk, (hS.mono hst.pfx).put hv _, hh, hst⟩

theorem SRel.setkb {ρ : List Ghost} {s : S} {tm : Array Value} {pend : Nat → Prop} (h : SRel ρ s tm pend) {t : Nat} {b : Bool} (ht : nth s.env t = some (.s (.b b))) : SRel ρ ⟨setAt s.env t (.kb b), s.G⟩ tm pend := by
  refine ⟨by have := h.len; simpa [setAt_eq] using this, fun k y u hk hy hu => ?_, h.G⟩
  rw [setAt_eq] at hy
  rw [nth_eq] at ht
  by_cases hkt : k = t
  · subst hkt
    have hl := (List.getElem?_eq_some_iff.1 ht).1
    rw [List.getElem?_set_self hl] at hy
    cases hy
    have := h.env k _ u hk ht hu
    rw [this.s_inv]; exact .kb b
  · rw [List.getElem?_set_ne (fun e => hkt e.symm)] at hy
    exact h.env k y u hk hy hu

theorem bstep_sound {L : Lib C.X} (hL : LibSound C L) {ρ : List Ghost} {m : List (Blk C.X)} {w : World} {fp : Nat → Prop} (hH : HRel C ρ m w fp) {ops : Array Oper} {s : S} {a : Act} {pend : Nat → Prop} (hS : SRel ρ s a.tmps pend) {o : Oper} (hl : Looks ops o pend)
    {i : Nat} (hi : ops[i]? = some o)
    {K : S → List (Blk C.X) → Prop} {Kp : AV → List (Blk C.X) → Prop} (h : bstep C.P L ops s m o K Kp) {next : Act → World → Prop} {Q : Exit → Act → World → Prop}
    (hN : ∀ x w', NextOk C ρ w fp (minus pend o.dst) K (a.put o.dst x) w' → next (a.put o.dst x) w') (hQ : ∀ x w', Behind C ρ w fp Kp x w' → Q (.panic [{ v := x, recovered := false }]) a w') :
    wpOp C.P ops Q i next a w := by
  have run : ∀ s' A, AOk a.tmps A → SRel ρ s' a.tmps pend → bexec C.P L s' A m o K Kp → Region.wanted o (yielded ops a.tmps) = true → wpOp C.P ops Q i next a w := by
    intro s' A hA hs' hb hw
    unfold wpOp
    simp only [hi, hw, if_true]
    left
    exact bexec_sound hL hH hs' hl.1 hA hb hN hQ
  have skip : ∀ s', SRel ρ s' a.tmps pend → K (putS s' o.dst (.tup [])) m → Region.wanted o (yielded ops a.tmps) = false → wpOp C.P ops Q i next a w := by
    intro s' hs' hk hw
    unfold wpOp
    simp only [hi, hw, Bool.false_eq_true, if_false]
    exact hN undef w ⟨_, _, ρ, fp, hk, hs'.put (.tup' (VsRel.nil ρ)) _, hH, .refl _ _ _⟩
  unfold bstep at h
  split at h
  · rename_i hg
    exact run s [] (AOk.nil _) hS h (by simp [Region.wanted, hg])
  · rename_i j wt hg
    split at h
    case h_2 => exact h.elim
    rename_i t ht
    have hwi := wanted_iff (tm := a.tmps) hg ht
    have hpt := hl.2 j wt t hg ht
    have hno : ∀ v, a.tmps[t]? = some v → v ≠ .bool wt → Region.wanted o (yielded ops a.tmps) = false := by
      intro v hv hne
      rw [Bool.eq_false_iff]
      intro hc
      have := hwi.1 hc
      rw [hv] at this
      simp at this
      exact hne this
    split at h
    · rename_i b hb
      rw [nth_eq] at hb
      obtain ⟨u, hu1, hu2⟩ := hS.get hb hpt
      cases hu2
      split at h
      · rename_i hbw
        have hbw' : b = wt := eq_of_beq hbw
        subst hbw'
        exact run s _ (AOk.one hu1) hS h (hwi.2 hu1)
      · rename_i hbw
        refine skip s hS h (hno _ hu1 (fun he => ?_))
        cases he
        simp at hbw
    · rename_i hb
      rw [nth_eq] at hb
      obtain ⟨u, hu1, hu2⟩ := hS.get hb hpt
      obtain ⟨vs, rfl, hv⟩ := hu2.tup_inv
      exact skip s hS h (hno _ hu1 (by simp))
    · rename_i b hb
      have hb' := hb
      rw [nth_eq] at hb'
      obtain ⟨u, hu1, hu2⟩ := hS.get hb' hpt
      have hu2' : u = .bool b := hu2.s_inv
      subst hu2'
      have hs' := hS.setkb hb
      split at h
      · split at h
        · exact run _ _ (AOk.one hu1) hs' h (hwi.2 hu1)
        · exact skip _ hs' h (hno _ hu1 (by simp))
      · split at h
        · exact run _ _ (AOk.one hu1) hs' h (hwi.2 hu1)
        · exact skip _ hs' h (hno _ hu1 (by simp))
    · exact h.elim

def shDang {X : Type} (P : Program) (ops : Array Oper) (s : S) (m : List (Blk X)) (o : Oper) : Bool :=
  match o.guard with
  | none => opDang P (evA s []) m o.op
  | some (j, w) => match isTotal o.op with
    | true => false
    | false => match gslot ops j with
      | some t => match nth s.env t with
        | some (.kb b) => match b == w with
          | true => opDang P (evA s [(t, w)]) m o.op
          | false => false
        | _ => false
      | none => false
def qvalF {X : Type} (P : Program) (ops : Array Oper) (s : S) (m : List (Blk X)) (o : Oper) : Option QV :=
  match o.guard with
  | none => match aqSF P s [] m o with
    | some v => some (.plain v)
    | none => none
  | some (j, w) => match isTotal o.op with
    | true => qval P ops s m o
    | false => match gslot ops j with
      | some t => match nth s.env t with
        | some (.kb b) => match b == w with
          | true => match aqSF P s [(t, w)] m o with
            | some v => some (.plain v)
            | none => none
          | false => some (.plain (.tup []))
        | some (.tup []) => some (.plain (.tup []))
        | _ => none
      | none => none
theorem qvalF_qval {X : Type} {P : Program} {ops : Array Oper} {s : S} {m : List (Blk X)} {o : Oper} {qv : QV} (hd : shDang P ops s m o = false) (h : qvalF P ops s m o = some qv) : qval P ops s m o = some qv := by
  unfold shDang at hd
  unfold qvalF at h
  split at h
  · rename_i hg
    rw [hg] at hd
    simp only at hd
    split at h
    · rename_i v hv
      have := aqSF_eq hd hv
      simp only [qval, hg, this]
      exact h
    · simp at h
  · rename_i j w hg
    rw [hg] at hd
    simp only at hd
    split at h
    · exact h
    · rename_i ht
      rw [ht] at hd
      simp only at hd
      split at h
      case h_2 => simp at h
      rename_i t hgs
      rw [hgs] at hd
      simp only at hd
      split at h
      · rename_i b hb
        rw [hb] at hd
        simp only at hd
        split at h
        · rename_i hbw
          rw [hbw] at hd
          simp only at hd
          split at h
          · rename_i v hv
            have := aqSF_eq hd hv
            simp only [qval, hg, hgs, hb, hbw, this]
            exact h
          · simp at h
        · rename_i hbw
          simp only [qval, hg, hgs, hb, hbw]
          exact h
      · rename_i hb
        simp only [qval, hg, hgs, hb]
        exact h
      · simp at h
/-- Is it one that may be worked out ahead, in a region that draws: its check is made where its guard is known. -/
def isChk : Op → Bool
  | .binOp .shl _ _ _ _ => true
  | .binOp .shr _ _ _ _ => true
  | .binOp .quo _ _ _ _ => true
  | .binOp .rem _ _ _ _ => true
  | .indexAddr _ _ _ => true
  | _ => false
def quietD (o : Oper) : Bool :=
  match isQ o.op with
  | true => match o.guard with
    | none => true
    | some _ => match isTotal o.op with
      | true => true
      | false => isChk o.op
  | false => false
/-- A guard that is to be known first. -/
def splitOn (ops : Array Oper) (s : S) (o : Oper) : Option (Nat × Bool) :=
  match o.guard with
  | none => none
  | some (j, _) => match isTotal o.op with
    | true => none
    | false => match gslot ops j with
      | some t => match nth s.env t with
        | some (.s (.b b)) => some (t, b)
        | _ => none
      | none => none
theorem splitOn_at {ops : Array Oper} {s : S} {o : Oper} {t : Nat} {b : Bool} (h : splitOn ops s o = some (t, b)) : nth s.env t = some (.s (.b b)) := by
  unfold splitOn at h
  split at h
  · simp at h
  · split at h
    · simp at h
    · split at h
      · split at h
        · rename_i hb; simp at h; obtain ⟨rfl, rfl⟩ := h; exact hb
        · simp at h
      · simp at h

/-! ### in the order of the text -/
def aLex {X : Type} (P : Program) (L : Lib X) (ops : Array Oper) (Q : List AV → List (Blk X) → Prop) (Kp : AV → List (Blk X) → Prop) : List Oper → S → List (Blk X) → Prop
  | [], s, m => Q s.env m
  | o :: rest, s, m => match quietO o with
    | true => match shDang P ops s m o with
      | true => False
      | false => match qvalF P ops s m o with
        | some qv => aLex P L ops Q Kp rest (qput s o.dst qv) m
        | none => False
    | false => bstep P L ops s m o (fun s' m' => aLex P L ops Q Kp rest s' m') Kp


theorem looks_none (ops : Array Oper) (o : Oper) : Looks ops o none' := ⟨fun _ _ h => h, fun _ _ _ _ _ h => h⟩
theorem minus_none (dst : Option Tmp) : minus none' dst = none' := by funext k; simp [minus, none']

theorem aLex_sound {L : Lib C.X} (hL : LibSound C L) {ops : Array Oper} {Q : List AV → List (Blk C.X) → Prop} {Kp : AV → List (Blk C.X) → Prop} {Q' : Exit → Act → World → Prop} {ρ₀ : List Ghost} {w₀ : World} {fp₀ : Nat → Prop} {D : List Deferred}
    (hQ : ∀ s m ρ fp a w, Q s.env m → SRel ρ s a.tmps none' → a.defers = D → HRel C ρ m w fp → St ρ₀ w₀ fp₀ ρ w fp → Q' .normal a w)
    (hP : ∀ a x w, a.defers = D → Behind C ρ₀ w₀ fp₀ Kp x w → Q' (.panic [{ v := x, recovered := false }]) a w) :
    ∀ (l : List Oper) (k : Nat) (s : S) (m : List (Blk C.X)) (ρ : List Ghost) (fp : Nat → Prop) (a : Act) (w : World), (∀ j, l[j]? = ops[k + j]?) → aLex C.P L ops Q Kp l s m → SRel ρ s a.tmps none' → a.defers = D → HRel C ρ m w fp → St ρ₀ w₀ fp₀ ρ w fp →
      wpOps C.P ops Q' ((List.range l.length).map (k + ·)) a w
  | [], k, s, m, ρ, fp, a, w, hl, h, hS, hd, hH, hst => by
    simp only [List.length_nil, List.range_zero, List.map_nil, wpOps]
    exact hQ s m ρ fp a w h hS hd hH hst
  | o :: rest, k, s, m, ρ, fp, a, w, hl, h, hS, hd, hH, hst => by
    have hi : ops[k]? = some o := by have := hl 0; simpa using this.symm
    have hl' : ∀ j, rest[j]? = ops[k + 1 + j]? := fun j => by have := hl (j + 1); simp at this; rw [this]; congr 1; omega
    have hdp : ∀ x, (a.put o.dst x).defers = D := fun x => by cases o.dst <;> exact hd
    rw [List.length_cons, List.range_succ_eq_map, List.map_cons, List.map_map, Nat.add_zero, wpOps_cons]
    have hm : (List.range rest.length).map ((k + ·) ∘ Nat.succ) = (List.range rest.length).map (k + 1 + ·) := by
      apply List.map_congr_left; intro j _; simp; omega
    rw [hm]
    simp only [aLex] at h
    split at h
    · split at h
      · exact h.elim
      rename_i hdg
      split at h
      · rename_i qv hq
        replace hq := qvalF_qval hdg hq
        refine qstep_sound hH hS (looks_none _ _) hq hi (fun x hx => aLex_sound hL hQ hP rest (k + 1) _ m ρ fp _ w hl' h ?_ (hdp x) hH hst)
        have := hS.qput hx o.dst
        rwa [minus_none] at this
      · exact h.elim
    · refine bstep_sound hL hH hS (looks_none _ _) hi h (fun x w' hn => ?_) (fun x w' hb => hP a x w' hd ?_)
      · obtain ⟨s', m', ρ', fp', hk, hs', hh', hst'⟩ := hn
        rw [minus_none] at hs'
        exact aLex_sound hL hQ hP rest (k + 1) s' m' ρ' fp' _ w' hl' hk hs' (hdp x) hh' (hst.trans hst')
      · obtain ⟨v, m', ρ', fp', hk, hst', hv, hh⟩ := hb
        exact ⟨v, m', ρ', fp', hk, hst.trans hst', hv, hh⟩
end Go.AEv
