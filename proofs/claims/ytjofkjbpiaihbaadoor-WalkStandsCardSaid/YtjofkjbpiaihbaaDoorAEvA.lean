/-
  Abstract values, abstract memory, and how they stand for the model's values and world. One plain sentence: what is proved here is that the relations are kept when memory grows.
-/
import Derived.Calls
import Derived.Orders
import Derived.ScopeJumps
import Derived.Laws.Cells
import Derived.Laws.AppendOwn
import Derived.Laws.IdiomCopy
namespace Go.AEv
open Go

/-! ### lists -/
def nth {α : Type} : List α → Nat → Option α
  | [], _ => none
  | x :: _, 0 => some x
  | _ :: r, n + 1 => nth r n
def setAt {α : Type} : List α → Nat → α → List α
  | [], _, _ => []
  | _ :: r, 0, y => y :: r
  | x :: r, n + 1, y => x :: setAt r n y
def takeX {α : Type} : Nat → List α → Option (List α)
  | 0, _ => some []
  | n + 1, x :: r => match takeX n r with
    | some l => some (x :: l)
    | none => none
  | _ + 1, [] => none
def dropX {α : Type} : Nat → List α → List α
  | 0, l => l
  | _ + 1, [] => []
  | n + 1, _ :: r => dropX n r
def sliceL {α : Type} (l : List α) (off n : Nat) : Option (List α) := takeX n (dropX off l)
def putL {α : Type} : List α → Nat → List α → List α
  | l, _, [] => l
  | l, off, v :: vs => putL (setAt l off v) (off + 1) vs

theorem nth_eq {α : Type} : ∀ (l : List α) (n : Nat), nth l n = l[n]?
  | [], _ => by simp [nth]
  | _ :: _, 0 => by simp [nth]
  | _ :: r, n + 1 => by simp [nth, nth_eq r n]
theorem setAt_eq {α : Type} : ∀ (l : List α) (n : Nat) (y : α), setAt l n y = l.set n y
  | [], _, _ => by simp [setAt]
  | _ :: _, 0, _ => by simp [setAt]
  | _ :: r, n + 1, y => by simp [setAt, setAt_eq r n y]
theorem takeX_eq {α : Type} : ∀ (n : Nat) (l x : List α), takeX n l = some x → x = l.take n ∧ n ≤ l.length
  | 0, _, _, h => by simp [takeX] at h; simp [← h]
  | n + 1, [], _, h => by simp [takeX] at h
  | n + 1, y :: r, x, h => by
    simp only [takeX] at h
    cases hr : takeX n r with
    | none => simp [hr] at h
    | some l =>
      simp [hr] at h
      obtain ⟨rfl, hn⟩ := takeX_eq n r l hr
      subst h
      simp [hn]
theorem dropX_eq {α : Type} : ∀ (n : Nat) (l : List α), dropX n l = l.drop n
  | 0, _ => by simp [dropX]
  | n + 1, [] => by simp [dropX]
  | n + 1, _ :: r => by simp [dropX, dropX_eq n r]
theorem sliceL_eq {α : Type} {l x : List α} {off n : Nat} (h : sliceL l off n = some x) : x = (l.drop off).take n ∧ (n = 0 ∨ off + n ≤ l.length) := by
  unfold sliceL at h
  obtain ⟨h1, h2⟩ := takeX_eq _ _ _ h
  rw [dropX_eq] at h1 h2
  refine ⟨h1, ?_⟩
  simp at h2
  omega
theorem sliceL_get {α : Type} {l x : List α} {off n : Nat} (h : sliceL l off n = some x) : x.length = n ∧ ∀ k, k < n → x[k]? = l[off + k]? := by
  obtain ⟨h1, h2⟩ := sliceL_eq h
  subst h1
  refine ⟨by simp; omega, fun k hk => ?_⟩
  simp [hk]
theorem putL_length {α : Type} : ∀ (vs l : List α) (off : Nat), (putL l off vs).length = l.length
  | [], _, _ => by simp [putL]
  | v :: vs, l, off => by simp [putL, putL_length vs, setAt_eq]
theorem putL_get {α : Type} : ∀ (vs l : List α) (off : Nat), off + vs.length ≤ l.length → ∀ k, (putL l off vs)[k]? = if off ≤ k ∧ k < off + vs.length then vs[k - off]? else l[k]?
  | [], l, off, _, k => by simp [putL]; intro _ _; omega
  | v :: vs, l, off, h, k => by
    simp only [putL]
    rw [putL_get vs _ _ (by simp [setAt_eq] at *; omega), setAt_eq]
    simp only [List.length_cons] at *
    by_cases hk : off + 1 ≤ k ∧ k < off + 1 + vs.length
    · rw [if_pos hk, if_pos (by omega)]
      rw [show k - off = (k - (off + 1)) + 1 by omega]; simp
    · rw [if_neg hk]
      by_cases he : k = off
      · subst he; simp [show k < l.length by omega]
      · rw [if_neg (by omega)]; simp [show ¬ off = k by omega]

/-! ### values -/
inductive SV where
  | b (x : Bool)
  | u8 (x : BitVec 8) | u16 (x : BitVec 16) | u32 (x : BitVec 32) | u64 (x : BitVec 64)
  | i (k : IntKind) (x : Int)
  | str (s : ByteArray)
def SV.val : SV → Value
  | .b x => .bool x
  | .u8 x => .int .u8 x.toNat
  | .u16 x => .int .u16 x.toNat
  | .u32 x => .int .u32 x.toNat
  | .u64 x => .int .u64 x.toNat
  | .i k x => .int k x
  | .str s => .string s
inductive AV where
  | s (x : SV)
  | ptr (i off : Nat) | nilp
  | sl (i off es len : Nat) (cap : Option Nat)
  | mp (i : Nat) | nilm
  | fn (f : Fn) (caps : List AV) | nilf
  | ifc (t : TypeId) (v : AV) | nilif
  | agg (c : List AV)
  | tup (c : List AV)
  | opq (i : Nat)
  | any
  | kb (b : Bool)
structure Ghost where
  b : Nat
  o : Nat
  n : Nat
  v : Value
inductive VRel (ρ : List Ghost) : AV → Value → Prop
  | s (x : SV) : VRel ρ (.s x) x.val
  | ptr {i off : Nat} {g : Ghost} (h : ρ[i]? = some g) : VRel ρ (.ptr i off) (.pointer (some ⟨g.b, g.o + off, none⟩))
  | nilp : VRel ρ .nilp (.pointer none)
  | sl {i off es len c : Nat} {cap : Option Nat} {g : Ghost} (h : ρ[i]? = some g) (hl : len ≤ c) (hc : ∀ k, cap = some k → c = k) (hn : off + es * c ≤ g.n) :
      VRel ρ (.sl i off es len cap) (.slice (some ⟨g.b, g.o + off, none⟩) len c)
  | sl0 {i off es : Nat} {cap : Option Nat} {a : Option Addr} (hc : ∀ k, cap = some k → k = 0) : VRel ρ (.sl i off es 0 cap) (.slice a 0 0)
  | mp {i : Nat} {g : Ghost} (h : ρ[i]? = some g) : VRel ρ (.mp i) (.map (some g.b))
  | nilm : VRel ρ .nilm (.map none)
  | fn {f : Fn} {cs : List AV} {vs : Array Value} (hl : cs.length = vs.size) (h : ∀ (k : Nat) (x : AV) (v : Value), cs[k]? = some x → vs[k]? = some v → VRel ρ x v) : VRel ρ (.fn f cs) (.func f #[] vs)
  | nilf : VRel ρ .nilf .nilFunc
  | ifc {t : TypeId} {x : AV} {v : Value} (h : VRel ρ x v) : VRel ρ (.ifc t x) (.iface t v)
  | nilif : VRel ρ .nilif .nilIface
  | agg {cs : List AV} {vs : Array Value} (hl : cs.length = vs.size) (h : ∀ (k : Nat) (x : AV) (v : Value), cs[k]? = some x → vs[k]? = some v → VRel ρ x v) : VRel ρ (.agg cs) (.agg vs)
  | tup {cs : List AV} {vs : Array Value} (hl : cs.length = vs.size) (h : ∀ (k : Nat) (x : AV) (v : Value), cs[k]? = some x → vs[k]? = some v → VRel ρ x v) : VRel ρ (.tup cs) (.tuple vs)
  | opq {i : Nat} {g : Ghost} (h : ρ[i]? = some g) : VRel ρ (.opq i) g.v
  | any (v : Value) : VRel ρ .any v
  | kb (b : Bool) : VRel ρ (.kb b) (.bool b)

def Pfx (ρ ρ' : List Ghost) : Prop := ∃ e, ρ' = ρ ++ e
theorem Pfx.refl (ρ : List Ghost) : Pfx ρ ρ := ⟨[], by simp⟩
theorem Pfx.trans {a b c : List Ghost} (h : Pfx a b) (h' : Pfx b c) : Pfx a c := by
  obtain ⟨e, rfl⟩ := h; obtain ⟨f, rfl⟩ := h'; exact ⟨e ++ f, by simp⟩
theorem Pfx.get {ρ ρ' : List Ghost} (h : Pfx ρ ρ') {i : Nat} {g : Ghost} (hg : ρ[i]? = some g) : ρ'[i]? = some g := by
  obtain ⟨e, rfl⟩ := h
  rw [List.getElem?_append_left (by obtain ⟨hl, _⟩ := List.getElem?_eq_some_iff.1 hg; exact hl)]
  exact hg
theorem Pfx.length {ρ ρ' : List Ghost} (h : Pfx ρ ρ') : ρ.length ≤ ρ'.length := by obtain ⟨e, rfl⟩ := h; simp
theorem VRel.mono {ρ ρ' : List Ghost} (hp : Pfx ρ ρ') {x : AV} {v : Value} (h : VRel ρ x v) : VRel ρ' x v := by
  induction h with
  | s x => exact .s x
  | ptr h => exact .ptr (hp.get h)
  | nilp => exact .nilp
  | sl h hl hc hn => exact .sl (hp.get h) hl hc hn
  | sl0 hc => exact .sl0 hc
  | mp h => exact .mp (hp.get h)
  | nilm => exact .nilm
  | fn hl _ ih => exact .fn hl ih
  | nilf => exact .nilf
  | ifc _ ih => exact .ifc ih
  | nilif => exact .nilif
  | agg hl _ ih => exact .agg hl ih
  | tup hl _ ih => exact .tup hl ih
  | opq h => exact .opq (hp.get h)
  | any v => exact .any v
  | kb b => exact .kb b

/-- A list of values stands for a list of abstract ones. -/
def VsRel (ρ : List Ghost) (cs : List AV) (vs : List Value) : Prop := cs.length = vs.length ∧ ∀ (k : Nat) (x : AV) (v : Value), cs[k]? = some x → vs[k]? = some v → VRel ρ x v
theorem VsRel.mono {ρ ρ' : List Ghost} (hp : Pfx ρ ρ') {cs : List AV} {vs : List Value} (h : VsRel ρ cs vs) : VsRel ρ' cs vs :=
  ⟨h.1, fun k x v hx hv => (h.2 k x v hx hv).mono hp⟩
theorem VsRel.nil (ρ : List Ghost) : VsRel ρ [] [] := ⟨rfl, fun _ _ _ h => by simp at h⟩
theorem VsRel.cons {ρ : List Ghost} {x : AV} {v : Value} {cs : List AV} {vs : List Value} (h : VRel ρ x v) (hs : VsRel ρ cs vs) : VsRel ρ (x :: cs) (v :: vs) := by
  refine ⟨by simp [hs.1], fun k x' v' hx hv => ?_⟩
  cases k with
  | zero => simp at hx hv; subst hx; subst hv; exact h
  | succ k => simp at hx hv; exact hs.2 k x' v' hx hv
theorem VsRel.append {ρ : List Ghost} {cs ds : List AV} {vs us : List Value} (h : VsRel ρ cs vs) (h' : VsRel ρ ds us) : VsRel ρ (cs ++ ds) (vs ++ us) := by
  refine ⟨by simp [h.1, h'.1], fun k x v hx hv => ?_⟩
  by_cases hk : k < cs.length
  · rw [List.getElem?_append_left hk] at hx
    rw [List.getElem?_append_left (h.1 ▸ hk)] at hv
    exact h.2 k x v hx hv
  · rw [List.getElem?_append_right (by omega)] at hx
    rw [List.getElem?_append_right (by have := h.1; omega)] at hv
    rw [← h.1] at hv
    exact h'.2 _ x v hx hv
theorem VsRel.get {ρ : List Ghost} {cs : List AV} {vs : List Value} (h : VsRel ρ cs vs) {k : Nat} {x : AV} (hx : cs[k]? = some x) : ∃ v, vs[k]? = some v ∧ VRel ρ x v := by
  obtain ⟨hl, _⟩ := List.getElem?_eq_some_iff.1 hx
  have hk : k < vs.length := h.1 ▸ hl
  exact ⟨vs[k], by simp [hk], h.2 k x _ hx (by simp [hk])⟩
theorem VsRel.take {ρ : List Ghost} {cs ds : List AV} {vs : List Value} {off n : Nat} (h : VsRel ρ cs vs) (hd : sliceL cs off n = some ds) :
    VsRel ρ ds ((vs.drop off).take n) := by
  obtain ⟨h1, h2⟩ := sliceL_eq hd
  subst h1
  refine ⟨by simp [h.1], fun k x v hx hv => ?_⟩
  by_cases hk : k < n
  · simp [hk] at hx hv
    exact h.2 _ x v hx hv
  · rw [List.getElem?_take, if_neg hk] at hx; simp at hx
theorem VsRel.put {ρ : List Ghost} {cs ds : List AV} {vs us : List Value} {off : Nat} (h : VsRel ρ cs vs) (hd : VsRel ρ ds us) (hb : off + ds.length ≤ cs.length) :
    VsRel ρ (putL cs off ds) (putL vs off us) := by
  refine ⟨by simp [putL_length, h.1], fun k x v hx hv => ?_⟩
  rw [putL_get _ _ _ hb] at hx
  rw [putL_get _ _ _ (by rw [← hd.1, ← h.1]; exact hb)] at hv
  rw [← hd.1] at hv
  split at hx
  · rename_i hk; rw [if_pos hk] at hv; exact hd.2 _ x v hx hv
  · rename_i hk; rw [if_neg hk] at hv; exact h.2 _ x v hx hv
theorem vsRel_s (ρ : List Ghost) (c : List SV) : VsRel ρ (c.map .s) (c.map SV.val) := by
  refine ⟨by simp, fun k x v hx hv => ?_⟩
  simp at hx hv
  obtain ⟨y, hy, rfl⟩ := hx
  obtain ⟨z, hz, rfl⟩ := hv
  rw [hy] at hz; cases hz
  exact .s y

/-! ### memory -/
inductive Blk (X : Type) where
  | dead
  | row (c : List AV)
  | flat (c : List SV)
  | vec (c : List SV)
  | ro (c : List SV)
  | rrow (c : List AV)
  | ext (x : X)

/-- What the evaluation is about: the program, the objects of one's own, what of the world is kept. -/
structure Ctx where
  P : Program
  X : Type
  rel : X → List Ghost → Ghost → World → (Nat → Prop) → (Nat → Prop) → Prop
  frame : ∀ {x ρ g w w' W R}, rel x ρ g w W R → (∀ b, W b ∨ R b → w'.heap[b]? = w.heap[b]?) → rel x ρ g w' W R
  mono : ∀ {x ρ ρ' g w W R}, rel x ρ g w W R → Pfx ρ ρ' → rel x ρ' g w W R
  scp : Nat → X → Bool
  take : ∀ {x ρ g w W R n}, rel x ρ g w W R → scp n x = true → rel x (ρ.take n) g w W R
  nG : Nat
  Inv : World → Prop
  invFrame : ∀ {w w' : World}, Inv w → (∀ b, b < nG → w'.heap[b]? = w.heap[b]?) → Inv w'

def Seg (w : World) (b o : Nat) (vs : List Value) : Prop := ∀ k, k < vs.length → w.cell? ⟨b, o + k, none⟩ = vs[k]?
def Unfrozen (w : World) (b o n : Nat) : Prop := ∀ k, k < n → w.frozen? ⟨b, o + k, none⟩ = false

variable (C : Ctx)

def BRel (ρ : List Ghost) (g : Ghost) (w : World) (blk : Blk C.X) (W R : Nat → Prop) : Prop :=
  match blk with
  | .dead => (∀ b, ¬ W b) ∧ (∀ b, ¬ R b)
  | .row c => (∃ vs, VsRel ρ c vs ∧ Seg w g.b g.o vs ∧ Unfrozen w g.b g.o vs.length) ∧ g.n = c.length ∧ (∀ b, W b ↔ b = g.b) ∧ ∀ b, ¬ R b
  | .flat c => Seg w g.b g.o (c.map SV.val) ∧ Unfrozen w g.b g.o c.length ∧ g.n = c.length ∧ (∀ b, W b ↔ b = g.b) ∧ ∀ b, ¬ R b
  | .vec c => Seg w g.b g.o (c.map SV.val) ∧ Unfrozen w g.b g.o g.n ∧ c.length ≤ g.n ∧ (∀ k, k < g.n → (w.cell? ⟨g.b, g.o + k, none⟩).isSome = true) ∧ (∀ b, W b ↔ b = g.b ∧ g.n ≠ 0) ∧ ∀ b, ¬ R b
  | .ro c => Seg w g.b g.o (c.map SV.val) ∧ (∀ b, ¬ W b) ∧ ∀ b, R b ↔ b = g.b ∧ c ≠ []
  | .rrow c => (∃ vs, VsRel ρ c vs ∧ Seg w g.b g.o vs) ∧ (∀ b, ¬ W b) ∧ ∀ b, R b ↔ b = g.b ∧ c ≠ []
  | .ext x => C.rel x ρ g w W R

structure HSep (ρ : List Ghost) (m : List (Blk C.X)) (w : World) (W R : Nat → Nat → Prop) : Prop where
  len : ρ.length = m.length
  blk : ∀ i blk g, m[i]? = some blk → ρ[i]? = some g → BRel C ρ g w blk (W i) (R i)
  out : ∀ i b, m.length ≤ i → ¬ W i b ∧ ¬ R i b
  ww : ∀ i j b, W i b → W j b → i = j
  wr : ∀ i j b, W i b → ¬ R j b
  lt : ∀ i b, W i b ∨ R i b → b < w.heap.size
  ge : ∀ i b, W i b → C.nG ≤ b
  inv : C.Inv w
  nGle : C.nG ≤ w.heap.size

def HRel (ρ : List Ghost) (m : List (Blk C.X)) (w : World) (fp : Nat → Prop) : Prop :=
  ∃ W R, HSep C ρ m w W R ∧ ∀ i b, W i b → fp b

/-- What a piece of code may do to the world: new blocks; of the elder ones only those of 'fp' are turned. -/
structure Fr (fp : Nat → Prop) (w w' : World) : Prop where
  size : w.heap.size ≤ w'.heap.size
  keep : ∀ b, b < w.heap.size → ¬ fp b → w'.heap[b]? = w.heap[b]?
  tape : w'.tape = w.tape
  os : w'.os = w.os
  out : w'.output = w.output
theorem Fr.refl (fp : Nat → Prop) (w : World) : Fr fp w w := ⟨Nat.le_refl _, fun _ _ _ => rfl, rfl, rfl, rfl⟩
theorem Fr.trans {fp fp' : Nat → Prop} {w w' w'' : World} (h : Fr fp w w') (h' : Fr fp' w' w'') (hfp : ∀ b, fp' b → fp b ∨ w.heap.size ≤ b) : Fr fp w w'' :=
  ⟨Nat.le_trans h.size h'.size, fun b hb hn => by
    rw [h'.keep b (Nat.lt_of_lt_of_le hb h.size) (fun hf => by rcases hfp b hf with h1 | h1; exact hn h1; omega), h.keep b hb hn],
    h'.tape.trans h.tape, h'.os.trans h.os, h'.out.trans h.out⟩

theorem Seg.congr {w w' : World} {b o : Nat} {vs : List Value} (h : Seg w b o vs) (hb : w'.heap[b]? = w.heap[b]?) : Seg w' b o vs := fun k hk => by
  rw [World.cell?_of_block (w := w) (w' := w') hb]; exact h k hk
theorem frozen?_of_block {w w' : World} {a : Addr} (h : w'.heap[a.block]? = w.heap[a.block]?) : w'.frozen? a = w.frozen? a := by simp [World.frozen?, h]
theorem Unfrozen.congr {w w' : World} {b o n : Nat} (h : Unfrozen w b o n) (hb : w'.heap[b]? = w.heap[b]?) : Unfrozen w' b o n := fun k hk => by
  rw [frozen?_of_block (w := w) (w' := w') hb]; exact h k hk
theorem Seg.empty (w : World) (b o : Nat) : Seg w b o [] := fun k hk => by simp at hk

variable {C}
theorem BRel.mono {ρ ρ' : List Ghost} (hp : Pfx ρ ρ') {g : Ghost} {w : World} {blk : Blk C.X} {W R : Nat → Prop} (h : BRel C ρ g w blk W R) : BRel C ρ' g w blk W R := by
  cases blk with
  | row c => obtain ⟨⟨vs, hv, hr⟩, hr'⟩ := h; exact ⟨⟨vs, hv.mono hp, hr⟩, hr'⟩
  | dead => exact h
  | flat c => exact h
  | vec c => exact h
  | ro c => exact h
  | rrow c => obtain ⟨⟨vs, hv, hr⟩, hr'⟩ := h; exact ⟨⟨vs, hv.mono hp, hr⟩, hr'⟩
  | ext x => exact C.mono h hp
theorem BRel.congr {ρ : List Ghost} {g : Ghost} {w w' : World} {blk : Blk C.X} {W R : Nat → Prop} (h : BRel C ρ g w blk W R)
    (hb : ∀ b, W b ∨ R b → w'.heap[b]? = w.heap[b]?) : BRel C ρ g w' blk W R := by
  cases blk with
  | dead => exact h
  | row c =>
    obtain ⟨⟨vs, hv, hs, hf⟩, hn, hW, hR⟩ := h
    have := hb g.b (.inl ((hW _).2 rfl))
    exact ⟨⟨vs, hv, hs.congr this, hf.congr this⟩, hn, hW, hR⟩
  | flat c =>
    obtain ⟨hs, hf, hn, hW, hR⟩ := h
    have := hb g.b (.inl ((hW _).2 rfl))
    exact ⟨hs.congr this, hf.congr this, hn, hW, hR⟩
  | vec c =>
    obtain ⟨hs, hf, hn, hc, hW, hR⟩ := h
    by_cases h0 : g.n = 0
    · have hc0 : c = [] := List.length_eq_zero_iff.1 (by omega)
      subst hc0
      exact ⟨Seg.empty _ _ _, fun k hk => by omega, hn, fun k hk => by omega, hW, hR⟩
    have hB := hb g.b (.inl ((hW _).2 ⟨rfl, h0⟩))
    exact ⟨hs.congr hB, hf.congr hB, hn, fun k hk => by rw [World.cell?_of_block (w := w) (w' := w') hB]; exact hc k hk, hW, hR⟩
  | ro c =>
    obtain ⟨hs, hW, hR⟩ := h
    refine ⟨?_, hW, hR⟩
    by_cases hc : c = []
    · subst hc; exact Seg.empty _ _ _
    · exact hs.congr (hb g.b (.inr ((hR _).2 ⟨rfl, hc⟩)))
  | rrow c =>
    obtain ⟨⟨vs, hv, hs⟩, hW, hR⟩ := h
    refine ⟨⟨vs, hv, ?_⟩, hW, hR⟩
    by_cases hc : c = []
    · have : vs = [] := List.length_eq_zero_iff.1 (by rw [← hv.1, hc]; rfl)
      subst this; exact Seg.empty _ _ _
    · exact hs.congr (hb g.b (.inr ((hR _).2 ⟨rfl, hc⟩)))
  | ext x => exact C.frame h hb
end Go.AEv
