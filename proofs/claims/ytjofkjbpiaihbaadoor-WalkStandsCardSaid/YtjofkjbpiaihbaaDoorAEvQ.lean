/-
  Maps whose keys are records of one word, and whose values are pointers to blocks; a memory of pages.
-/
import Derived.Test.YtjofkjbpiaihbaaDoorAEvP
import Derived.ChangeMaps4
import Derived.WalkKit
namespace Go.AEv
open Go.MapKept Go.ChangeMaps

def pgVal (b : Nat) : Value := .pointer (some ⟨b, 0, none⟩)
def wkey (k : BitVec 64) : Value := .agg #[.int .u64 k.toNat]
/-- What a program's types must be for it. -/
structure WKey (P : Program) (mt kt et : TypeId) : Prop where
  map : P.underlying mt = some (.map kt et)
  st : ∃ fs, P.underlying kt = some (.struct fs)
  eq : ∀ (a b : BitVec 64) w, (Op.equal kt (wkey a) (wkey b)).run P w = .ok (a == b) w
  chk : ∀ e (a : BitVec 64) w, (Instr.checkKey e 10000 kt (wkey a)).run P w = .ok () w
  zero : ∀ w, (zeroValue et).run P w = .ok (.pointer none) w
def MapIs (w : World) (a : Nat) (l : List (BitVec 64 × Nat)) : Prop :=
  ∃ es clock, w.heap[a]? = some (.map es clock) ∧ es.toList.map (fun e => (e.key, e.val)) = l.map fun p => (wkey p.1, pgVal p.2)
def lookL : List (BitVec 64 × Nat) → BitVec 64 → Option Nat
  | [], _ => none
  | p :: r, k => if k == p.1 then some p.2 else lookL r k
theorem lookL_mem : ∀ {l : List (BitVec 64 × Nat)} {k : BitVec 64} {b : Nat}, lookL l k = some b → (k, b) ∈ l
  | [], _, _, h => by simp [lookL] at h
  | p :: r, k, b, h => by
    simp only [lookL] at h
    split at h
    · rename_i hk
      cases h
      have : k = p.1 := by simpa using hk
      subst this
      exact List.mem_cons_self ..
    · exact List.mem_cons_of_mem _ (lookL_mem h)
theorem lookL_append : ∀ (l : List (BitVec 64 × Nat)) (k k' : BitVec 64) (b : Nat), lookL l k = none → lookL (l ++ [(k, b)]) k' = if k' = k then some b else lookL l k'
  | [], k, k', b, _ => by simp [lookL]
  | p :: r, k, k', b, h => by
    simp only [lookL] at h
    split at h
    · simp at h
    · rename_i hk
      simp only [List.cons_append, lookL]
      rw [lookL_append r k k' b h]
      by_cases hk' : k' = k
      · subst hk'; simp [hk]
      · simp [hk']

variable {P : Program} {mt kt et : TypeId}
theorem findAsking_run (K : WKey P mt kt et) (k : BitVec 64) (w : World) : ∀ (es : List MapEntry) (l : List (BitVec 64 × Nat)) (i : Nat), es.map (fun e => (e.key, e.val)) = l.map (fun p => (wkey p.1, pgVal p.2)) →
    ∃ r, (Instr.findAsking kt (wkey k) es i).run P w = .ok r w ∧ r.map (·.2) = (lookL l k).map pgVal
  | [], l, i, h => by
    have : l = [] := by simpa using h.symm
    subst this
    exact ⟨none, by simp [Instr.findAsking, lookL]⟩
  | e :: es, [], i, h => by simp at h
  | e :: es, p :: l, i, h => by
    simp only [List.map_cons, List.cons.injEq, Prod.mk.injEq] at h
    obtain ⟨⟨h1, h2⟩, h3⟩ := h
    by_cases hk : k = p.1
    · subst hk
      exact ⟨some (i, e.val), by simp [Instr.findAsking, h1, K.eq], by simp [lookL, h2]⟩
    · obtain ⟨r, hr, hr2⟩ := findAsking_run K k w es l (i + 1) h3
      have hk' : (k == p.1) = false := by simp [hk]
      exact ⟨r, by simp [Instr.findAsking, h1, K.eq, hk', hr], by simp [lookL, hk', hr2]⟩
theorem findKey_run (K : WKey P mt kt et) (k : BitVec 64) (w : World) {es : List MapEntry} {l : List (BitVec 64 × Nat)} (h : es.map (fun e => (e.key, e.val)) = l.map (fun p => (wkey p.1, pgVal p.2))) :
    ∃ r, (Instr.findKey kt (wkey k) es).run P w = .ok r w ∧ r.map (·.2) = (lookL l k).map pgVal := by
  obtain ⟨fs, hfs⟩ := K.st
  cases es with
  | nil =>
    have : l = [] := by simpa using h.symm
    subst this
    exact ⟨none, by simp [Instr.findKey, run_underlying hfs, Instr.findNow], rfl⟩
  | cons e es =>
    obtain ⟨r, hr, hr2⟩ := findAsking_run K k w (e :: es) l 0 h
    refine ⟨r, ?_, hr2⟩
    have hn : Instr.findNow (.struct fs) (wkey k) (e :: es) 0 = none := by simp [Instr.findNow, Instr.sameNow]
    simp [Instr.findKey, run_underlying hfs, hn, hr]
theorem lookup_run (K : WKey P mt kt et) {w : World} {a : Nat} {l : List (BitVec 64 × Nat)} (h : MapIs w a l) (k : BitVec 64) :
    (Instr.lookup mt (.map (some a)) (wkey k) false).run P w = .ok (.pointer ((lookL l k).map (⟨·, 0, none⟩))) w := by
  obtain ⟨es, clock, hb, he⟩ := h
  obtain ⟨r, hr, hr2⟩ := findKey_run K k w he
  cases r with
  | none =>
    have : lookL l k = none := by cases hl : lookL l k <;> simp [hl] at hr2 ⊢
    simp [Instr.lookup, run_underlying K.map, MapKept.run_getObj_map hb, K.chk, hr, K.zero, this]
  | some x =>
    cases hl : lookL l k with
    | none => simp [hl] at hr2
    | some b =>
      have : x.2 = pgVal b := by simpa [hl] using hr2
      simp [Instr.lookup, run_underlying K.map, MapKept.run_getObj_map hb, K.chk, hr, this, pgVal]
theorem update_run (K : WKey P mt kt et) {w : World} {a : Nat} {l : List (BitVec 64 × Nat)} (h : MapIs w a l) (k : BitVec 64) (hk : lookL l k = none) (b : Nat) :
    ∃ ob, (Instr.mapUpdate mt (.map (some a)) (wkey k) (pgVal b)).run P w = .ok () (setBlock w a ob) ∧ MapIs (setBlock w a ob) a (l ++ [(k, b)]) := by
  obtain ⟨es, clock, hb, he⟩ := h
  obtain ⟨r, hr, hr2⟩ := findKey_run K k w he
  have : r = none := by cases r <;> simp [hk] at hr2 ⊢
  subst this
  refine ⟨.map (es.push ⟨wkey k, pgVal b, clock⟩) (clock + 1), ?_, ⟨es.push ⟨wkey k, pgVal b, clock⟩, clock + 1, ?_, ?_⟩⟩
  · simp [Instr.mapUpdate, run_underlying K.map, MapKept.run_getObj_map hb, K.chk, hr, MapKept.run_setObj_map _ hb, setBlock]
  · have := (Array.getElem?_eq_some_iff.1 hb).1
    simp [setBlock, this]
  · simp [he]
theorem MapIs.congr {w w' : World} {a : Nat} {l : List (BitVec 64 × Nat)} (h : MapIs w a l) (hb : w'.heap[a]? = w.heap[a]?) : MapIs w' a l := by
  obtain ⟨es, c, h1, h2⟩ := h
  exact ⟨es, c, by rw [hb]; exact h1, h2⟩

/-! ### a memory of pages -/
def pgNo (x : BitVec 64) : BitVec 64 := x / 4096#64
def pgAt (x : BitVec 64) : Nat := x.toNat % 4096
structure RamIs (f : BitVec 64 → BitVec 8) (g : Ghost) (w : World) (a : Nat) (l : List (BitVec 64 × Nat)) : Prop where
  cell : w.cell? ⟨g.b, g.o, none⟩ = some (.map (some a))
  map : MapIs w a l
  nodup : (g.b :: a :: l.map (·.2)).Nodup
  zero : ∀ x, lookL l (pgNo x) = none → f x = 0#8
  byte : ∀ x pb, lookL l (pgNo x) = some pb → w.cell? ⟨pb, pgAt x, none⟩ = some (.int .u8 (f x).toNat)
  free : ∀ p ∈ l, ∀ n, w.frozen? ⟨p.2, n, none⟩ = false
def RamRel (f : BitVec 64 → BitVec 8) (g : Ghost) (w : World) (W R : Nat → Prop) : Prop :=
  ∃ a l, RamIs f g w a l ∧ (∀ b, W b ↔ b ∈ g.b :: a :: l.map (·.2)) ∧ ∀ b, ¬ R b
theorem RamIs.congr {f : BitVec 64 → BitVec 8} {g : Ghost} {w w' : World} {a : Nat} {l : List (BitVec 64 × Nat)} (h : RamIs f g w a l) (hb : ∀ b, b ∈ g.b :: a :: l.map (·.2) → w'.heap[b]? = w.heap[b]?) : RamIs f g w' a l where
  cell := by rw [World.cell?_of_block (w := w) (w' := w') (hb g.b (by simp))]; exact h.cell
  map := h.map.congr (hb a (by simp))
  nodup := h.nodup
  zero := h.zero
  byte := fun x pb hx => by
    rw [World.cell?_of_block (w := w) (w' := w') (hb pb (by have := lookL_mem hx; simp only [List.mem_cons, List.mem_map]; exact .inr (.inr ⟨_, this, rfl⟩)))]
    exact h.byte x pb hx
  free := fun p hp n => by
    rw [frozen?_of_block (w := w) (w' := w') (hb p.2 (by simp only [List.mem_cons, List.mem_map]; exact .inr (.inr ⟨_, hp, rfl⟩)))]
    exact h.free p hp n
theorem RamRel.congr {f : BitVec 64 → BitVec 8} {g : Ghost} {w w' : World} {W R : Nat → Prop} (h : RamRel f g w W R) (hb : ∀ b, W b ∨ R b → w'.heap[b]? = w.heap[b]?) : RamRel f g w' W R := by
  obtain ⟨a, l, h1, h2, h3⟩ := h
  exact ⟨a, l, h1.congr (fun b hbm => hb b (.inl ((h2 b).2 hbm))), h2, h3⟩
def updF (f : BitVec 64 → BitVec 8) (x : BitVec 64) (v : BitVec 8) : BitVec 64 → BitVec 8 := fun y => if y = x then v else f y
theorem pg_inj {x y : BitVec 64} (h1 : pgNo x = pgNo y) (h2 : pgAt x = pgAt y) : x = y := by
  unfold pgNo at h1
  unfold pgAt at h2
  have h1' := congrArg BitVec.toNat h1
  simp only [BitVec.toNat_udiv] at h1'
  apply BitVec.eq_of_toNat_eq
  have e : (4096#64).toNat = 4096 := rfl
  rw [e] at h1'
  omega
theorem lookL_inj : ∀ {l : List (BitVec 64 × Nat)} {k k' : BitVec 64} {b : Nat}, (l.map (·.2)).Nodup → lookL l k = some b → lookL l k' = some b → k = k' := by
  intro l k k' b hn h1 h2
  have m1 := lookL_mem h1
  have m2 := lookL_mem h2
  induction l with
  | nil => simp at m1
  | cons p r ih =>
    simp only [List.map_cons, List.nodup_cons] at hn
    have out : ∀ q : BitVec 64 × Nat, q ∈ r → q.2 ≠ p.2 := fun q hq e => hn.1 (e ▸ List.mem_map.2 ⟨q, hq, rfl⟩)
    simp only [List.mem_cons] at m1 m2
    rcases m1 with m1 | m1 <;> rcases m2 with m2 | m2
    · rw [← m1] at m2; exact (Prod.mk.inj m2).1.symm
    · exact absurd (by rw [← m1]) (out _ m2)
    · exact absurd (by rw [← m2]) (out _ m1)
    · simp only [lookL] at h1 h2
      split at h1
      · exact absurd (Option.some.inj h1).symm (out _ m1)
      · split at h2
        · exact absurd (Option.some.inj h2).symm (out _ m2)
        · exact ih hn.2 h1 h2 m1 m2
theorem cell_setCell_same {w : World} {b n : Nat} {v u : Value} (h : w.cell? ⟨b, n, none⟩ = some u) : (w.setCell ⟨b, n, none⟩ v).cell? ⟨b, n, none⟩ = some v :=
  World.cell?_setCell_same _ _ _ h
theorem cell_setCell_other {w : World} {b n : Nat} {v : Value} {b' n' : Nat} (h : ¬ (b' = b ∧ n' = n)) : (w.setCell ⟨b, n, none⟩ v).cell? ⟨b', n', none⟩ = w.cell? ⟨b', n', none⟩ :=
  World.cell?_setCell_other _ _ _ _ (fun e => h (by cases e; exact ⟨rfl, rfl⟩))
theorem frozen_setCell {w : World} {b n : Nat} {v : Value} (p : Addr) : (w.setCell ⟨b, n, none⟩ v).frozen? p = w.frozen? p :=
  World.frozen?_setCells b [v] n w p
theorem heap_setCell_other {w : World} {a : Addr} {v : Value} {b : Nat} (h : b ≠ a.block) : (w.setCell a v).heap[b]? = w.heap[b]? := by
  unfold World.setCell
  simp only [Array.getElem?_modify]
  rw [if_neg (fun e => h e.symm)]
theorem RamIs.set {f : BitVec 64 → BitVec 8} {g : Ghost} {w : World} {a : Nat} {l : List (BitVec 64 × Nat)} (h : RamIs f g w a l) {x : BitVec 64} {pb : Nat} (hx : lookL l (pgNo x) = some pb) (v : BitVec 8) :
    RamIs (updF f x v) g (w.setCell ⟨pb, pgAt x, none⟩ (.int .u8 v.toNat)) a l := by
  have hmem := lookL_mem hx
  have hin : pb ∈ l.map (·.2) := List.mem_map.2 ⟨_, hmem, rfl⟩
  have hn := h.nodup
  simp only [List.nodup_cons, List.mem_cons, not_or] at hn
  have h1 : g.b ≠ pb := fun e => hn.1.2 (e ▸ hin)
  have h2 : a ≠ pb := fun e => hn.2.1 (e ▸ hin)
  refine ⟨?_, h.map.congr (heap_setCell_other h2), h.nodup, fun y hy => ?_, fun y pb' hy => ?_, fun p hp n => by rw [frozen_setCell]; exact h.free p hp n⟩
  · rw [cell_setCell_other (fun e => h1 e.1)]; exact h.cell
  · have : y ≠ x := fun e => by subst e; rw [hx] at hy; simp at hy
    simp [updF, this, h.zero y hy]
  · by_cases hyx : y = x
    · subst hyx
      rw [hx] at hy; cases hy
      rw [cell_setCell_same (h.byte y pb hx)]
      simp [updF]
    · rw [cell_setCell_other, h.byte y pb' hy]
      · simp [updF, hyx]
      · rintro ⟨e1, e2⟩
        subst e1
        exact hyx (pg_inj (lookL_inj hn.2.2 hy hx) e2)
/-- A page is new. -/
theorem RamIs.page {P : Program} {mt kt et : TypeId} (K : WKey P mt kt et) {f : BitVec 64 → BitVec 8} {g : Ghost} {w : World} {a : Nat} {l : List (BitVec 64 × Nat)} (h : RamIs f g w a l) {x : BitVec 64} (hx : lookL l (pgNo x) = none)
    {cs : Array Value} {t : TypeId} (hcs : ∀ n, n < 4096 → cs[n]? = some (.int .u8 0)) (hlt : ∀ b, b ∈ g.b :: a :: l.map (·.2) → b < w.heap.size) :
    ∃ ob, (Instr.mapUpdate mt (.map (some a)) (wkey (pgNo x)) (pgVal w.heap.size)).run P (w.alloc (.cells cs t (0, 0))) = .ok () (setBlock (w.alloc (.cells cs t (0, 0))) a ob) ∧
      RamIs f g (setBlock (w.alloc (.cells cs t (0, 0))) a ob) a (l ++ [(pgNo x, w.heap.size)]) ∧ lookL (l ++ [(pgNo x, w.heap.size)]) (pgNo x) = some w.heap.size := by
  have hk : ∀ b, b < w.heap.size → (w.alloc (.cells cs t (0, 0))).heap[b]? = w.heap[b]? := fun b hb => alloc_get_lt w _ hb
  have h1 := h.congr (fun b hb => hk b (hlt b hb))
  obtain ⟨ob, hr, hm⟩ := update_run K h1.map (pgNo x) hx w.heap.size
  have hn := h.nodup
  simp only [List.nodup_cons, List.mem_cons, not_or] at hn
  have ha : a < w.heap.size := hlt a (by simp)
  have sb : ∀ b, b ≠ a → (setBlock (w.alloc (.cells cs t (0, 0))) a ob).heap[b]? = (w.alloc (.cells cs t (0, 0))).heap[b]? := fun b hb => by
    simp only [setBlock]
    rw [Array.getElem?_setIfInBounds_ne (fun e => hb e.symm)]
  have new : ∀ n, n < 4096 → (setBlock (w.alloc (.cells cs t (0, 0))) a ob).cell? ⟨w.heap.size, n, none⟩ = some (.int .u8 0) := fun n hn => by
    rw [World.cell?_of_block (w := w.alloc (.cells cs t (0, 0))) (sb _ (by simp only; omega)), cell_new]
    exact hcs n hn
  refine ⟨ob, hr, ⟨?_, hm, ?_, fun y hy => ?_, fun y pb hy => ?_, fun p hp n => ?_⟩, by rw [lookL_append _ _ _ _ hx]; simp⟩
  · rw [World.cell?_of_block (w := w.alloc (.cells cs t (0, 0))) (sb _ hn.1.1)]
    exact h1.cell
  · simp only [List.map_append, List.map_cons, List.map_nil]
    have := h.nodup
    rw [show (g.b :: a :: (l.map (·.2) ++ [w.heap.size])) = (g.b :: a :: l.map (·.2)) ++ [w.heap.size] by simp]
    rw [List.nodup_append]
    refine ⟨this, by simp, fun b hb c hc => ?_⟩
    have := hlt b hb
    simp at hc
    omega
  · rw [lookL_append _ _ _ _ hx] at hy
    split at hy
    · simp at hy
    · exact h.zero y hy
  · rw [lookL_append _ _ _ _ hx] at hy
    split at hy
    · rename_i e
      cases hy
      rw [new (pgAt y) (Nat.mod_lt _ (by decide))]
      have : f y = 0#8 := h.zero y (by rw [e]; exact hx)
      rw [this]; rfl
    · have hin : pb ∈ l.map (·.2) := List.mem_map.2 ⟨_, lookL_mem hy, rfl⟩
      rw [World.cell?_of_block (w := w.alloc (.cells cs t (0, 0))) (sb _ (fun e => hn.2.1 (e ▸ hin)))]
      exact h1.byte y pb hy
  · simp only [List.mem_append, List.mem_singleton] at hp
    rcases hp with hp | hp
    · have hin : p.2 ∈ l.map (·.2) := List.mem_map.2 ⟨_, hp, rfl⟩
      rw [frozen?_of_block (w := w.alloc (.cells cs t (0, 0))) (sb _ (fun e => hn.2.1 (by simp only at e; exact e ▸ hin)))]
      exact h1.free p hp n
    · subst hp
      rw [frozen?_of_block (w := w.alloc (.cells cs t (0, 0))) (sb _ (by simp only; omega))]
      exact frozen_new w cs t n

variable {C : Ctx}
/-- An object is turned, and has new blocks. -/
theorem HSep.updNew {ρ : List Ghost} {m : List (Blk C.X)} {w w' : World} {W R : Nat → Nat → Prop} (h : HSep C ρ m w W R) {i : Nat} {g : Ghost} {blk' : Blk C.X}
    (hi : i < m.length) (hg : ρ[i]? = some g) (hs : w.heap.size ≤ w'.heap.size) (hkeep : ∀ b, b < w.heap.size → ¬ W i b → w'.heap[b]? = w.heap[b]?)
    {Wn : Nat → Prop} (hW : ∀ b, Wn b → W i b ∨ w.heap.size ≤ b) (hlt : ∀ b, Wn b → b < w'.heap.size) (hB : BRel C ρ g w' blk' Wn (R i)) :
    HSep C ρ (setAt m i blk') w' (fun j b => if j = i then Wn b else W j b) R where
  len := by rw [setAt_eq]; simpa using h.len
  blk := fun j blk gj hj hgj => by
    rw [setAt_eq] at hj
    by_cases hji : j = i
    · subst hji
      rw [hg] at hgj; cases hgj
      simp [hi] at hj; subst hj
      simpa using hB
    · rw [List.getElem?_set_ne (by omega)] at hj
      have e : (fun b => if j = i then Wn b else W j b) = W j := by funext b; simp [hji]
      rw [e]
      refine (h.blk j blk gj hj hgj).congr (fun b hb => hkeep b (h.lt j b hb) (fun hw => ?_))
      rcases hb with hb | hb
      · exact hji (h.ww j i b hb hw)
      · exact h.wr i j b hw hb
  out := fun j b hj => by
    rw [setAt_eq] at hj
    simp only [List.length_set] at hj
    rw [if_neg (by omega)]
    exact h.out j b hj
  ww := fun j k b hj hk => by
    split at hj <;> split at hk
    · omega
    · rcases hW b hj with h1 | h1
      · exact absurd (h.ww _ _ b h1 hk) (by omega)
      · have := h.lt k b (.inl hk); omega
    · rcases hW b hk with h1 | h1
      · exact absurd (h.ww _ _ b hj h1) (by omega)
      · have := h.lt j b (.inl hj); omega
    · exact h.ww j k b hj hk
  wr := fun j k b hj hk => by
    split at hj
    · rcases hW b hj with h1 | h1
      · exact h.wr _ _ b h1 hk
      · have := h.lt k b (.inr hk); omega
    · exact h.wr j k b hj hk
  lt := fun j b hb => by
    rcases hb with hb | hb
    · split at hb
      · exact hlt b hb
      · exact Nat.lt_of_lt_of_le (h.lt j b (.inl hb)) hs
    · exact Nat.lt_of_lt_of_le (h.lt j b (.inr hb)) hs
  ge := fun j b hb => by
    split at hb
    · rcases hW b hb with h1 | h1
      · exact h.ge _ b h1
      · exact Nat.le_trans h.nGle h1
    · exact h.ge j b hb
  inv := C.invFrame h.inv (fun b hb => hkeep b (Nat.lt_of_lt_of_le hb h.nGle) (fun hw => by have := h.ge i b hw; omega))
  nGle := Nat.le_trans h.nGle hs
end Go.AEv
