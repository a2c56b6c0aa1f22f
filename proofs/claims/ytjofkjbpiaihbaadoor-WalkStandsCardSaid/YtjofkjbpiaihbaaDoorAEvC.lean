/-
  Quiet operations: those that only compute and read. What is computed on the abstract side stands for what the model computes; the world stays.
-/
import Derived.Test.YtjofkjbpiaihbaaDoorAEvB
import Derived.ChangeKeysEq
namespace Go.AEv
open Go

variable {P : Program}

/-! ### constants -/
def ofC0 : Value → AV
  | .bool b => .s (.b b)
  | .int .u8 n => match decide (0 ≤ n ∧ n < 256) with
    | true => .s (.u8 (BitVec.ofNat 8 n.toNat))
    | false => .any
  | .int .u16 n => match decide (0 ≤ n ∧ n < 65536) with
    | true => .s (.u16 (BitVec.ofNat 16 n.toNat))
    | false => .any
  | .int .u32 n => match decide (0 ≤ n ∧ n < 4294967296) with
    | true => .s (.u32 (BitVec.ofNat 32 n.toNat))
    | false => .any
  | .int .u64 n => match decide (0 ≤ n ∧ n < 18446744073709551616) with
    | true => .s (.u64 (BitVec.ofNat 64 n.toNat))
    | false => .any
  | .int k n => .s (.i k n)
  | .string s => .s (.str s)
  | .pointer none => .nilp
  | .slice none 0 0 => .sl 0 0 0 0 (some 0)
  | .map none => .nilm
  | .nilFunc => .nilf
  | .nilIface => .nilif
  | _ => .any
theorem ofC0_rel (ρ : List Ghost) (v : Value) : VRel ρ (ofC0 v) v := by
  have key : ∀ (w : Nat) (k : IntKind) (mk : BitVec w → SV) (hk : ∀ x, (mk x).val = .int k (x.toNat : Int)) (n : Int), 0 ≤ n → n < 2 ^ w →
      VRel ρ (.s (mk (BitVec.ofNat w n.toNat))) (.int k n) := by
    intro w k mk hk n h0 h1
    have h2 : n.toNat < 2 ^ w := by
      have : ((n.toNat : Nat) : Int) < ((2 ^ w : Nat) : Int) := by rw [Int.toNat_of_nonneg h0]; simpa using h1
      exact_mod_cast this
    have : Value.int k n = (mk (BitVec.ofNat w n.toNat)).val := by
      rw [hk, BitVec.toNat_ofNat, Nat.mod_eq_of_lt h2, Int.toNat_of_nonneg h0]
    rw [this]; exact .s _
  unfold ofC0
  split
  · exact .s _
  · split
    · rename_i h; have := of_decide_eq_true h; exact key 8 .u8 .u8 (fun _ => rfl) _ this.1 this.2
    · exact .any _
  · split
    · rename_i h; have := of_decide_eq_true h; exact key 16 .u16 .u16 (fun _ => rfl) _ this.1 this.2
    · exact .any _
  · split
    · rename_i h; have := of_decide_eq_true h; exact key 32 .u32 .u32 (fun _ => rfl) _ this.1 this.2
    · exact .any _
  · split
    · rename_i h; have := of_decide_eq_true h; exact key 64 .u64 .u64 (fun _ => rfl) _ this.1 this.2
    · exact .any _
  · exact .s _
  · exact .s _
  · exact .nilp
  · exact .sl0 (by simp)
  · exact .nilm
  · exact .nilf
  · exact .nilif
  · exact .any _
def ofConst : Value → AV
  | .agg cs => .agg (cs.toList.map ofC0)
  | .tuple cs => .tup (cs.toList.map ofC0)
  | v => ofC0 v
theorem vsRel_ofC0 (ρ : List Ghost) (vs : List Value) : VsRel ρ (vs.map ofC0) vs := by
  refine ⟨by simp, fun k x v hx hv => ?_⟩
  simp at hx
  obtain ⟨y, hy, rfl⟩ := hx
  rw [hv] at hy; cases hy
  exact ofC0_rel ρ _
theorem VRel.agg' {ρ : List Ghost} {cs : List AV} {vs : Array Value} (h : VsRel ρ cs vs.toList) : VRel ρ (.agg cs) (.agg vs) :=
  .agg (by simpa using h.1) (fun k x v hx hv => h.2 k x v hx (by simpa using hv))
theorem VRel.tup' {ρ : List Ghost} {cs : List AV} {vs : Array Value} (h : VsRel ρ cs vs.toList) : VRel ρ (.tup cs) (.tuple vs) :=
  .tup (by simpa using h.1) (fun k x v hx hv => h.2 k x v hx (by simpa using hv))
theorem VRel.fn' {ρ : List Ghost} {f : Fn} {cs : List AV} {vs : Array Value} (h : VsRel ρ cs vs.toList) : VRel ρ (.fn f cs) (.func f #[] vs) :=
  .fn (by simpa using h.1) (fun k x v hx hv => h.2 k x v hx (by simpa using hv))
theorem VRel.agg_inv {ρ : List Ghost} {cs : List AV} {v : Value} (h : VRel ρ (.agg cs) v) : ∃ vs : Array Value, v = .agg vs ∧ VsRel ρ cs vs.toList := by
  cases h with
  | agg hl h => exact ⟨_, rfl, by simpa using hl, fun k x v hx hv => h k x v hx (by simpa using hv)⟩
theorem VRel.tup_inv {ρ : List Ghost} {cs : List AV} {v : Value} (h : VRel ρ (.tup cs) v) : ∃ vs : Array Value, v = .tuple vs ∧ VsRel ρ cs vs.toList := by
  cases h with
  | tup hl h => exact ⟨_, rfl, by simpa using hl, fun k x v hx hv => h k x v hx (by simpa using hv)⟩
theorem VRel.fn_inv {ρ : List Ghost} {f : Fn} {cs : List AV} {v : Value} (h : VRel ρ (.fn f cs) v) : ∃ vs : Array Value, v = .func f #[] vs ∧ VsRel ρ cs vs.toList := by
  cases h with
  | fn hl h => exact ⟨_, rfl, by simpa using hl, fun k x v hx hv => h k x v hx (by simpa using hv)⟩
theorem ofConst_rel (ρ : List Ghost) (v : Value) : VRel ρ (ofConst v) v := by
  unfold ofConst
  split
  · exact .agg' (vsRel_ofC0 ρ _)
  · exact .tup' (vsRel_ofC0 ρ _)
  · exact ofC0_rel ρ _

/-! ### what a type is -/
def isAggB (P : Program) (t : TypeId) : Option Bool :=
  match P.underlying t with
  | some (.struct _) => some true
  | some (.array _ _) => some true
  | some _ => some false
  | none => none
def szB (P : Program) (t : TypeId) : Option Nat :=
  match P.info? t with
  | some i => some i.size
  | none => none
theorem run_isAgg {t : TypeId} {b : Bool} (h : isAggB P t = some b) (w : World) : (isAgg t).run P w = .ok b w := by
  unfold isAggB at h
  unfold isAgg
  cases hu : P.underlying t with
  | none => simp [hu] at h
  | some d =>
    simp only [hu] at h
    cases d <;> simp at h <;> subst h <;> simp [run_underlying hu]
theorem run_sizeOf' {t : TypeId} {n : Nat} (h : szB P t = some n) (w : World) : (sizeOf t).run P w = .ok n w := by
  unfold szB at h
  split at h
  · rename_i i hi; cases h; simp only [sizeOf, Sem.run_bind, Go.run_typeInfo w hi]; rfl
  · simp at h

/-! ### cells of a block -/
def Blk.cell {X : Type} : Blk X → Nat → Option AV
  | .row c, k => nth c k
  | .rrow c, k => nth c k
  | .flat c, k => match nth c k with
    | some x => some (.s x)
    | none => none
  | .vec c, k => match nth c k with
    | some x => some (.s x)
    | none => none
  | .ro c, k => match nth c k with
    | some x => some (.s x)
    | none => none
  | _, _ => none
def Blk.cells {X : Type} : Blk X → Nat → Nat → Option (List AV)
  | .row c, off, n => sliceL c off n
  | .rrow c, off, n => sliceL c off n
  | .flat c, off, n => match sliceL c off n with
    | some l => some (l.map .s)
    | none => none
  | .vec c, off, n => match sliceL c off n with
    | some l => some (l.map .s)
    | none => none
  | .ro c, off, n => match sliceL c off n with
    | some l => some (l.map .s)
    | none => none
  | _, _, _ => none

theorem seg_map_get {w : World} {b o : Nat} {c : List SV} (h : Seg w b o (c.map SV.val)) {k : Nat} {x : SV} (hx : c[k]? = some x) : w.cell? ⟨b, o + k, none⟩ = some x.val := by
  have hl : k < c.length := (List.getElem?_eq_some_iff.1 hx).1
  rw [h k (by simpa using hl)]; simp [hx]

variable {C : Ctx}
theorem Blk.cell_sound {ρ : List Ghost} {g : Ghost} {w : World} {blk : Blk C.X} {W R : Nat → Prop} (h : BRel C ρ g w blk W R) {k : Nat} {x : AV} (hx : blk.cell k = some x) :
    ∃ v, w.cell? ⟨g.b, g.o + k, none⟩ = some v ∧ VRel ρ x v := by
  cases blk with
  | row c =>
    obtain ⟨⟨vs, hv, hs, _⟩, _⟩ := h
    simp only [Blk.cell, nth_eq] at hx
    obtain ⟨v, hv1, hv2⟩ := hv.get hx
    exact ⟨v, by rw [hs k (List.getElem?_eq_some_iff.1 hv1).1, hv1], hv2⟩
  | flat c =>
    simp only [Blk.cell, nth_eq] at hx
    split at hx
    · rename_i y hy; cases hx; exact ⟨_, seg_map_get h.1 hy, .s y⟩
    · simp at hx
  | vec c =>
    simp only [Blk.cell, nth_eq] at hx
    split at hx
    · rename_i y hy; cases hx; exact ⟨_, seg_map_get h.1 hy, .s y⟩
    · simp at hx
  | ro c =>
    simp only [Blk.cell, nth_eq] at hx
    split at hx
    · rename_i y hy; cases hx; exact ⟨_, seg_map_get h.1 hy, .s y⟩
    · simp at hx
  | rrow c =>
    obtain ⟨⟨vs, hv, hs⟩, _⟩ := h
    simp only [Blk.cell, nth_eq] at hx
    obtain ⟨v, hv1, hv2⟩ := hv.get hx
    exact ⟨v, by rw [hs k (List.getElem?_eq_some_iff.1 hv1).1, hv1], hv2⟩
  | dead => simp [Blk.cell] at hx
  | ext x => simp [Blk.cell] at hx

theorem Blk.cells_each {X : Type} {blk : Blk X} {off n : Nat} {l : List AV} (h : blk.cells off n = some l) : l.length = n ∧ ∀ k x, l[k]? = some x → blk.cell (off + k) = some x := by
  have key : ∀ (c : List SV) (l' : List SV), sliceL c off n = some l' → (l'.map AV.s).length = n ∧ ∀ (k : Nat) (x : AV), (l'.map AV.s)[k]? = some x → (match nth c (off + k) with | some x => some (AV.s x) | none => none) = some x := by
    intro c l' hl'
    obtain ⟨h1, h2⟩ := sliceL_get hl'
    refine ⟨by simpa using h1, fun k x hx => ?_⟩
    simp at hx
    obtain ⟨y, hy, rfl⟩ := hx
    have hk : k < n := h1 ▸ (List.getElem?_eq_some_iff.1 hy).1
    rw [nth_eq, ← h2 k hk, hy]
  cases blk with
  | row c =>
    obtain ⟨h1, h2⟩ := sliceL_get h
    refine ⟨h1, fun k x hx => ?_⟩
    have hk : k < n := h1 ▸ (List.getElem?_eq_some_iff.1 hx).1
    simp only [Blk.cell, nth_eq, ← h2 k hk, hx]
  | flat c =>
    simp only [Blk.cells] at h
    split at h
    · rename_i l' hl'; cases h; exact key c l' hl'
    · simp at h
  | vec c =>
    simp only [Blk.cells] at h
    split at h
    · rename_i l' hl'; cases h; exact key c l' hl'
    · simp at h
  | ro c =>
    simp only [Blk.cells] at h
    split at h
    · rename_i l' hl'; cases h; exact key c l' hl'
    · simp at h
  | rrow c =>
    obtain ⟨h1, h2⟩ := sliceL_get h
    refine ⟨h1, fun k x hx => ?_⟩
    have hk : k < n := h1 ▸ (List.getElem?_eq_some_iff.1 hx).1
    simp only [Blk.cell, nth_eq, ← h2 k hk, hx]
  | dead => simp [Blk.cells] at h
  | ext x => simp [Blk.cells] at h
theorem Blk.cells_sound {ρ : List Ghost} {g : Ghost} {w : World} {blk : Blk C.X} {W R : Nat → Prop} (h : BRel C ρ g w blk W R) {off n : Nat} {l : List AV} (hl : blk.cells off n = some l) :
    ∃ vs : List Value, vs.length = n ∧ VsRel ρ l vs ∧ ∀ j v, vs[j]? = some v → w.cell? ⟨g.b, g.o + off + j, none⟩ = some v := by
  obtain ⟨h1, h2⟩ := Blk.cells_each hl
  have : ∀ k, k < n → ∃ v, w.cell? ⟨g.b, g.o + off + k, none⟩ = some v ∧ ∀ x, l[k]? = some x → VRel ρ x v := by
    intro k hk
    have hk' : k < l.length := by omega
    obtain ⟨v, hv, hr⟩ := Blk.cell_sound h (h2 k l[k] (by simp [hk']))
    refine ⟨v, by rw [Nat.add_assoc]; exact hv, fun x hx => ?_⟩
    simp [hk'] at hx; subst hx; exact hr
  refine ⟨(List.range n).map fun k => (w.cell? ⟨g.b, g.o + off + k, none⟩).getD undef, by simp, ⟨by simp [h1], fun k x v hx hv => ?_⟩, fun j v hv => ?_⟩
  · have hk : k < n := h1 ▸ (List.getElem?_eq_some_iff.1 hx).1
    obtain ⟨u, hu, hr⟩ := this k hk
    rw [List.getElem?_map, List.getElem?_range hk] at hv
    simp only [Option.map_some, hu, Option.getD_some, Option.some.injEq] at hv
    subst hv; exact hr x hx
  · have hk : j < n := by simpa using (List.getElem?_eq_some_iff.1 hv).1
    obtain ⟨u, hu, _⟩ := this j hk
    rw [List.getElem?_map, List.getElem?_range hk] at hv
    simp only [Option.map_some, hu, Option.getD_some, Option.some.injEq] at hv
    subst hv; exact hu

theorem addr_add (b o k : Nat) : (⟨b, o, none⟩ : Addr).add k = ⟨b, o + k, none⟩ := by unfold Addr.add; split <;> simp_all

/-- A whole variable, read. -/
def loadBlk {X : Type} (P : Program) (t : TypeId) (blk : Blk X) (off : Nat) : Option AV :=
  match isAggB P t with
  | some false => blk.cell off
  | some true => match szB P t with
    | some n => match blk.cells off n with
      | some l => some (.agg l)
      | none => none
    | none => none
  | none => none
theorem loadBlk_sound {ρ : List Ghost} {g : Ghost} {w : World} {blk : Blk C.X} {W R : Nat → Prop} (h : BRel C ρ g w blk W R) {t : TypeId} {off : Nat} {x : AV} (hx : loadBlk P t blk off = some x) :
    ∃ v, (loadVar t ⟨g.b, g.o + off, none⟩).run P w = .ok v w ∧ VRel ρ x v := by
  unfold loadBlk at hx
  unfold loadVar
  split at hx
  · rename_i ha
    obtain ⟨v, hv, hr⟩ := Blk.cell_sound h hx
    exact ⟨v, by simp [run_isAgg ha, hv], hr⟩
  · rename_i ha
    split at hx
    · rename_i n hn
      split at hx
      · rename_i l hl
        cases hx
        obtain ⟨vs, h1, h2, h3⟩ := Blk.cells_sound h hl
        refine ⟨.agg vs.toArray, ?_, .agg' (by simpa using h2)⟩
        have := run_loadCells_list (P := P) w ⟨g.b, g.o + off, none⟩ vs (fun j v hv => by rw [addr_add]; exact h3 j v hv)
        rw [h1] at this
        simp [run_isAgg ha, run_sizeOf' hn, this]
      · simp at hx
    · simp at hx
  · simp at hx
end Go.AEv
