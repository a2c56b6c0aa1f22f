/-
  What a record of numbers reads as: its cells are these numbers.
-/
import Derived.Test.YtjofkjbpiaihbaaDoorAEvT
import Derived.ChangeShapes
import GoSem.ClaimMapViews
namespace Go.AEv
open Go

def repK : Nat → List IntKind → List IntKind
  | 0, _ => []
  | n + 1, ks => ks ++ repK n ks
def fieldKinds (P : Program) (f : TypeId → Option (List IntKind)) : List Field → Nat → Option (List IntKind)
  | [], _ => some []
  | fd :: r, o => match f fd.type, fieldKinds P f r (o + P.cellsOf fd.type) with
    | some ks, some ks' => match Nat.beq fd.offset o, Nat.beq ks.length (P.cellsOf fd.type) with
      | true, true => some (ks ++ ks')
      | _, _ => none
    | _, _ => none
/-- The kinds of the numbers that a type's cells are. -/
def leafKinds (P : Program) : Nat → TypeId → Option (List IntKind)
  | 0, _ => none
  | d + 1, t => match P.underlying t with
    | some (.int k) => some [k]
    | some (.struct fs) => match fieldKinds P (leafKinds P d) fs.toList 0 with
      | some ks => match Nat.beq ks.length (P.cellsOf t) with
        | true => some ks
        | false => none
      | none => none
    | some (.array n e) => match leafKinds P d e with
      | some ks => match Nat.beq ks.length (P.cellsOf e), Nat.beq (n * ks.length) (P.cellsOf t) with
        | true, true => some (repK n ks)
        | _, _ => none
      | none => none
    | _ => none

section
variable {H : Type} {enc : TypeId × Value → H} {P : Program} {w : World} {base : Nat} {spare : Nat → Bool} {held : Bool}
/-- Cells that are numbers of these kinds. -/
def Nums (ks : List IntKind) (cs : List Value) (ls : List Lit) : Prop :=
  ∃ ns : List Int, ns.length = ks.length ∧ cs = List.zipWith (fun k n => Value.int k n) ks ns ∧ ls = List.zipWith Lit.int ks ns ∧ ∀ l ∈ ls, l.wf = true
theorem Nums.nil : Nums [] [] [] := ⟨[], rfl, rfl, rfl, fun _ h => by simp at h⟩
theorem Nums.append {ks ks' : List IntKind} {cs cs' : List Value} {ls ls' : List Lit} (h : Nums ks cs ls) (h' : Nums ks' cs' ls') : Nums (ks ++ ks') (cs ++ cs') (ls ++ ls') := by
  obtain ⟨ns, h1, rfl, rfl, h4⟩ := h
  obtain ⟨ns', g1, rfl, rfl, g4⟩ := h'
  refine ⟨ns ++ ns', by simp [h1, g1], ?_, ?_, fun l hl => ?_⟩
  · rw [List.zipWith_append (by omega)]
  · rw [List.zipWith_append (by omega)]
  · rcases List.mem_append.1 hl with hl | hl
    · exact h4 l hl
    · exact g4 l hl
theorem Nums.length {ks : List IntKind} {cs : List Value} {ls : List Lit} (h : Nums ks cs ls) : cs.length = ks.length := by
  obtain ⟨ns, h1, rfl, _⟩ := h
  simp [h1]
theorem repK_length (ks : List IntKind) : ∀ n, (repK n ks).length = n * ks.length
  | 0 => by simp [repK]
  | n + 1 => by simp only [repK, List.length_append, repK_length ks n, Nat.succ_mul]; omega
theorem flat_trod : ∀ (d : Nat) (t : TypeId) (ks : List IntKind), leafKinds P d t = some ks → ∀ (fuel : Nat) (cs : List Value) (x : DataW H × List MemPlace), DataW.trod enc P w base spare held fuel t cs = some x → Nums ks cs x.1.flat ∧ x.2 = []
  | 0, t, ks, h => by simp [leafKinds] at h
  | d + 1, t, ks, h => by
    intro fuel cs x hx
    cases fuel with
    | zero => simp [DataW.trod] at hx
    | succ fuel =>
    have ih := flat_trod d
    simp only [leafKinds] at h
    split at h
    · rename_i k hu
      cases h
      obtain ⟨n, rfl, rfl, hw⟩ := DataW.trod_int hu hx
      exact ⟨⟨[n], rfl, rfl, rfl, fun l hl => by simp [DataW.flat] at hl; subst hl; exact hw⟩, rfl⟩
    · rename_i fs hu
      split at h
      case h_2 => simp at h
      rename_i ks' hk
      split at h
      case h_2 => simp at h
      rename_i hlen
      cases h
      have hlen' := Nat.eq_of_beq_eq_true hlen
      have key : ∀ (l : List Field) (o : Nat) (ks : List IntKind), fieldKinds P (leafKinds P d) l o = some ks → ∀ xs : List (DataW H × List MemPlace), l.mapM (fun f => DataW.trod enc P w base spare held fuel f.type ((cs.drop f.offset).take (P.cellsOf f.type))) = some xs →
          Nums ks ((cs.drop o).take ks.length) (DataW.flatAll (xs.map (·.1))) ∧ xs.flatMap (·.2) = [] := by
        intro l
        induction l with
        | nil =>
          intro o ks h xs hxs
          simp [fieldKinds] at h
          subst h
          simp at hxs
          subst hxs
          exact ⟨by simpa [DataW.flatAll] using Nums.nil, rfl⟩
        | cons fd r ihl =>
          intro o ks h xs hxs
          simp only [fieldKinds] at h
          split at h
          case h_2 => simp at h
          rename_i k1 k2 h1 h2
          split at h
          case h_2 => simp at h
          rename_i g1 g2
          cases h
          have e1 := Nat.eq_of_beq_eq_true g1
          have e2 := Nat.eq_of_beq_eq_true g2
          simp only [List.mapM_cons, Option.bind_eq_bind, Option.bind_eq_some_iff, Option.pure_def, Option.some.injEq] at hxs
          obtain ⟨y, hy, ys, hys, rfl⟩ := hxs
          obtain ⟨m1, m2⟩ := ih fd.type k1 h1 fuel _ y hy
          obtain ⟨n1, n2⟩ := ihl (o + P.cellsOf fd.type) k2 h2 ys hys
          rw [e1, ← e2] at m1
          rw [← e2] at n1
          refine ⟨?_, by simp [m2, n2]⟩
          have := m1.append n1
          rw [List.length_append, List.take_add, List.drop_drop]
          simpa [DataW.flatAll] using this
      simp only [DataW.trod, hu] at hx
      split at hx
      · rename_i hl
        rw [Option.map_eq_some_iff] at hx
        obtain ⟨xs, hxs, rfl⟩ := hx
        obtain ⟨m1, m2⟩ := key fs.toList 0 ks hk xs hxs
        refine ⟨?_, m2⟩
        rw [List.drop_zero, List.take_of_length_le (by omega)] at m1
        simpa [DataW.flat] using m1
      · simp at hx
    · rename_i n e hu
      split at h
      case h_2 => simp at h
      rename_i k1 hk
      split at h
      case h_2 => simp at h
      rename_i g1 g2
      cases h
      have e1 := Nat.eq_of_beq_eq_true g1
      have e2 := Nat.eq_of_beq_eq_true g2
      have key : ∀ (m o : Nat) (xs : List (DataW H × List MemPlace)), (List.range' o m).mapM (fun i => DataW.trod enc P w base spare held fuel e ((cs.drop (i * P.cellsOf e)).take (P.cellsOf e))) = some xs →
          Nums (repK m k1) ((cs.drop (o * P.cellsOf e)).take (m * P.cellsOf e)) (DataW.flatAll (xs.map (·.1))) ∧ xs.flatMap (·.2) = [] := by
        intro m
        induction m with
        | zero =>
          intro o xs hxs
          simp at hxs
          subst hxs
          exact ⟨by simpa [DataW.flatAll, repK] using Nums.nil, rfl⟩
        | succ m ihm =>
          intro o xs hxs
          simp only [List.range'_succ, List.mapM_cons, Option.bind_eq_bind, Option.bind_eq_some_iff, Option.pure_def, Option.some.injEq] at hxs
          obtain ⟨y, hy, ys, hys, rfl⟩ := hxs
          obtain ⟨m1, m2⟩ := ih e k1 hk fuel _ y hy
          obtain ⟨n1, n2⟩ := ihm (o + 1) ys hys
          refine ⟨?_, by simp [m2, n2]⟩
          have := m1.append n1
          have e0 : (m + 1) * P.cellsOf e = P.cellsOf e + m * P.cellsOf e := by rw [Nat.succ_mul, Nat.add_comm]
          rw [e0, List.take_add, List.drop_drop]
          rw [Nat.add_mul, Nat.one_mul] at this
          simpa [DataW.flatAll, repK] using this
      simp only [DataW.trod, hu] at hx
      split at hx
      · rename_i hl
        rw [Option.map_eq_some_iff] at hx
        obtain ⟨xs, hxs, rfl⟩ := hx
        rw [List.range_eq_range'] at hxs
        obtain ⟨m1, m2⟩ := key n 0 xs hxs
        refine ⟨?_, m2⟩
        rw [Nat.zero_mul, List.drop_zero, List.take_of_length_le (by rw [hl, ← e2, ← e1]; exact Nat.le_refl _)] at m1
        simpa [DataW.flat] using m1
      · simp at hx
    · simp at h
end

/-- A number as the evaluation has it. -/
def svOf (k : IntKind) (n : Int) : SV :=
  match k with
  | .u8 => .u8 (BitVec.ofInt 8 n)
  | .u16 => .u16 (BitVec.ofInt 16 n)
  | .u32 => .u32 (BitVec.ofInt 32 n)
  | .u64 => .u64 (BitVec.ofInt 64 n)
  | k => .i k n
theorem svOf_val {k : IntKind} {n : Int} (h : (Lit.int k n).wf = true) : (svOf k n).val = .int k n := by
  have key : ∀ (b : Nat), 0 ≤ n → n < 2 ^ b → ((BitVec.ofInt b n).toNat : Int) = n := fun b h0 h1 => by
    rw [BitVec.toNat_ofInt]
    have e : ((2 ^ b : Nat) : Int) = 2 ^ b := by simp
    rw [e, Int.emod_eq_of_lt h0 h1, Int.toNat_of_nonneg h0]
  cases k <;> simp only [svOf, SV.val]
  all_goals
    simp [Lit.wf, IntKind.min, IntKind.max, IntKind.signed, IntKind.bits] at h
    rw [key _ (by omega) (by omega)]
theorem nums_vals : ∀ {ks : List IntKind} {ns : List Int}, ns.length = ks.length → (∀ l ∈ List.zipWith Lit.int ks ns, l.wf = true) → List.zipWith (fun k n => Value.int k n) ks ns = (List.zipWith svOf ks ns).map SV.val
  | [], ns, _, _ => by simp
  | k :: ks, [], h, _ => by simp at h
  | k :: ks, n :: ns, h, hw => by
    simp only [List.zipWith_cons_cons, List.map_cons]
    rw [svOf_val (hw _ (by simp)), nums_vals (by simpa using h) (fun l hl => hw l (by simp [hl]))]
end Go.AEv
