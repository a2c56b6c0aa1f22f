/-
  WalkStands: what a walk tells is what stands in memory, and it goes by what is laid there next: the statement's function answers true for every image, registers, mode, kind, address and entry. The row, proved, and its card.
-/
import Derived.Test.YtjofkjbpiaihbaaDoorR1Za
import Derived.Test.YtjofkjbpiaihbaaDoorTie
import Derived.Test.YtjofkjbpiaihbaaDoorCards
import Derived.SevenTiedAt
import Derived.MakeChecks
set_option maxRecDepth 100000
namespace Go.Proofs.YtjofkjbpiaihbaaDoor
open Go.ChangeShapes Go.WideShapes Go.ChangeAt Go.RowKit Go.AEv Go.R1

theorem own : ownKnob Tryd.prog.godebug = none := by kernel_rfl
theorem laidOut : laidOutB Tryd.prog = true := by kernel_rfl
def laidL : List (String × DataW Unit) := [("math/bits.deBruijn64tab", Rows.laid_math_bits_deBruijn64tab)]
theorem gTab : Tryd.prog.globalNamed "math/bits.deBruijn64tab" = some 0 := by kernel_rfl
noncomputable def tTab : TypeId := ((Tryd.prog.globals[0]?).map (·.type)).getD 0
theorem tTab_eq : (Tryd.prog.globals[0]?).map (·.type) = some tTab := by kernel_rfl
theorem kTab : leafKinds Tryd.prog 3 tTab = some (List.replicate 64 .u8) := by kernel_rfl
theorem fTab : (Rows.laid_math_bits_deBruijn64tab (H := Unit)).flat = tab.map fun b => Lit.int .u8 (b.toNat : Int) := by kernel_rfl
theorem zip_lits : ∀ (m : Nat) (ns : List Int) (l : List (BitVec 8)), ns.length = m → l.map (fun b => Lit.int .u8 (b.toNat : Int)) = List.zipWith Lit.int (List.replicate m .u8) ns → List.zipWith (fun k n => Value.int k n) (List.replicate m .u8) ns = l.map fun b => Value.int .u8 (b.toNat : Int)
  | 0, [], [], _, _ => rfl
  | 0, [], _ :: _, _, h => by simp at h
  | m + 1, n :: ns, [], _, h => by simp [List.replicate_succ] at h
  | m + 1, n :: ns, b :: l, hl, h => by
    simp only [List.map_cons, List.replicate_succ, List.zipWith_cons_cons, List.cons.injEq, Lit.int.injEq, true_and] at h
    rw [List.replicate_succ, List.zipWith_cons_cons, List.map_cons, zip_lits m ns l (by simpa using hl) h.2, h.1]
/-- What the condition gives: the table stands where the evaluation takes it to stand. -/
theorem inv_of_laid {W : World} (h : laidMetH Tryd.prog laidL W) : ctx.Inv W := by
  rw [MakeChecks.laidMetH_plain _ _ _ (by kernel_rfl)] at h
  obtain ⟨ps, ⟨g0, t0, cs0, f0, p0, q0, hg0, ht0, hv0, hd0, _, _⟩, _, _⟩ := h
  obtain rfl := Option.some.inj (gTab.symm.trans hg0)
  obtain rfl := Option.some.inj (tTab_eq.symm.trans ht0)
  obtain ⟨⟨ns, n1, n2, n3, _⟩, _⟩ := flat_trod 3 tTab _ kTab _ _ _ hd0
  rw [fTab] at n3
  rw [zip_lits 64 ns tab (by simpa using n1) n3] at n2
  intro n x hx
  have := World.var?_cell hg0 hv0 n
  rw [this]
  rw [← Array.getElem?_toList, n2, List.getElem?_map, hx]
  rfl
theorem door_met (os : Os) (args : Array Value) : laidMetH Tryd.prog laidL ((World.doorLaid Tryd.prog 400 os).forCall (fun _ _ => 0) ⟨#[], args, []⟩).memory :=
  laidMetH_of_parts3 (fuel := 8) (laidMet_of_run' 8 (by kernel_rfl) (by kernel_rfl)) (by kernel_rfl) (by kernel_rfl)
def csr0 : Array Value := ((List.zipWith svOf csrK (List.replicate 38 0)).map SV.val).toArray
theorem hrel_of {W : World} (hi : ctx.Inv W) {g : Ghost} {l : List (BitVec 8)} (hs : Seg W g.b g.o ((l.map SV.u8).map SV.val)) : HRel ctx [g] [.ro (l.map .u8)] W (fun _ => False) := by
  have h1 : 1 ≤ W.heap.size := by
    have := hi 0 0#8 rfl
    have := World.block_lt_of_cell? W _ this
    exact this
  refine ⟨fun _ _ => False, fun i b => i = 0 ∧ b = g.b ∧ l.map SV.u8 ≠ [], ⟨rfl, fun i blk g' hi' hg' => ?_, fun i b hi' => ⟨fun h => h, fun h => ?_⟩, fun _ _ _ h => h.elim, fun _ _ _ h => h.elim, fun i b hb => ?_, fun _ _ h => h.elim, hi, h1⟩, fun _ _ h => h⟩
  · cases i with
    | zero =>
      simp at hi' hg'
      subst hi'; subst hg'
      exact ⟨hs, fun _ h => h, fun b => by simp⟩
    | succ i => simp at hi'
  · have := h.1; subst this; simp at hi'
  · rcases hb with hb | ⟨_, rfl, hne⟩
    · exact hb.elim
    · have hl : 0 < ((l.map SV.u8).map SV.val).length := by
        rw [List.length_map]
        exact List.length_pos_iff.2 hne
      have := hs 0 hl
      rw [List.getElem?_eq_getElem hl] at this
      exact World.block_lt_of_cell? W _ this
theorem belowAll {H : Type} {enc : TypeId × Value → H} {P : Program} (hl : laidOutB P = true) {W W' : World} (hb : Below W.heap.size W W') : ∀ {ts : List TypeId} {vs : List Value} {ds : List (DataW H)} {ps : List MemPlace}, (ts.all fun t => P.readableRec t && decide (t < P.types.size)) = true →
    DataW.TrodAll enc P W 0 (fun _ => true) true ts vs ds ps → (∀ x ∈ ps, x.block < W.heap.size) → DataW.TrodAll enc P W' 0 (fun b => decide (b < W.heap.size)) true ts vs ds ps
  | [], [], [], _, _, h, _ => h
  | t :: ts, _ :: _, _ :: _, _, ht, ⟨p, q, h1, h2, e⟩, hlt => by
    simp only [List.all_cons, Bool.and_eq_true, decide_eq_true_eq] at ht
    exact ⟨p, q, Below.trod hl ht.1.1 ht.1.2 h1 hb (fun x hx => hlt x (by rw [e]; exact List.mem_append_left _ hx)), belowAll hl hb (by simpa using ht.2) h2 (fun x hx => hlt x (by rw [e]; exact List.mem_append_right _ hx)), e⟩
theorem reads3 : (Tryd.f3.params.toList.all fun t => Tryd.prog.readableRec t && decide (t < Tryd.prog.types.size)) = true := by kernel_rfl
theorem lifted (os : Os) (started : os.Started) (H : Type) (enc : TypeId × Value → H) :
    ReturnsInHanded {} Tryd.checked os 3 .any (fun w args => (Rows.walkStandsSpec.pre enc Tryd.prog Tryd.f3 [] false w args ∧ laidMetH Tryd.prog laidL w) ∧ sizedMet enc Tryd.prog Tryd.f3 (OpenSpec.ofChange Rows.walkStandsSpec) false w args)
      (Rows.walkStandsSpec.post enc Tryd.prog Tryd.f3 false true false false) := by
  refine returnsInHanded_of_change_and (C := Tryd.checked) (X := fun w _ => laidMetH Tryd.prog laidL w) (fun _ _ _ hh h => h.of_heap hh) own started (by kernel_rfl) Tryd.func3
    (ChangeSpec.witness_shaped (enc := enc) (C := Tryd.checked) (os := os) (X := fun w _ => laidMetH Tryd.prog laidL w) false (World.doorLaid Tryd.prog 400 os) #[.slice none 0 0, .agg csr0, .int .i64 0, .int .i64 0, .int .u64 0, .int .u64 0] 8 rfl (World.shaped_of_RefB (by kernel_rfl) (by kernel_rfl)) (by kernel_rfl) (by kernel_rfl) (by kernel_rfl) (door_met os _)) ?_
  intro W base args ds gs before hval0 hW _ _ hL _
  have hval : ∀ (j : Nat) t v, Tryd.f3.params[j]? = some t → args[j]? = some v → Value.okWide Tryd.prog W .any base t v := hval0
  have hW' := hW
  obtain ⟨p, q, hA0, hV, rfl, hfz, hnd⟩ := hW
  have hA : DataW.TrodAll enc Tryd.prog W 0 (fun _ => true) true Tryd.f3.params.toList args.toList ds p := hA0
  have hAk := hA
  rw [Tryd.params3] at hA hval
  obtain ⟨v0, r0, d0, e0, p0, q0, ha, rfl, rfl, h0, hA⟩ := trodAll_cons hA
  obtain ⟨v1, r1, d1, e1, p1, q1, rfl, rfl, rfl, h1, hA⟩ := trodAll_cons hA
  obtain ⟨v2, r2, d2, e2, p2, q2, rfl, rfl, rfl, h2, hA⟩ := trodAll_cons hA
  obtain ⟨v3, r3, d3, e3, p3, q3, rfl, rfl, rfl, h3, hA⟩ := trodAll_cons hA
  obtain ⟨v4, r4, d4, e4, p4, q4, rfl, rfl, rfl, h4, hA⟩ := trodAll_cons hA
  obtain ⟨v5, r5, d5, e5, p5, q5, rfl, rfl, rfl, h5, hA⟩ := trodAll_cons hA
  obtain ⟨rfl, rfl, rfl⟩ := trodAll_nil hA
  obtain rfl : args = #[v0, v1, v2, v3, v4, v5] := Array.toList_inj.1 ha
  obtain ⟨rfl, rfl⟩ := trodVars_none hV
  have hI := inv_of_laid hL
  obtain ⟨m2, rfl, rfl, rfl, w2⟩ := open_int Tryd.underlying3 (hval 2 3 v2 rfl rfl) h2
  obtain ⟨m3, rfl, rfl, rfl, w3⟩ := open_int Tryd.underlying3 (hval 3 3 v3 rfl rfl) h3
  obtain ⟨m4, rfl, rfl, rfl, w4⟩ := open_int Tryd.underlying23 (hval 4 23 v4 rfl rfl) h4
  obtain ⟨m5, rfl, rfl, rfl, w5⟩ := open_int Tryd.underlying23 (hval 5 23 v5 rfl rfl) h5
  -- the registers
  obtain ⟨cs1, rfl, hc1⟩ := okWide_struct Tryd.underlying27 (hval 1 27 v1 rfl rfl)
  have h1' := h1
  obtain ⟨f1, h1'⟩ := h1'
  obtain ⟨⟨ns, n1, n2, n3, n4⟩, _⟩ := flat_trod 4 27 _ kinds27 _ _ _ h1'
  have n2' : cs1 = ((List.zipWith svOf csrK ns).map SV.val).toArray := by
    apply Array.toList_inj.1
    rw [← nums_vals n1 (by rw [← n3]; exact n4)]
    exact n2
  have hns : ns.length = 38 := by rw [n1]; rfl
  -- the image
  obtain ⟨a0, len, cap, rfl⟩ := okWide_slice Tryd.underlying22 (hval 0 22 v0 rfl rfl)
  obtain ⟨f0, h0'⟩ := h0
  have u64v : ∀ {n : Int}, (Lit.int .u64 n).wf = true → (Value.int .u64 n) = .int .u64 ((BitVec.ofInt 64 n).toNat : Int) := fun {n} h => (svOf_val h).symm
  have key : ∃ (g : Ghost) (l : List (BitVec 8)), l.length = len ∧ HRel ctx [g] [.ro (l.map .u8)] W (fun _ => False) ∧ VRel [g] (.sl 0 0 1 len none) (.slice a0 len cap) := by
    rcases open_ints (e := 5) (k := .u8) Tryd.underlying22 Tryd.underlying5 (by kernel_rfl) h0' with ⟨hcs, _⟩ | ⟨a, len', cap', zs, hcs, _, hle, _, hzl, _, hcell, hwf⟩
    · simp [Value.cells] at hcs
      obtain ⟨rfl, rfl, rfl⟩ := hcs
      exact ⟨⟨0, 0, 0, undef⟩, [], rfl, hrel_of hI (Seg.empty _ _ _), .sl0 (by simp)⟩
    · simp [Value.cells] at hcs
      obtain ⟨rfl, rfl, rfl⟩ := hcs
      simp only [if_true] at hzl
      by_cases hl0 : zs = []
      · subst hl0
        simp at hzl
        have hlen0 : len = 0 := by omega
        subst hlen0
        subst hzl
        exact ⟨⟨0, 0, 0, undef⟩, [], rfl, hrel_of hI (Seg.empty _ _ _), .sl0 (by simp)⟩
      · have hpos : 0 < zs.length := List.length_pos_iff.2 hl0
        have c0 := hcell 0 hpos
        have hfield : a.spot = none := by
          have e : a.add 0 = a := rfl
          rw [e] at c0
          unfold World.cell? at c0
          split at c0
          · split at c0
            · simp at c0
            · rename_i hs; simpa using hs
          · simp at c0
        obtain ⟨ab, ao, af⟩ := a
        simp only at hfield
        subst hfield
        refine ⟨⟨ab, ao, cap, undef⟩, (zs.take len).map (BitVec.ofInt 8), by simp; omega, hrel_of hI (fun k hk => ?_), ?_⟩
        · have hk0 : k < min len zs.length := by simpa using hk
          have hk' : k < zs.length := by omega
          have := hcell k hk'
          rw [addr_add] at this
          rw [this]
          have hw := hwf _ (List.getElem_mem hk')
          have hk2 : k < len := by omega
          have e1 : zs.getD k 0 = zs[k] := by rw [List.getD_eq_getElem?_getD, List.getElem?_eq_getElem hk', Option.getD_some]
          have e2 : ((((zs.take len).map (BitVec.ofInt 8)).map SV.u8).map SV.val)[k]? = some (svOf .u8 zs[k]).val := by
            simp only [List.getElem?_map, List.getElem?_take, if_pos hk2, List.getElem?_eq_getElem hk', Option.map_some]
            rfl
          rw [e1, e2, svOf_val hw]
        · exact .sl (g := ⟨ab, ao, cap, undef⟩) rfl hle (fun k hk => by simp at hk) (by simp)
  obtain ⟨g, l, hll, hH, hv⟩ := key
  have hcall := ws_calls (mode := m2) (kind := m3) (x := BitVec.ofInt 64 m4) (y := BitVec.ofInt 64 m5) hll hH hv hns
  rw [← n2', ← u64v w4, ← u64v w5] at hcall
  refine hcall.mono fun e W' ⟨he, hb⟩ => ?_
  subst he
  have hlt := hW'.lt
  refine ⟨_, rfl, _, _, _, [], _, [], hW', trodAll_mk1 (shut_bool Tryd.underlying4 true), belowAll laidOut hb reads3 hAk (fun x hx => hlt x (List.mem_append_left _ hx)), rfl, Below.frame hb _, fun h => by cases h⟩
theorem walkStands_row : Rows.WalkStandsSaid :=
  OpenClaim.holds_of_wide 3 Tryd.f3 rfl rfl rfl rfl rfl rfl rfl ⟨rfl, rfl, rfl, rfl, rfl⟩ rfl rfl rfl rfl rfl (by kernel_rfl) Tryd.func3 (by kernel_rfl)
    (of_decide_eq_true (by kernel_rfl)) (by unfold Func.isWrapper; first | (rw [if_pos (by decide +kernel)]; kernel_rfl) | (rw [if_neg (by decide +kernel)]; exact ⟨rfl, rfl⟩))
    (fun os started H enc _ => lifted os started H enc)
theorem walkStands_holds : Rows.WalkStandsCardSaid :=
  Claim7.holds_tied_plain_at .later [] [.data] true (true, "505c421a5a04c04688ed08db493a85ab79c98e3ff07b55cfe7e01a77b37eea10") false
    walkStands_row (fun _ h => by cases h) (by kernel_rfl) (fun _ h => by cases h) walkStands_row_tie rfl ⟨rfl, rfl⟩ (by kernel_rfl) rfl
    (fun f fn hf hfn => by
      obtain rfl : f = 3 := Option.some.inj ((show Tryd.prog.funcNamed "tandem/tandemlaw14.WalkStands" = some 3 by kernel_rfl).symm.trans hf) |>.symm
      obtain rfl : fn = Tryd.f3 := (Option.some.inj (Tryd.func3.symm.trans hfn)).symm
      exact ⟨by kernel_rfl, fun j t ht => by
        rw [Tryd.params3] at ht
        have hm : t ∈ [22, 27, 3, 3, 23, 23] := by simpa using Array.mem_of_getElem? ht
        have hall : ([22, 27, 3, 3, 23, 23].all fun u => !Tryd.prog.wantsStandIn u) = true := by kernel_rfl
        exact (show Tryd.prog.wantsStandIn t = false by simpa using List.all_eq_true.1 hall t hm)⟩)
    (by kernel_rfl)
#print axioms walkStands_holds
end Go.Proofs.YtjofkjbpiaihbaaDoor
