/-
  Quiet operations, one by one: 'aq' says what an operation that only computes or reads comes to; 'aq_sound' that the model's comes to what it stands for, the world as it was.
-/
import Derived.Test.YtjofkjbpiaihbaaDoorAEvC
namespace Go.AEv
open Go

variable {P : Program} {C : Ctx}

def smerge (t : Bool) : SV → SV → Option SV
  | .b x, .b y => some (.b (cond t x y))
  | .u8 x, .u8 y => some (.u8 (cond t x y))
  | .u16 x, .u16 y => some (.u16 (cond t x y))
  | .u32 x, .u32 y => some (.u32 (cond t x y))
  | .u64 x, .u64 y => some (.u64 (cond t x y))
  | .i k x, .i k' y => match kindEq k k' with
    | true => some (.i k (cond t x y))
    | false => none
  | .str x, .str y => some (.str (cond t x y))
  | _, _ => none
theorem smerge_val {t : Bool} {x y z : SV} (h : smerge t x y = some z) : z.val = cond t x.val y.val := by
  unfold smerge at h
  split at h <;> (try split at h) <;> first | (simp at h; done) | (cases h; cases t <;> first | rfl | (rename_i hk; rw [kindEq_eq hk]; rfl) | rfl)
def vmerge (t : Bool) (x y : AV) : Option AV :=
  match x, y with
  | .s x, .s y => match smerge t x y with
    | some z => some (.s z)
    | none => none
  | x, y => match t with
    | true => some x
    | false => some y
theorem VRel.s_inv {ρ : List Ghost} {x : SV} {v : Value} (h : VRel ρ (.s x) v) : v = x.val := by cases h; rfl
theorem vmerge_rel {ρ : List Ghost} {t : Bool} {x y z : AV} {v u : Value} (h : vmerge t x y = some z) (hx : VRel ρ x v) (hy : VRel ρ y u) : VRel ρ z (if t then v else u) := by
  unfold vmerge at h
  split at h
  · split at h
    · rename_i z' hz
      cases h
      have e : ∀ a b : Value, z'.val = cond t a b → VRel ρ (.s z') (if t then a else b) := fun a b hab => by
        have : (if t = true then a else b) = z'.val := by rw [hab]; cases t <;> rfl
        rw [this]; exact .s _
      rw [hx.s_inv, hy.s_inv]
      exact e _ _ (smerge_val hz)
    · simp at h
  · split at h <;> cases h
    · exact hx
    · exact hy

def apick (c a b : AV) : Option AV :=
  match c with
  | .s (.b t) => vmerge t a b
  | _ => none

/-! ### comparisons that are no numbers' -/
def acmp (P : Program) (t : TypeId) (x y : AV) : Option Bool :=
  match x, y with
  | .s (.b a), .s (.b b) => match P.underlying t with
    | some .bool => some (a == b)
    | _ => none
  | .ptr _ _, .nilp => match P.underlying t with
    | some (.pointer _) => some false
    | _ => none
  | .nilp, .ptr _ _ => match P.underlying t with
    | some (.pointer _) => some false
    | _ => none
  | .nilp, .nilp => match P.underlying t with
    | some (.pointer _) => some true
    | _ => none
  | .ifc _ _, .nilif => match P.underlying t with
    | some (.interface _) => some false
    | _ => none
  | .nilif, .ifc _ _ => match P.underlying t with
    | some (.interface _) => some false
    | _ => none
  | .fn _ _, .nilf => match P.underlying t with
    | some (.func _ _ _) => some false
    | _ => none
  | .nilf, .nilf => match P.underlying t with
    | some (.func _ _ _) => some true
    | _ => none
  | _, _ => none
def isConstNil : Operand → Bool
  | .const .nilIface => true
  | _ => false
def acmpOp (P : Program) (op : BinOp) (t : TypeId) (x y : AV) : Option AV :=
  match op with
  | .eql => match acmp P t x y with
    | some r => some (.s (.b r))
    | none => none
  | .neq => match acmp P t x y with
    | some r => some (.s (.b (!r)))
    | none => none
  | _ => none
def SV.isB : SV → Bool
  | .b _ => true
  | _ => false
def abin (P : Program) (op : BinOp) (t : TypeId) (x y : AV) : Option AV :=
  match x, y with
  | .s a, .s b => match a.isB with
    | true => acmpOp P op t (.s a) (.s b)
    | false => match sbin op a b with
      | some r => some (.s r)
      | none => none
  | x, y => acmpOp P op t x y

theorem acmp_sound {ρ : List Ghost} {t : TypeId} {x y : AV} {v u : Value} {r : Bool} (h : acmp P t x y = some r) (hx : VRel ρ x v) (hy : VRel ρ y u) (w : World) :
    (Op.equal t v u).run P w = .ok r w ∧ (∀ op, (binOp op t v u) = match op with
      | .eql => (do pure (.bool (← Op.equal t v u)))
      | .neq => (do pure (.bool (!(← Op.equal t v u))))
      | op => binOp op t v u) ∧ ∀ op o1 o2, (eqGuard op t o1 o2 v u).run P w = .ok () w := by
  unfold acmp at h
  split at h <;> first | (simp at h; done) | (split at h <;> first | (simp at h; done) | skip)
  all_goals
    rename_i hu
    cases h
    cases hx
    cases hy
    refine ⟨?_, fun op => by cases op <;> rfl, fun op o1 o2 => by cases op <;> rfl⟩
  all_goals
    rw [show ∀ a b, Op.equal t a b = Op.equalIn (9999 + 1) t a b from fun _ _ => rfl, Op.equalIn]
    simp [run_underlying hu, SV.val]

theorem run_v {s : Sem Value} {v : Value} {w w' : World} (h : s.run P w = .ok v w') : ((do pure (Next.value (← s)) : Sem Next)).run P w = .ok (.value v) w' := by
  simp [h]
theorem run_unit {s : Sem Unit} {β : Type} {f : Sem β} {w w' : World} (h : s.run P w = .ok () w') : ((do s; f : Sem β)).run P w = f.run P w' := by
  simp [h]

theorem eqGuard_int (op : BinOp) (t : TypeId) (o1 o2 : Operand) (a b : SV) (w : World) : (eqGuard op t o1 o2 a.val b.val).run P w = .ok () w := by
  cases op <;> cases a <;> cases b <;> rfl

theorem abin_sound {ρ : List Ghost} {op : BinOp} {t : TypeId} {x y z : AV} {v u : Value} (h : abin P op t x y = some z) (hx : VRel ρ x v) (hy : VRel ρ y u) (o1 o2 : Operand) (w : World) :
    ∃ r, (do eqGuard op t o1 o2 v u; binOp op t v u : Sem Value).run P w = .ok r w ∧ VRel ρ z r := by
  have key : ∀ (z' : AV), acmpOp P op t x y = some z' → ∃ r, (do eqGuard op t o1 o2 v u; binOp op t v u : Sem Value).run P w = .ok r w ∧ VRel ρ z' r := by
    intro z' h
    unfold acmpOp at h
    split at h
    · split at h
      · rename_i r hr
        cases h
        obtain ⟨h1, h2, h3⟩ := acmp_sound hr hx hy w
        refine ⟨.bool r, ?_, .s (.b r)⟩
        rw [run_unit (h3 _ _ _), h2]
        simp [h1]
      · simp at h
    · split at h
      · rename_i r hr
        cases h
        obtain ⟨h1, h2, h3⟩ := acmp_sound hr hx hy w
        refine ⟨.bool (!r), ?_, .s (.b (!r))⟩
        rw [run_unit (h3 _ _ _), h2]
        simp [h1]
      · simp at h
    · simp at h
  unfold abin at h
  split at h
  · split at h
    · exact key z h
    · split at h
      · rename_i r hr
        cases h
        rw [hx.s_inv, hy.s_inv, run_unit (eqGuard_int _ _ _ _ _ _ _)]
        exact ⟨_, sbin_sound hr t w, .s _⟩
      · simp at h
  · exact key z h

/-! ### conversions -/
def acv (P : Program) (src dst : TypeId) (x : AV) : Option AV :=
  match P.underlying src with
  | some _ => match P.underlying dst, x with
    | some (.int k), .s x => match scv k x with
      | some r => some (.s r)
      | none => none
    | _, _ => none
  | none => none
theorem acv_sound {ρ : List Ghost} {src dst : TypeId} {x z : AV} {v : Value} (h : acv P src dst x = some z) (hx : VRel ρ x v) (w : World) :
    ∃ r, (convert src dst v).run P w = .ok r w ∧ VRel ρ z r := by
  unfold acv at h
  split at h
  · rename_i d hd
    split at h
    · rename_i k y hk
      split at h
      · rename_i r hr
        cases h
        obtain ⟨j, n, h1, h2⟩ := scv_sound hr
        rw [hx.s_inv, h1]
        refine ⟨r.val, ?_, .s _⟩
        rw [h2]
        simp only [convert, Sem.run_bind, run_underlying hd, run_underlying hk, Result.andThen]
        rfl
      · simp at h
    · simp at h
  · simp at h

/-! ### places -/
def fieldOff (P : Program) (s : TypeId) (f : Nat) : Option Nat :=
  match P.underlying s with
  | some (.struct fields) => match fields[f]? with
    | some fd => match szB P fd.type with
      | some 0 => none
      | some _ => some fd.offset
      | none => none
    | none => none
  | _ => none
def afield (P : Program) (s : TypeId) (x : AV) (f : Nat) : Option AV :=
  match x with
  | .ptr i off => match fieldOff P s f with
    | some o => some (.ptr i (off + o))
    | none => none
  | _ => none
theorem afield_sound {ρ : List Ghost} {s : TypeId} {f : Nat} {x z : AV} {v : Value} (h : afield P s x f = some z) (hx : VRel ρ x v) (w : World) :
    ∃ r, (Instr.fieldAt s v f).run P w = .ok r w ∧ VRel ρ z r := by
  unfold afield at h
  split at h
  · split at h
    · rename_i o ho
      cases h
      unfold fieldOff at ho
      split at ho
      · rename_i fields hf
        split at ho
        · rename_i fd hfd
          split at ho
          · simp at ho
          · rename_i n hn0 hn
            cases ho
            cases hx with
            | ptr hg =>
              refine ⟨_, ?_, .ptr hg⟩
              have hn' : n ≠ 0 := fun e => hn0 (by rw [e])
              simp [Instr.fieldAt, run_underlying hf, hfd, Instr.sureAddr, fieldPlace, run_sizeOf' hn, hn', addr_add, Nat.add_assoc]
          · simp at ho
        · simp at ho
      · simp at ho
    · simp at h
  · simp at h

def anum : AV → Option Int
  | .s x => x.num
  | _ => none
theorem anum_rel {ρ : List Ghost} {x : AV} {n : Int} {v : Value} (h : anum x = some n) (hx : VRel ρ x v) : ∃ k, v = .int k n := by
  unfold anum at h
  split at h
  · rw [hx.s_inv]; exact num_val h
  · simp at h
def aindexAddr (P : Program) (t : TypeId) (x i : AV) : Option AV :=
  match anum i with
  | some n => match P.underlying t with
    | some (.array len elem) => match x, szB P elem with
      | .ptr b off, some sz => match decide (0 ≤ n ∧ n < (len : Int)) with
        | true => some (.ptr b (off + n.toNat * sz))
        | false => none
      | _, _ => none
    | some (.slice elem) => match x, szB P elem with
      | .sl b off _ len _, some sz => match decide (0 ≤ n ∧ n < (len : Int)) with
        | true => some (.ptr b (off + n.toNat * sz))
        | false => none
      | _, _ => none
    | _ => none
  | none => none
theorem aindexAddr_sound {ρ : List Ghost} {t : TypeId} {x i z : AV} {v u : Value} (h : aindexAddr P t x i = some z) (hx : VRel ρ x v) (hi : VRel ρ i u) (w : World) :
    ∃ r, (Instr.indexAt t v u).run P w = .ok r w ∧ VRel ρ z r := by
  unfold aindexAddr at h
  split at h
  · rename_i n hn
    obtain ⟨k, rfl⟩ := anum_rel hn hi
    split at h
    · rename_i len elem hu
      split at h
      · rename_i b off sz hsz
        split at h
        · rename_i hd
          cases h
          have hd' := of_decide_eq_true hd
          cases hx with
          | ptr hg =>
            refine ⟨_, ?_, .ptr hg⟩
            simp [Instr.indexAt, asIntOf, run_underlying hu, Instr.sureAddr, hd', run_sizeOf' hsz, addr_add, Nat.add_assoc]
        · simp at h
      · simp at h
    · rename_i elem hu
      split at h
      · rename_i b off es len cap sz hsz
        split at h
        · rename_i hd
          cases h
          have hd' := of_decide_eq_true hd
          cases hx with
          | sl hg hl hc hn =>
            refine ⟨_, ?_, .ptr hg⟩
            simp [Instr.indexAt, asIntOf, run_underlying hu, hd', run_sizeOf' hsz, addr_add, Nat.add_assoc]
          | sl0 hc => simp at hd'; omega
        · simp at h
      · simp at h
    · simp at h
  · simp at h

/-! ### parts of values -/
def apart (P : Program) (t : TypeId) (cs : List AV) (off : Nat) : Option AV :=
  match isAggB P t with
  | some false => nth cs off
  | some true => match szB P t with
    | some n => match sliceL cs off n with
      | some l => some (.agg l)
      | none => none
    | none => none
  | none => none
theorem apart_sound {ρ : List Ghost} {t : TypeId} {cs : List AV} {vs : Array Value} {off : Nat} {z : AV} (h : apart P t cs off = some z) (hv : VsRel ρ cs vs.toList) (w : World) :
    ∃ r, (part t vs off).run P w = .ok r w ∧ VRel ρ z r := by
  unfold apart at h
  split at h
  · rename_i ha
    rw [nth_eq] at h
    obtain ⟨v, h1, h2⟩ := hv.get h
    exact ⟨v, by simp [part, run_isAgg ha, show vs[off]? = some v by simpa using h1], h2⟩
  · rename_i ha
    split at h
    · rename_i n hn
      split at h
      · rename_i l hl
        cases h
        refine ⟨_, by simp [part, run_isAgg ha, run_sizeOf' hn]; rfl, .agg' ?_⟩
        have := hv.take hl
        simpa [List.take_drop, Array.toList_extract] using this
      · simp at h
    · simp at h
  · simp at h
end Go.AEv
