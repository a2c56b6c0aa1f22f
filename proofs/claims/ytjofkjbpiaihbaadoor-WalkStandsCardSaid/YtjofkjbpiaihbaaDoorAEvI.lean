/-
  Operations that turn memory or call: 'ae' says what such an operation comes to, 'ae_sound' that the model's does.
-/
import Derived.Test.YtjofkjbpiaihbaaDoorAEvH
import Derived.Deep.AppendSrc
namespace Go.AEv
open Go

variable {P : Program} {C : Ctx}

/-- What a function does, as a transformer: arguments, memory, what is wanted where it returns, what where it panics. -/
def FSpec (X : Type) := List AV → List (Blk X) → (AV → List (Blk X) → Prop) → (AV → List (Blk X) → Prop) → Prop
def CallPost (C : Ctx) (ρ : List Ghost) (w : World) (fp : Nat → Prop) (K Kp : AV → List (Blk C.X) → Prop) (e : Ending) (w' : World) : Prop :=
  match e with
  | .returned x => ∃ v m' ρ' fp', K v m' ∧ St ρ w fp ρ' w' fp' ∧ VRel ρ' v x ∧ HRel C ρ' m' w' fp'
  | .panicked ch => ∃ v m' ρ' fp' x, ch = [{ v := x, recovered := false }] ∧ Kp v m' ∧ St ρ w fp ρ' w' fp' ∧ VRel ρ' v x ∧ HRel C ρ' m' w' fp'
  | .outgrown => False
def FSound (C : Ctx) (f : FuncId) (s : FSpec C.X) : Prop :=
  ∀ args m K Kp, s args m K Kp → (∀ as w, (callFunc f as).run C.P w = .ok (.enter f as) w) ∧
    ∀ ρ w fp vs, VsRel ρ args vs → HRel C ρ m w fp → Calls C.P f vs.toArray w (CallPost C ρ w fp K Kp)

/-- What is behind an operation. -/
def Behind (C : Ctx) (ρ : List Ghost) (w : World) (fp : Nat → Prop) (K : AV → List (Blk C.X) → Prop) (x : Value) (w' : World) : Prop :=
  ∃ v m' ρ' fp', K v m' ∧ St ρ w fp ρ' w' fp' ∧ VRel ρ' v x ∧ HRel C ρ' m' w' fp'

/-- What is known of the functions, of the methods behind interfaces, and of operations of one's own. -/
structure Lib (X : Type) where
  Γ : FuncId → FSpec X
  μ : TypeId → String → Option FuncId
  hook : (Operand → AV) → List (Blk X) → Oper → (AV → List (Blk X) → Prop) → Prop
structure LibSound (C : Ctx) (L : Lib C.X) : Prop where
  Γ : ∀ f, FSound C f (L.Γ f)
  hook : ∀ {ρ : List Ghost} {m : List (Blk C.X)} {w : World} {fp : Nat → Prop} {ev : Operand → AV} {rv : Operand → Value} {o : Oper} {K : AV → List (Blk C.X) → Prop}, HRel C ρ m w fp → (∀ x, VRel ρ (ev x) (rv x)) → L.hook ev m o K →
    (∃ x w', (execOp rv o).run C.P w = .ok (.value x) w' ∧ Behind C ρ w fp K x w') ∨ ∃ w', (execOp rv o).run C.P w = .ok .skip w' ∧ Behind C ρ w fp K undef w'
  congr : ∀ {ev ev' : Operand → AV} {m : List (Blk C.X)} {o : Oper} {K : AV → List (Blk C.X) → Prop}, (∀ x ∈ o.op.operands, ev x = ev' x) → L.hook ev m o K = L.hook ev' m o K
  μ : ∀ t name f, L.μ t name = some f → ∀ a args w, (callMethod (.iface t (.pointer (some a))) name args).run C.P w = (callFunc f (#[.pointer (some a)] ++ args)).run C.P w

def oneAV : AV → Bool
  | .agg _ => false
  | .tup _ => false
  | .opq _ => false
  | .any => false
  | _ => true
def allOne : List AV → Bool
  | [] => true
  | x :: r => match oneAV x with
    | true => allOne r
    | false => false
theorem oneAV_val {ρ : List Ghost} {x : AV} {v : Value} (h : oneAV x = true) (hx : VRel ρ x v) : v.oneCell' = true := by
  cases hx with
  | s y => cases y <;> rfl
  | agg => simp [oneAV] at h
  | tup => simp [oneAV] at h
  | opq => simp [oneAV] at h
  | any => simp [oneAV] at h
  | _ => rfl
theorem allOne_vals {ρ : List Ghost} : ∀ {cs : List AV} {vs : List Value}, allOne cs = true → VsRel ρ cs vs → ∀ v ∈ vs, v.oneCell' = true
  | [], vs, _, hv, v, hm => by have := List.length_eq_zero_iff.1 hv.1.symm; subst this; simp at hm
  | x :: r, [], _, hv, v, hm => by simp at hm
  | x :: r, u :: us, h, hv, v, hm => by
    simp only [allOne] at h
    split at h
    · rename_i h1
      rcases List.mem_cons.1 hm with rfl | hm
      · exact oneAV_val h1 (hv.2 0 _ _ rfl rfl)
      · exact allOne_vals h ⟨by simpa using hv.1, fun k a b ha hb => hv.2 (k + 1) a b (by simpa using ha) (by simpa using hb)⟩ v hm
    · simp at h

/-- What is appended. -/
def appSrc {X : Type} (m : List (Blk X)) (sz : Nat) (x : AV) : Option (List SV × Nat) :=
  match x with
  | .sl i off _ n _ => match n with
    | 0 => some ([], 0)
    | n + 1 => match nth m i with
      | some blk => match blk.cells off ((n + 1) * sz) with
        | some l => match allS l with
          | some s => some (s, n + 1)
          | none => none
        | none => none
      | none => none
  | .s (.str s) => match decide (sz = 1) with
    | true => some (s.data.toList.map (fun b => .u8 b.toBitVec), s.size)
    | false => none
  | _ => none
def Blk.isVec {X : Type} : Blk X → Option (List SV)
  | .vec c => some c
  | _ => none

def isSrc : TypeDesc → Bool
  | .slice _ => true
  | .string => true
  | _ => false
def aappend {X : Type} (P : Program) (st : TypeId) (xt : TypeId) (m : List (Blk X)) (s x : AV) (K : AV → List (Blk X) → Prop) : Prop :=
  match P.underlying st, P.underlying xt with
  | some (.slice el), some xd => match P.info? el, azero P el, s, isSrc xd with
    | some ie, some zs, .sl i off es len cap, true => match appSrc m ie.size x, decide (zs.length = ie.size) with
      | some (new, n), true => match decide ((len + n) * ie.bytes ≤ 2 ^ 47 ∧ len + n < 2 ^ 62) with
        | true => match cap with
          | some c => match decide (len + n ≤ c) with
            | true => match n with
              | 0 => K (.sl i off es len (some c)) m
              | n + 1 => match nth m i with
                | some blk => match blk.put (off + len * ie.size) (new.map .s), decide (es = ie.size) with
                  | some blk', true => K (.sl i off es (len + (n + 1)) (some c)) (setAt m i blk')
                  | _, _ => False
                | none => False
            | false => match appSrc m ie.size s with
              | some (old, _) => K (.sl m.length 0 ie.size (len + n) none) (m ++ [.vec (old ++ new)])
              | none => False
          | none => match nth m i with
            | some blk => match blk.isVec, decide (es = ie.size) with
              | some c, true => match sliceL c off (len * ie.size) with
                | some old => K (.sl m.length 0 ie.size (len + n) none) (setAt m i .dead ++ [.vec (old ++ new)])
                | none => False
              | _, _ => False
            | none => False
        | false => False
      | _, _ => False
    | _, _, _, _ => False
  | _, _ => False

/-- May it be written there? And what is there then. -/
def Blk.canPut {X : Type} : Blk X → Nat → List AV → Bool
  | .row c, off, cs => decide (off + cs.length ≤ c.length)
  | .flat c, off, cs => match allS cs with
    | some l => decide (off + l.length ≤ c.length)
    | none => false
  | .vec c, off, cs => match allS cs with
    | some l => decide (off + l.length ≤ c.length)
    | none => false
  | _, _, _ => false
def Blk.putF {X : Type} : Blk X → Nat → List AV → Blk X
  | .row c, off, cs => .row (putL c off cs)
  | .flat c, off, cs => match allS cs with
    | some l => .flat (putL c off l)
    | none => .dead
  | .vec c, off, cs => match allS cs with
    | some l => .vec (putL c off l)
    | none => .dead
  | b, _, _ => b
theorem Blk.put_of {X : Type} {blk : Blk X} {off : Nat} {cs : List AV} (h : blk.canPut off cs = true) : blk.put off cs = some (blk.putF off cs) := by
  unfold Blk.canPut at h
  unfold Blk.put Blk.putF
  split at h
  · simp only [h]
  · split at h
    · rename_i l hl; simp only [hl, h]
    · simp at h
  · split at h
    · rename_i l hl; simp only [hl, h]
    · simp at h
  · simp at h
def ae {X : Type} (P : Program) (L : Lib X) (ev : Operand → AV) (m : List (Blk X)) (o : Oper) (K Kp : AV → List (Blk X) → Prop) : Prop :=
  match o.op with
  | .store t a x => match ev a with
    | .ptr i off => match avCells (ev x), szB P t with
      | some cs, some n => match decide (cs.length = n), allOne cs, nth m i with
        | true, true, some blk => match blk.canPut off cs with
          | true => K .any (setAt m i (blk.putF off cs))
          | false => False
        | _, _, _ => False
      | _, _ => False
    | _ => False
  | .alloc t => match azero P t with
    | some cs => K (.ptr m.length 0) (m ++ [mkBlk cs])
    | none => False
  | .box _ x => match avCells (ev x) with
    | some cs => K (.ptr m.length 0) (m ++ [mkBlk cs])
    | none => False
  | .panic x => match ev x with
    | .ifc t v => Kp (.ifc t v) m
    | _ => False
  | .call c => match c.callee with
    | .value f => match ev f with
      | .fn (.func fid) caps => L.Γ fid (c.args.toList.map ev ++ caps) m K Kp
      | _ => False
    | .invoke r name => match ev r with
      | .ifc t (.ptr i off) => match L.μ t name with
        | some fid => L.Γ fid (.ptr i off :: c.args.toList.map ev) m K Kp
        | none => False
      | _ => False
    | .builtin .append => match c.args.toList, c.argTypes.toList with
      | [s, x], [st, xt] => aappend P st xt m (ev s) (ev x) K
      | _, _ => False
    | .builtin _ => L.hook ev m o K
  | _ => L.hook ev m o K

theorem storeVar_run {t : TypeId} {n : Nat} {a : Addr} {v : Value} {w w' : World} (hn : szB P t = some n) (hv : v.cells.size = n) (h : (storeCells a v.cells.toList 0).run P w = .ok () w') :
    (storeVar t a v).run P w = .ok () w' := by
  simp [storeVar, run_sizeOf' hn, hv, h]

theorem vsRel_map_s {ρ : List Ghost} (l : List SV) : VsRel ρ (l.map .s) (l.map SV.val) := vsRel_s ρ l
theorem appSrc_sound {ρ : List Ghost} {m : List (Blk C.X)} {w : World} {fp : Nat → Prop} (hH : HRel C ρ m w fp) {sz n : Nat} {x : AV} {v : Value} {l : List SV} (h : appSrc m sz x = some (l, n)) (hx : VRel ρ x v) :
    l.length = n * sz ∧ (∀ w', (Builtin.lenOf v).run P w' = .ok n w') ∧ ∀ w', (∀ b, b < w.heap.size → w'.heap[b]? = w.heap[b]?) → (Builtin.firstCells sz n v).run P w' = .ok (l.map SV.val).toArray w' := by
  unfold appSrc at h
  split at h
  · split at h
    · cases h
      cases hx with
      | sl h1 h2 h3 h4 => exact ⟨by simp, fun _ => rfl, fun w' _ => by simp [Builtin.firstCells, loadCells, loadCellsFrom]⟩
      | @sl0 _ _ _ _ a h1 =>
        refine ⟨by simp, fun _ => rfl, fun w' _ => ?_⟩
        cases a <;> simp [Builtin.firstCells, loadCells, loadCellsFrom]
    · rename_i i off es len cap n'
      split at h
      · rename_i blk hblk
        split at h
        · rename_i c hc
          split at h
          · rename_i s hs
            cases h
            cases hx with
            | @sl _ _ _ _ c2 _ g h1 h2 h3 h4 =>
              have := allS_eq hs; subst this
              obtain ⟨W, R, hsep, _⟩ := hH
              have hmi : m[i]? = some blk := by rw [← nth_eq]; exact hblk
              have hB := hsep.blk i blk _ hmi h1
              obtain ⟨vs, e1, e2, e3⟩ := Blk.cells_sound hB hc
              have := vsRel_s_inv e2; subst this
              refine ⟨by simpa using e1, fun _ => rfl, fun w' hw' => ?_⟩
              have hlt : ∀ j v, (l.map SV.val)[j]? = some v → w'.cell? ⟨g.b, g.o + off + j, none⟩ = some v := by
                intro j v hj
                have e := e3 j v hj
                have hbl : g.b < w.heap.size := by
                  by_cases hh : g.b < w.heap.size
                  · exact hh
                  · exfalso
                    unfold World.cell? at e
                    rw [Array.getElem?_eq_none (show w.heap.size ≤ g.b by omega)] at e
                    simp at e
                rw [World.cell?_of_block (w := w) (w' := w') (hw' _ hbl)]
                exact e
              have := run_loadCells_list (P := P) w' ⟨g.b, g.o + off, none⟩ (l.map SV.val) (fun j v hj => by rw [addr_add]; exact hlt j v hj)
              rw [e1] at this
              simp only [Builtin.firstCells]
              exact this
          · simp at h
        · simp at h
      · simp at h
  · rename_i s
    split at h
    · rename_i hd
      have h1 := of_decide_eq_true hd
      subst h1
      cases h
      have := hx.s_inv
      subst this
      refine ⟨by rw [List.length_map, Nat.mul_one]; rfl, fun _ => rfl, fun w' _ => ?_⟩
      simp only [Builtin.firstCells, SV.val, Sem.run_pure]
      rw [ByteArray.extract_zero_size]
      congr 1
      apply Array.ext'
      simp only [Array.toList_map, List.map_map]
      rfl
    · simp at h
  · simp at h
theorem growBy_le : ∀ (r c need : Nat), 256 ≤ c → c < 2 * need → Builtin.growBy need r c ≤ 2 * need ∨ Builtin.growBy need r c = c
  | 0, c, need, _, _ => .inr rfl
  | r + 1, c, need, h, h2 => by
    simp only [Builtin.growBy]
    split
    · exact .inr rfl
    · rename_i hn
      rcases growBy_le r (c + (c + 768) / 4) need (by omega) (by omega) with h1 | h1
      · exact .inl h1
      · exact .inl (by rw [h1]; omega)
theorem nextcap_le {need c : Nat} (h : c < need) : Builtin.nextslicecap need c ≤ 2 * need := by
  unfold Builtin.nextslicecap
  split
  · omega
  · split
    · omega
    · rcases growBy_le 4 c need (by omega) (by omega) with h1 | h1 <;> omega
theorem sv_one (l : List SV) : ∀ u ∈ l.map SV.val, u.oneCell' = true := by
  intro u hu
  obtain ⟨x, _, rfl⟩ := List.mem_map.1 hu
  cases x <;> rfl
theorem drew_heap (w : World) : w.drew.heap = w.heap := rfl
theorem Fr.drew (fp : Nat → Prop) (w : World) : Fr fp w w.drew := ⟨Nat.le_refl _, fun _ _ _ => rfl, rfl, rfl, rfl⟩
theorem HRel.drew {ρ : List Ghost} {m : List (Blk C.X)} {w : World} {fp : Nat → Prop} (h : HRel C ρ m w fp) : HRel C ρ m w.drew fp := by
  obtain ⟨W, R, hs, hf⟩ := h
  exact ⟨W, R, hs.grow (Nat.le_refl _) (fun _ _ => rfl), hf⟩
theorem vec_new {ρ : List Ghost} (c : List SV) (rest : List Value) (w : World) (t : TypeId) (v : Value) :
    BRel C ρ ⟨w.heap.size, 0, c.length + rest.length, v⟩ (w.alloc (.cells (c.map SV.val ++ rest).toArray t (0, 0))) (.vec c) (fun b => b = w.heap.size ∧ c.length + rest.length ≠ 0) (fun _ => False) := by
  refine ⟨fun k hk => ?_, unfrozen_new w _ t _, by simp, fun k hk => ?_, fun b => Iff.rfl, fun _ h => h⟩
  · have hk' : k < (c.map SV.val).length := hk
    rw [cell_new]
    simp only [Nat.zero_add, List.getElem?_toArray]
    rw [List.getElem?_append_left hk']
  · simp only at hk
    rw [cell_new]
    simp only [Nat.zero_add, List.getElem?_toArray]
    rw [List.getElem?_eq_getElem (by simp; omega)]; rfl

theorem aappend_sound {ρ : List Ghost} {m : List (Blk C.X)} {w : World} {fp : Nat → Prop} (hH : HRel C ρ m w fp) {st xt ty : TypeId} {s x : AV} {v u : Value} {K : AV → List (Blk C.X) → Prop}
    (h : aappend P st xt m s x K) (hs : VRel ρ s v) (hx : VRel ρ x u) :
    ∃ r w', (Builtin.append_ #[st, xt] ty #[v, u]).run P w = .ok r w' ∧ Behind C ρ w fp K r w' := by
  unfold aappend at h
  split at h
  case h_2 => exact h.elim
  rename_i el xd hu hxu
  split at h
  case h_2 => exact h.elim
  rename_i ie zs i off es len cap hie hz hsrc
  split at h
  case h_2 => exact h.elim
  rename_i new n hnew hzl
  have hzl' := of_decide_eq_true hzl
  split at h
  case h_2 => exact h.elim
  rename_i hd
  obtain ⟨hd1, hd2⟩ := of_decide_eq_true hd
  have hkind : (∃ e', P.underlying xt = some (.slice e')) ∨ P.underlying xt = some .string := by
    cases xd <;> simp [isSrc] at hsrc
    · exact .inr hxu
    · exact .inl ⟨_, hxu⟩
  obtain ⟨z, hz1, hz2⟩ : ∃ z, ie.zero = some z ∧ z.cells.size = ie.size := by
    unfold azero at hz
    rw [hie] at hz
    simp only at hz
    split at hz
    · rename_i z hzz; cases hz; exact ⟨z, hzz, by simpa using hzl'⟩
    · simp at hz
  obtain ⟨hnl, hnlen, hncells⟩ := appSrc_sound (P := P) hH hnew hx
  have hsrcu : Src P ie.size xt u n (new.map SV.val) w := ⟨hkind, hnlen, hncells w (fun _ _ => rfl), hncells w.drew (fun _ _ => rfl), by simpa using hnl, sv_one new⟩
  -- a new array
  have grows : ∀ (a : Option Addr) (c : Nat) (old : List SV), v = .slice a len c → c < len + n → (Builtin.firstCells ie.size len (.slice a len c)).run P w.drew = .ok (old.map SV.val).toArray w.drew → old.length = len * ie.size →
      ∀ m0, HRel C ρ m0 w fp → K (.sl m.length 0 ie.size (len + n) none) (m0 ++ [.vec (old ++ new)]) → m0.length = m.length →
      ∃ r w', (Builtin.append_ #[st, xt] ty #[v, u]).run P w = .ok r w' ∧ Behind C ρ w fp K r w' := by
    intro a c old hv hc hold holen m0 hm0 hK hml
    subst hv
    have hfit : Builtin.nextslicecap (len + n) c * ie.bytes ≤ 281474976710656 := by
      have := Nat.mul_le_mul_right ie.bytes (nextcap_le hc)
      rw [Nat.mul_assoc] at this
      omega
    have hrun := run_append_grow_src (P := P) w st xt ty el ie z hu hie hz1 a len c (old.map SV.val) hold u n (new.map SV.val) hsrcu hc (by omega) hfit
    refine ⟨_, _, hrun, ?_⟩
    generalize hcap : grownCap w (len + n) c el = cp
    have hcp : len + n ≤ cp := by rw [← hcap]; simp [grownCap, Question.cut]
    generalize hrest : (Builtin.zeroCells z.cells (cp - (len + n))).toList = rest
    have hrl : rest.length = (cp - (len + n)) * ie.size := by rw [← hrest]; simp [Builtin.zeroCells, hz2]
    have harr : (old.map SV.val ++ new.map SV.val).toArray ++ Builtin.zeroCells z.cells (cp - (len + n)) = ((old ++ new).map SV.val ++ rest).toArray := by
      apply Array.ext'; simp [← hrest]
    rw [harr]
    obtain ⟨W, R, hsep, hf⟩ := hm0
    have hsep2 := hsep.grow (w' := w.drew.alloc (.cells ((old ++ new).map SV.val ++ rest).toArray el (0, 0))) (by rw [alloc_size]; exact Nat.le_succ _) (fun b hb => alloc_get_lt w.drew _ hb)
    have hB := vec_new (C := C) (ρ := ρ ++ [⟨w.drew.heap.size, 0, (old ++ new).length + rest.length, undef⟩]) (old ++ new) rest w.drew el undef
    refine ⟨_, _, ρ ++ [⟨w.drew.heap.size, 0, (old ++ new).length + rest.length, undef⟩], (fun b => fp b ∨ b = w.heap.size), hK, ⟨⟨_, rfl⟩, ⟨by rw [alloc_size]; exact Nat.le_succ _, fun b hb _ => alloc_get_lt w.drew _ hb, rfl, rfl, rfl⟩, ?_⟩, ?_, ?_⟩
    · rintro b (hb | rfl)
      · exact .inl hb
      · exact .inr (Nat.le_refl _)
    · rw [← hml]
      refine .sl (g := ⟨w.drew.heap.size, 0, (old ++ new).length + rest.length, undef⟩) (by rw [← hsep.len]; simp) hcp (fun k hk => by simp at hk) ?_
      simp only [List.length_append, holen, hnl, hrl]
      rw [← Nat.add_mul, ← Nat.add_mul, Nat.mul_comm, show len + n + (cp - (len + n)) = cp by omega]
      exact Nat.le_of_eq (Nat.zero_add _)
    · refine ⟨_, _, hsep2.push hB ?_ ?_ ?_ ?_ ?_, ?_⟩
      · rintro b (⟨rfl, _⟩ | hb)
        · rw [alloc_size]; exact Nat.lt_succ_self _
        · exact hb.elim
      · rintro b ⟨rfl, _⟩; exact hsep.nGle
      · rintro i b ⟨rfl, _⟩
        exact ⟨fun hw => by have := hsep.lt i _ (.inl hw); exact absurd this (Nat.lt_irrefl _), fun hw => by have := hsep.lt i _ (.inr hw); exact absurd this (Nat.lt_irrefl _)⟩
      · intro i b hb; exact hb.elim
      · intro b _ hb; exact hb
      · intro i b hb
        simp only [addS] at hb
        split at hb
        · exact .inr hb.1
        · exact .inl (hf i b hb)
  split at h
  · -- the capacity is known
    rename_i c
    split at h
    · rename_i hroom
      have hroom' := of_decide_eq_true hroom
      have hcv : ∃ a, v = .slice a len c := by
        cases hs with
        | sl h1 h2 h3 h4 => rw [h3 _ rfl]; exact ⟨_, rfl⟩
        | sl0 h1 => rw [h1 _ rfl]; exact ⟨_, rfl⟩
      obtain ⟨a, rfl⟩ := hcv
      split at h
      · -- nothing is appended
        have hn0 : new = [] := List.length_eq_zero_iff.1 (by simpa using hnl)
        subst hn0
        have hroom2 : len ≤ c := by simpa using hroom'
        refine ⟨.slice a len c, w, ?_, _, _, _, _, h, .refl _ _ _, hs, hH⟩
        cases a with
        | none =>
          have hk := hsrcu.kind
          rcases hk with ⟨e', hk⟩ | hk <;> simp [Builtin.append_, run_underlying hu, run_underlying hk, sizeOf, typeInfo, hie, hsrcu.len, hroom2, hsrcu.cells]
        | some a =>
          have hk := hsrcu.kind
          rcases hk with ⟨e', hk⟩ | hk <;> simp [Builtin.append_, run_underlying hu, run_underlying hk, sizeOf, typeInfo, hie, hsrcu.len, hroom2, hsrcu.cells, storeCells]
      · rename_i n'
        split at h
        case h_2 => exact h.elim
        rename_i blk hblk
        split at h
        case h_2 => exact h.elim
        rename_i blk' hput hes
        have hes' := of_decide_eq_true hes
        subst hes'
        cases hs with
        | sl0 h1 => have := h1 _ rfl; omega
        | @sl _ _ _ _ _ _ g h1 h2 h3 h4 =>
          obtain ⟨w', e1, e2, e3⟩ := hH.put (P := P) hblk h1 hput (vsRel_s ρ new) (sv_one new)
          refine ⟨.slice (some ⟨g.b, g.o + off, none⟩) (len + (n' + 1)) c, w', ?_, _, _, ρ, fp, h, ⟨.refl _, e3, fun _ hb => .inl hb⟩, .sl h1 hroom' h3 h4, e2⟩
          have hk := hsrcu.kind
          have hst : (storeCells ((⟨g.b, g.o + off, none⟩ : Addr).add (len * ie.size)) (new.map SV.val) 0).run P w = .ok () w' := by
            rw [addr_add, Nat.add_assoc]; exact e1
          rcases hk with ⟨e', hk⟩ | hk <;> simp [Builtin.append_, run_underlying hu, run_underlying hk, sizeOf, typeInfo, hie, hsrcu.len, hroom', hsrcu.cells, hst]
    · rename_i hroom
      have hroom' : ¬ (len + n ≤ c) := of_decide_eq_false hroom
      split at h
      case h_2 => exact h.elim
      rename_i old n0 hold
      have hn0 : n0 = len := by
        unfold appSrc at hold
        simp only at hold
        split at hold
        · simp at hold; exact hold.2.symm
        · split at hold
          · split at hold
            · split at hold
              · simp at hold; exact hold.2.symm
              · simp at hold
            · simp at hold
          · simp at hold
      subst hn0
      obtain ⟨hol, _, hocells⟩ := appSrc_sound (P := P) hH hold hs
      have hcv : ∃ a, v = .slice a n0 c := by
        cases hs with
        | sl h1 h2 h3 h4 => rw [h3 _ rfl]; exact ⟨_, rfl⟩
        | sl0 h1 => rw [h1 _ rfl]; exact ⟨_, rfl⟩
      obtain ⟨a, hav⟩ := hcv
      refine grows a c old hav (by omega) ?_ hol m hH h rfl
      rw [← hav]; exact hocells w.drew (fun _ _ => rfl)
  · -- the capacity isn't known: the block is the slice's own
    split at h
    case h_2 => exact h.elim
    rename_i blk hblk
    split at h
    case h_2 => exact h.elim
    rename_i c hvec hes
    have hes' := of_decide_eq_true hes
    subst hes'
    split at h
    case h_2 => exact h.elim
    rename_i old hold
    have hbv : blk = .vec c := by
      cases blk <;> simp [Blk.isVec] at hvec
      rw [hvec]
    subst hbv
    obtain ⟨hol, hog⟩ := sliceL_get hold
    have hmi : m[i]? = some (.vec c) := by rw [← nth_eq]; exact hblk
    have hil : i < m.length := (List.getElem?_eq_some_iff.1 hmi).1
    have hkill : HRel C ρ (setAt m i .dead) w fp := by
      obtain ⟨W, R, hsep, hf⟩ := hH
      exact ⟨_, _, hsep.kill i, fun j b hb => hf j b hb.2⟩
    have hfirst : ∀ (g : Ghost) (c0 : Nat), ρ[i]? = some g → ∀ w', (∀ b, b < w.heap.size → w'.heap[b]? = w.heap[b]?) → (Builtin.firstCells ie.size len (.slice (some ⟨g.b, g.o + off, none⟩) len c0)).run P w' = .ok (old.map SV.val).toArray w' := by
      intro g c0 hg w' hw'
      obtain ⟨W, R, hB⟩ := hH.at hblk hg
      have hlt : ∀ j v, (old.map SV.val)[j]? = some v → w'.cell? ⟨g.b, g.o + off + j, none⟩ = some v := by
        intro j v hj
        have hj' : j < len * ie.size := by
          have := (List.getElem?_eq_some_iff.1 hj).1
          simpa [hol] using this
        have e : w.cell? ⟨g.b, g.o + (off + j), none⟩ = some v := by
          simp at hj
          obtain ⟨y, hy, rfl⟩ := hj
          rw [hog j hj'] at hy
          exact seg_map_get hB.1 hy
        rw [Nat.add_assoc]
        have hbl : g.b < w.heap.size := by
          by_cases hh : g.b < w.heap.size
          · exact hh
          · exfalso
            unfold World.cell? at e
            rw [Array.getElem?_eq_none (show w.heap.size ≤ g.b by omega)] at e
            simp at e
        rw [World.cell?_of_block (w := w) (w' := w') (hw' _ hbl)]
        exact e
      have := run_loadCells_list (P := P) w' ⟨g.b, g.o + off, none⟩ (old.map SV.val) (fun j v hj => by rw [addr_add]; exact hlt j v hj)
      rw [show (old.map SV.val).length = len * ie.size by simpa using hol] at this
      simp only [Builtin.firstCells]
      exact this
    cases hs with
    | @sl0 _ _ _ _ a h1 =>
      have hold0 : old = [] := List.length_eq_zero_iff.1 (by simpa using hol)
      subst hold0
      by_cases hn0 : n = 0
      · subst hn0
        have hnew0 : new = [] := List.length_eq_zero_iff.1 (by simpa using hnl)
        subst hnew0
        refine ⟨.slice a 0 0, w, ?_, _, _, ρ ++ [⟨0, 0, 0, undef⟩], fp, h, ⟨⟨_, rfl⟩, .refl _ _, fun _ hb => .inl hb⟩, .sl0 (by simp), ?_⟩
        · have hk := hsrcu.kind
          cases a with
          | none => rcases hk with ⟨e', hk⟩ | hk <;> simp [Builtin.append_, run_underlying hu, run_underlying hk, sizeOf, typeInfo, hie, hsrcu.len, hsrcu.cells]
          | some a => rcases hk with ⟨e', hk⟩ | hk <;> simp [Builtin.append_, run_underlying hu, run_underlying hk, sizeOf, typeInfo, hie, hsrcu.len, hsrcu.cells, storeCells]
        · obtain ⟨W, R, hsep, hf⟩ := hkill
          refine ⟨_, _, hsep.push (Wn := fun _ => False) (Rn := fun _ => False) ⟨Seg.empty _ _ _, fun k hk => absurd hk (by simp), by simp, fun k hk => absurd hk (by simp), fun b => ⟨fun hb => hb.elim, fun hb => hb.2 rfl⟩, fun _ hb => hb⟩ ?_ ?_ ?_ ?_ ?_, ?_⟩
          · rintro b (hb | hb) <;> exact hb.elim
          · intro b hb; exact hb.elim
          · intro i b hb; exact hb.elim
          · intro i b hb; exact hb.elim
          · intro b hb; exact hb.elim
          · intro i b hb
            simp only [addS] at hb
            split at hb
            · exact hb.elim
            · exact hf i b hb
      · refine grows a 0 [] rfl (by omega) ?_ (by simp) (setAt m i .dead) hkill h (by simp [setAt_eq])
        cases a <;> simp [Builtin.firstCells, loadCells, loadCellsFrom]
    | @sl _ _ _ _ c0 _ g h1 h2 h3 h4 =>
      by_cases hroom : len + n ≤ c0
      · -- there is room
        obtain ⟨W, R, hsep, hf⟩ := hH
        have hB := hsep.blk i _ g hmi h1
        obtain ⟨hseg, hfree, hcl, hsome, hW, hR⟩ := hB
        have hnl' : new.length = n * ie.size := hnl
        have hbound : len * ie.size + n * ie.size ≤ g.n - off := by
          have : (len + n) * ie.size ≤ ie.size * c0 := by rw [Nat.mul_comm]; exact Nat.mul_le_mul_left _ hroom
          rw [Nat.add_mul] at this
          omega
        have hoff : off ≤ g.n := by omega
        have hrun := run_append_room_src (P := P) w st xt ty el ie hu hie g.b (g.o + off) len c0 u n (new.map SV.val) hsrcu hroom
          (fun j hj => by simp at hj; rw [show g.o + off + len * ie.size + j = g.o + (off + len * ie.size + j) by omega]; exact hsome _ (by omega))
          (fun j hj => by simp at hj; rw [show g.o + off + len * ie.size + j = g.o + (off + len * ie.size + j) by omega]; exact hfree _ (by omega))
        refine ⟨_, _, hrun, ?_⟩
        have hsegold : Seg w g.b (g.o + off) (old.map SV.val) := fun k hk => by
          simp at hk
          rw [Nat.add_assoc, hseg (off + k) (by simp; have := hog k (by omega); rw [List.getElem?_eq_getElem hk] at this; exact (List.getElem?_eq_some_iff.1 this.symm).1)]
          simp only [List.getElem?_map]
          rw [hog k (by omega)]
        have hB' : BRel C (ρ ++ [⟨g.b, g.o + off, g.n - off, undef⟩]) ⟨g.b, g.o + off, g.n - off, undef⟩ (w.setCells g.b (g.o + off + len * ie.size) (new.map SV.val)) (.vec (old ++ new)) (fun b => b = g.b ∧ g.n - off ≠ 0) (fun _ => False) := by
          refine ⟨fun k hk => ?_, unfrozen_setCells (fun k hk => ?_) _ _ _, by simp only [List.length_append]; omega, fun k hk => cell_isSome_setCells _ _ _ _ _ ?_, fun b => Iff.rfl, fun _ hb => hb⟩
          · simp only [List.map_append, List.length_append, List.length_map] at hk ⊢
            by_cases hk' : k < old.length
            · rw [World.cell?_setCells_out _ _ _ _ _ (fun _ _ => by simp; omega), hsegold k (by simpa using hk'), List.getElem?_append_left (by simpa using hk')]
            · have hin := World.cell?_setCells_in g.b (new.map SV.val) (g.o + off + len * ie.size) w (fun j hj => by
                simp at hj; rw [show g.o + off + len * ie.size + j = g.o + (off + len * ie.size + j) by omega]; exact hsome _ (by omega)) (k - old.length) (by simp; omega)
              rw [show g.o + off + len * ie.size + (k - old.length) = g.o + off + k by omega] at hin
              rw [hin, List.getElem?_append_right (by simp; omega)]
              simp
              rw [List.getElem?_eq_getElem (by omega)]; simp
          · rw [show g.o + off + k = g.o + (off + k) by omega]; exact hfree _ (by simp at hk; omega)
          · rw [show g.o + off + k = g.o + (off + k) by omega]; exact hsome _ (by simp at hk; omega)
        have hkeep : ∀ b, b < w.heap.size → b ≠ g.b → (w.setCells g.b (g.o + off + len * ie.size) (new.map SV.val)).heap[b]? = w.heap[b]? := fun b _ hne => setCells_heap_other _ _ _ _ hne
        have hkillsep := hsep.kill i
        -- the dead block's world
        have hnw : ∀ b, b < w.heap.size → ¬ (W i b) → (w.setCells g.b (g.o + off + len * ie.size) (new.map SV.val)).heap[b]? = w.heap[b]? := by
          intro b hb hnW
          by_cases hbg : b = g.b
          · by_cases h0 : g.n = 0
            · have : new = [] := List.length_eq_zero_iff.1 (by omega)
              subst this; rfl
            · exact absurd ((hW b).2 ⟨hbg, h0⟩) hnW
          · exact hkeep b hb hbg
        have hsep3 : HSep C ρ (setAt m i .dead) (w.setCells g.b (g.o + off + len * ie.size) (new.map SV.val)) (fun j b => j ≠ i ∧ W j b) (fun j b => j ≠ i ∧ R j b) := by
          refine ⟨hkillsep.len, fun j blk gj hj hgj => (hkillsep.blk j blk gj hj hgj).congr (fun b hb => ?_), hkillsep.out, hkillsep.ww, hkillsep.wr, fun j b hb => by rw [setCells_size]; exact hkillsep.lt j b hb, hkillsep.ge, ?_, by rw [setCells_size]; exact hkillsep.nGle⟩
          · refine hnw b (hkillsep.lt j b hb) (fun hw => ?_)
            rcases hb with hb | hb
            · exact hb.1 (hsep.ww j i b hb.2 hw)
            · exact hsep.wr i j b hw hb.2
          · exact C.invFrame hsep.inv (fun b hb => hnw b (Nat.lt_of_lt_of_le hb hsep.nGle) (fun hw => by have := hsep.ge i b hw; omega))
        have hgn : ∀ b, (b = g.b ∧ g.n - off ≠ 0) → W i b := fun b hb => (hW b).2 ⟨hb.1, by omega⟩
        refine ⟨_, _, ρ ++ [⟨g.b, g.o + off, g.n - off, undef⟩], fp, h, ⟨⟨_, rfl⟩, ?_, fun _ hb => .inl hb⟩, ?_, _, _, hsep3.push hB' ?_ ?_ ?_ ?_ ?_, ?_⟩
        · refine ⟨by rw [setCells_size]; exact Nat.le_refl _, fun b hb hn => hnw b hb (fun hw => hn (hf i b hw)), (setCells_tape _ _ _ _).1, (setCells_tape _ _ _ _).2.1, (setCells_tape _ _ _ _).2.2⟩
        · refine .sl (g := ⟨g.b, g.o + off, g.n - off, undef⟩) ?_ hroom (fun k hk => by simp at hk) (by simp; omega)
          rw [← hsep.len]; simp
        · rintro b (hb | hb)
          · rw [setCells_size]; exact hsep.lt i b (.inl (hgn b hb))
          · exact hb.elim
        · intro b hb; exact hsep.ge i b (hgn b hb)
        · intro j b hb
          exact ⟨fun hw => hw.1 (hsep.ww j i b hw.2 (hgn b hb)), fun hr => hsep.wr i j b (hgn b hb) hr.2⟩
        · intro j b hb; exact hb.elim
        · intro b _ hb; exact hb
        · intro j b hb
          simp only [addS] at hb
          split at hb
          · exact hf i b (hgn b hb)
          · exact hf j b hb.2
      · refine grows _ c0 old rfl (by omega) (hfirst g c0 h1 w.drew (fun _ _ => rfl)) hol (setAt m i .dead) hkill h (by simp [setAt_eq])
end Go.AEv
