/-
  Physical memory protection: an entry's range.
-/
import Derived.Test.YtjofkjbpiaihbaaDoorR1Fa
set_option maxRecDepth 100000
namespace Go.R1
open Go Go.AEv Go.Proofs

def wayF (c : BitVec 8) : Int := IntKind.i64.wrap (Int.ofNat ((c >>> 3) &&& 3#8).toNat)
def sWay : FSpec Ob := fun args m K _ => match args with
  | [.s (.u8 c)] => K (.s (.i .i64 (wayF c))) m
  | _ => False
theorem way_eval (c : BitVec 8) (K : AV → Prop) (Kp : AV → List (Blk Ob) → Prop) :
    aFun Tryd.prog L0 none (fun _ _ => true) Tryd.f41 200 0 [.s (.u8 c)] [] (fun v _ => K v) Kp = K (.s (.i .i64 (wayF c))) := by kernel_rfl
theorem way_sound : FSound ctx 41 sWay := by
  refine (aFun_sound L0_sound (noLoops ctx) mix Tryd.func41 Tryd.call41 200 0).closed fun args m K Kp h => ?_
  unfold sWay at h
  split at h
  · exact (way_eval _ _ _).mpr ⟨rfl, h⟩
  · exact h.elim

noncomputable def L1 : Lib Ob := (L0.add 34 sHas).add 41 sWay
theorem L1_sound : LibSound ctx L1 := (L0_sound.add has_sound).add way_sound

def within (a : BitVec 64) : BitVec 64 := a &&& 18014398509481983#64
def tzi (a : BitVec 64) : Int := Int.ofNat (tz (~~~a)).toNat
/-- An entry's range, where 'a' is its address as it counts, and 'lo' the place where the one ahead of it ends. -/
def rg {β : Sort _} (K : BitVec 64 → BitVec 64 → Bool → β) (bad : β) (lo : BitVec 64) (c : BitVec 8) (a : BitVec 64) : β :=
  match wayF c == 1 with
  | true => (match bule (a * 4#64) lo with
    | true => K 0#64 0#64 false
    | false => K lo (a * 4#64 - 1#64) true)
  | false => (match wayF c == 2 with
    | true => K (a * 4#64) (a * 4#64 + 3#64) true
    | false => (match wayF c == 3 with
      | true => (match ilt (IntKind.i64.wrap (tzi a + 1)) 0 with
        | true => bad
        | false => (match ilt (IntKind.i64.wrap (tzi a + 1)) 0 with
          | true => bad
          | false => (match ilt (IntKind.i64.wrap (tzi a + 3)) 0 with
            | true => bad
            | false => K (((a >>> (IntKind.i64.wrap (tzi a + 1)).toNat) <<< (IntKind.i64.wrap (tzi a + 1)).toNat) * 4#64)
                ((((a >>> (IntKind.i64.wrap (tzi a + 1)).toNat) <<< (IntKind.i64.wrap (tzi a + 1)).toNat) * 4#64) + (1#64 <<< (IntKind.i64.wrap (tzi a + 3)).toNat) - 1#64) true)))
      | false => K 0#64 0#64 false))
def rgAV (lo hi : BitVec 64) (ok : Bool) : AV := .tup [.s (.u64 lo), .s (.u64 hi), .s (.b ok)]
def prevOf (al : List (BitVec 64)) : Nat → BitVec 64
  | 0 => 0#64
  | k + 1 => match nth al k with
    | some p => within p * 4#64
    | none => 0#64
theorem range_eval0 (c0 c1 c2 c3 c4 c5 c6 c7 : BitVec 8) (a0 a1 a2 a3 a4 a5 a6 a7 : BitVec 64) (K Kp : AV → List (Blk Ob) → Prop) :
    aFun ctx.P L1 none ctx.scp Tryd.f33 200 0 (List.map clos [.agg (List.map (fun x => .s (.u8 x)) [c0, c1, c2, c3, c4, c5, c6, c7]), .agg (List.map (fun x => .s (.u64 x)) [a0, a1, a2, a3, a4, a5, a6, a7]), .s (.i .i64 (.ofNat 0))]) [] K Kp
    = rg (fun lo hi ok => K (rgAV lo hi ok) []) False (prevOf [a0, a1, a2, a3, a4, a5, a6, a7] 0) c0 (within a0) := by kernel_rfl
theorem range_eval1 (c0 c1 c2 c3 c4 c5 c6 c7 : BitVec 8) (a0 a1 a2 a3 a4 a5 a6 a7 : BitVec 64) (K Kp : AV → List (Blk Ob) → Prop) :
    aFun ctx.P L1 none ctx.scp Tryd.f33 200 0 (List.map clos [.agg (List.map (fun x => .s (.u8 x)) [c0, c1, c2, c3, c4, c5, c6, c7]), .agg (List.map (fun x => .s (.u64 x)) [a0, a1, a2, a3, a4, a5, a6, a7]), .s (.i .i64 (.ofNat 1))]) [] K Kp
    = rg (fun lo hi ok => K (rgAV lo hi ok) []) False (prevOf [a0, a1, a2, a3, a4, a5, a6, a7] 1) c1 (within a1) := by kernel_rfl
theorem range_eval2 (c0 c1 c2 c3 c4 c5 c6 c7 : BitVec 8) (a0 a1 a2 a3 a4 a5 a6 a7 : BitVec 64) (K Kp : AV → List (Blk Ob) → Prop) :
    aFun ctx.P L1 none ctx.scp Tryd.f33 200 0 (List.map clos [.agg (List.map (fun x => .s (.u8 x)) [c0, c1, c2, c3, c4, c5, c6, c7]), .agg (List.map (fun x => .s (.u64 x)) [a0, a1, a2, a3, a4, a5, a6, a7]), .s (.i .i64 (.ofNat 2))]) [] K Kp
    = rg (fun lo hi ok => K (rgAV lo hi ok) []) False (prevOf [a0, a1, a2, a3, a4, a5, a6, a7] 2) c2 (within a2) := by kernel_rfl
theorem range_eval3 (c0 c1 c2 c3 c4 c5 c6 c7 : BitVec 8) (a0 a1 a2 a3 a4 a5 a6 a7 : BitVec 64) (K Kp : AV → List (Blk Ob) → Prop) :
    aFun ctx.P L1 none ctx.scp Tryd.f33 200 0 (List.map clos [.agg (List.map (fun x => .s (.u8 x)) [c0, c1, c2, c3, c4, c5, c6, c7]), .agg (List.map (fun x => .s (.u64 x)) [a0, a1, a2, a3, a4, a5, a6, a7]), .s (.i .i64 (.ofNat 3))]) [] K Kp
    = rg (fun lo hi ok => K (rgAV lo hi ok) []) False (prevOf [a0, a1, a2, a3, a4, a5, a6, a7] 3) c3 (within a3) := by kernel_rfl
theorem range_eval4 (c0 c1 c2 c3 c4 c5 c6 c7 : BitVec 8) (a0 a1 a2 a3 a4 a5 a6 a7 : BitVec 64) (K Kp : AV → List (Blk Ob) → Prop) :
    aFun ctx.P L1 none ctx.scp Tryd.f33 200 0 (List.map clos [.agg (List.map (fun x => .s (.u8 x)) [c0, c1, c2, c3, c4, c5, c6, c7]), .agg (List.map (fun x => .s (.u64 x)) [a0, a1, a2, a3, a4, a5, a6, a7]), .s (.i .i64 (.ofNat 4))]) [] K Kp
    = rg (fun lo hi ok => K (rgAV lo hi ok) []) False (prevOf [a0, a1, a2, a3, a4, a5, a6, a7] 4) c4 (within a4) := by kernel_rfl
theorem range_eval5 (c0 c1 c2 c3 c4 c5 c6 c7 : BitVec 8) (a0 a1 a2 a3 a4 a5 a6 a7 : BitVec 64) (K Kp : AV → List (Blk Ob) → Prop) :
    aFun ctx.P L1 none ctx.scp Tryd.f33 200 0 (List.map clos [.agg (List.map (fun x => .s (.u8 x)) [c0, c1, c2, c3, c4, c5, c6, c7]), .agg (List.map (fun x => .s (.u64 x)) [a0, a1, a2, a3, a4, a5, a6, a7]), .s (.i .i64 (.ofNat 5))]) [] K Kp
    = rg (fun lo hi ok => K (rgAV lo hi ok) []) False (prevOf [a0, a1, a2, a3, a4, a5, a6, a7] 5) c5 (within a5) := by kernel_rfl
theorem range_eval6 (c0 c1 c2 c3 c4 c5 c6 c7 : BitVec 8) (a0 a1 a2 a3 a4 a5 a6 a7 : BitVec 64) (K Kp : AV → List (Blk Ob) → Prop) :
    aFun ctx.P L1 none ctx.scp Tryd.f33 200 0 (List.map clos [.agg (List.map (fun x => .s (.u8 x)) [c0, c1, c2, c3, c4, c5, c6, c7]), .agg (List.map (fun x => .s (.u64 x)) [a0, a1, a2, a3, a4, a5, a6, a7]), .s (.i .i64 (.ofNat 6))]) [] K Kp
    = rg (fun lo hi ok => K (rgAV lo hi ok) []) False (prevOf [a0, a1, a2, a3, a4, a5, a6, a7] 6) c6 (within a6) := by kernel_rfl
theorem range_eval7 (c0 c1 c2 c3 c4 c5 c6 c7 : BitVec 8) (a0 a1 a2 a3 a4 a5 a6 a7 : BitVec 64) (K Kp : AV → List (Blk Ob) → Prop) :
    aFun ctx.P L1 none ctx.scp Tryd.f33 200 0 (List.map clos [.agg (List.map (fun x => .s (.u8 x)) [c0, c1, c2, c3, c4, c5, c6, c7]), .agg (List.map (fun x => .s (.u64 x)) [a0, a1, a2, a3, a4, a5, a6, a7]), .s (.i .i64 (.ofNat 7))]) [] K Kp
    = rg (fun lo hi ok => K (rgAV lo hi ok) []) False (prevOf [a0, a1, a2, a3, a4, a5, a6, a7] 7) c7 (within a7) := by kernel_rfl
def u8s : List AV → Option (List (BitVec 8))
  | [] => some []
  | .s (.u8 x) :: r => match u8s r with
    | some l => some (x :: l)
    | none => none
  | _ => none
def u64s : List AV → Option (List (BitVec 64))
  | [] => some []
  | .s (.u64 x) :: r => match u64s r with
    | some l => some (x :: l)
    | none => none
  | _ => none
theorem u8s_eq : ∀ {cs : List AV} {l : List (BitVec 8)}, u8s cs = some l → cs = l.map fun x => .s (.u8 x)
  | [], l, h => by simp [u8s] at h; subst h; rfl
  | x :: r, l, h => by
    unfold u8s at h
    split at h
    · rename_i he; simp at he
    · rename_i y r' he
      cases he
      split at h
      · rename_i l' hl
        cases h
        rw [u8s_eq hl]; rfl
      · simp at h
    · simp at h
theorem u64s_eq : ∀ {cs : List AV} {l : List (BitVec 64)}, u64s cs = some l → cs = l.map fun x => .s (.u64 x)
  | [], l, h => by simp [u64s] at h; subst h; rfl
  | x :: r, l, h => by
    unfold u64s at h
    split at h
    · rename_i he; simp at he
    · rename_i y r' he
      cases he
      split at h
      · rename_i l' hl
        cases h
        rw [u64s_eq hl]; rfl
      · simp at h
    · simp at h
theorem list8 {α : Type} {l : List α} (h : l.length = 8) : ∃ a b c d e f g i, l = [a, b, c, d, e, f, g, i] := by
  match l, h with
  | [a, b, c, d, e, f, g, i], _ => exact ⟨a, b, c, d, e, f, g, i, rfl⟩
/-- Trailing zeros are 64 at most. -/
theorem tab_le : ∀ x ∈ tab, x.toNat ≤ 64 := by decide
theorem tz_le (x : BitVec 64) : (tz x).toNat ≤ 64 := by
  by_cases h : x = 0#64
  · subst h; decide
  · exact tab_le _ (List.mem_of_getElem? (tz_not h))
theorem sh_ok (a : BitVec 64) : ilt (IntKind.i64.wrap (tzi a + 1)) 0 = false ∧ ilt (IntKind.i64.wrap (tzi a + 3)) 0 = false := by
  have h := tz_le (~~~a)
  have e : tzi a = ((tz (~~~a)).toNat : Int) := rfl
  unfold ilt
  rw [IntKind.wrap_i64, IntKind.wrap_i64]
  constructor <;> simp only [decide_eq_false_iff_not] <;> omega
def rgR (lo : BitVec 64) (c : BitVec 8) (a : BitVec 64) : BitVec 64 × BitVec 64 × Bool := rg (fun lo hi ok => (lo, hi, ok)) (0#64, 0#64, false) lo c a
theorem rg_comm {β : Sort _} (K : BitVec 64 → BitVec 64 → Bool → β) (bad : β) (lo : BitVec 64) (c : BitVec 8) (a : BitVec 64) : rg K bad lo c a = K (rgR lo c a).1 (rgR lo c a).2.1 (rgR lo c a).2.2 := by
  unfold rgR rg
  rw [(sh_ok a).1, (sh_ok a).2]
  repeat' split
  all_goals first | rfl | contradiction
def sRange : FSpec Ob := fun args m K _ => match args with
  | [.agg cs, .agg ads, .s (.i .i64 (.ofNat k))] => match u8s cs, u64s ads with
    | some cl, some al => match Nat.beq cl.length 8, Nat.beq al.length 8, nth cl k, nth al k with
      | true, true, some c, some a => K (rgAV (rgR (prevOf al k) c (within a)).1 (rgR (prevOf al k) c (within a)).2.1 (rgR (prevOf al k) c (within a)).2.2) m
      | _, _, _, _ => False
    | _, _ => False
  | _ => False
theorem range_sound : FSound ctx 33 sRange := by
  refine (aFun_sound L1_sound (noLoops ctx) mix Tryd.func33 Tryd.call33 200 0).closed fun args m K Kp h => ?_
  unfold sRange at h
  split at h
  · rename_i cs ads k
    split at h
    · rename_i cl al hc ha
      split at h
      · rename_i c a h1 h2 h3 h4
        have := u8s_eq hc; subst this
        have := u64s_eq ha; subst this
        obtain ⟨c0, c1, c2, c3, c4, c5, c6, c7, rfl⟩ := list8 (Nat.eq_of_beq_eq_true h1)
        obtain ⟨a0, a1, a2, a3, a4, a5, a6, a7, rfl⟩ := list8 (Nat.eq_of_beq_eq_true h2)
        match k, h3, h4, h with
        | 0, h3, h4, h =>
          have e3 : c0 = c := Option.some.inj h3
          have e4 : a0 = a := Option.some.inj h4
          subst e3; subst e4
          rw [range_eval0, rg_comm]
          exact ⟨rfl, h⟩
        | 1, h3, h4, h =>
          have e3 : c1 = c := Option.some.inj h3
          have e4 : a1 = a := Option.some.inj h4
          subst e3; subst e4
          rw [range_eval1, rg_comm]
          exact ⟨rfl, h⟩
        | 2, h3, h4, h =>
          have e3 : c2 = c := Option.some.inj h3
          have e4 : a2 = a := Option.some.inj h4
          subst e3; subst e4
          rw [range_eval2, rg_comm]
          exact ⟨rfl, h⟩
        | 3, h3, h4, h =>
          have e3 : c3 = c := Option.some.inj h3
          have e4 : a3 = a := Option.some.inj h4
          subst e3; subst e4
          rw [range_eval3, rg_comm]
          exact ⟨rfl, h⟩
        | 4, h3, h4, h =>
          have e3 : c4 = c := Option.some.inj h3
          have e4 : a4 = a := Option.some.inj h4
          subst e3; subst e4
          rw [range_eval4, rg_comm]
          exact ⟨rfl, h⟩
        | 5, h3, h4, h =>
          have e3 : c5 = c := Option.some.inj h3
          have e4 : a5 = a := Option.some.inj h4
          subst e3; subst e4
          rw [range_eval5, rg_comm]
          exact ⟨rfl, h⟩
        | 6, h3, h4, h =>
          have e3 : c6 = c := Option.some.inj h3
          have e4 : a6 = a := Option.some.inj h4
          subst e3; subst e4
          rw [range_eval6, rg_comm]
          exact ⟨rfl, h⟩
        | 7, h3, h4, h =>
          have e3 : c7 = c := Option.some.inj h3
          have e4 : a7 = a := Option.some.inj h4
          subst e3; subst e4
          rw [range_eval7, rg_comm]
          exact ⟨rfl, h⟩
        | n + 8, h3, h4, h => rw [nth_eq] at h3; simp at h3
      · exact h.elim
    · exact h.elim
  · exact h.elim
end Go.R1
