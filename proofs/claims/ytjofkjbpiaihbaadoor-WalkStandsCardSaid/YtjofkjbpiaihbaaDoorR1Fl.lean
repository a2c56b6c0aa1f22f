/-
  An image, laid: what is said of Lay.
-/
import Derived.Test.YtjofkjbpiaihbaaDoorR1Fk
set_option maxRecDepth 100000
namespace Go.R1
open Go Go.AEv Go.Proofs

theorem lay_eval (cap : Option Nat) (n : Nat) (f : BitVec 64 → BitVec 8) (cs : List SV) (K Kp : AV → List (Blk Ob) → Prop) :
    aFun ctx.P L6 (some sLayLoop) ctx.scp Tryd.f17 200 0 [.ptr 0 0, .sl 1 0 1 n cap] [.ext (.ram f), .ro cs] K Kp =
    (match ilt 1048576 (.ofNat n) with
    | true => K (.s (.b false)) [.ext (.ram f), .ro cs]
    | false => ∃ (cap' : Option Nat) (n' : Nat) (l : List (BitVec 8)) (f' : BitVec 64 → BitVec 8), n' = l.length ∧ l.length ≤ 1048576 ∧ layBody = layBody ∧ layEnv cap n 0 = layEnv cap' n' 0 ∧
        [Blk.ext (Ob.ram f), .ro cs] = [.ext (.ram f'), .ro (l.map .u8)] ∧ K (.s (.b true)) [.ext (.ram (layF l f')), .ro (l.map .u8)]) := by kernel_rfl
/-- The bytes of a slice. -/
def layCells (m : List (Blk Ob)) (i off : Nat) : Nat → Option (List (BitVec 8))
  | 0 => some []
  | n + 1 => match nth m i with
    | some blk => match blk.cells off (n + 1) with
      | some l => u8s l
      | none => none
    | none => none
def sLay : FSpec Ob := fun args m K _ => match args with
  | [.ptr r 0, .sl i off _ n _] => match nth m r, layCells m i off n with
    | some (.ext (.ram f)), some l => match Nat.ble n 1048576 with
      | true => K (.s (.b true)) (setAt m r (.ext (.ram (layF l f))))
      | false => K (.s (.b false)) m
    | _, _ => False
  | _ => False
theorem cells_in {ρ : List Ghost} {g : Ghost} {w : World} {blk : Blk Ob} {W R : Nat → Prop} (h : BRel ctx ρ g w blk W R) {off n : Nat} {l : List AV} (hl : blk.cells off n = some l) (hn : n ≠ 0) : W g.b ∨ R g.b := by
  have ne : ∀ {α : Type} {c x : List α}, sliceL c off n = some x → c ≠ [] ∧ off + n ≤ c.length := fun {α c x} hx => by
    obtain ⟨_, h2⟩ := sliceL_eq hx
    refine ⟨fun e => ?_, by omega⟩
    subst e; simp at h2; omega
  cases blk with
  | row c => exact .inl ((h.2.2.1 _).2 rfl)
  | flat c => exact .inl ((h.2.2.2.1 _).2 rfl)
  | vec c =>
    simp only [Blk.cells] at hl
    split at hl
    · rename_i x hx
      have := (ne hx).2
      exact .inl ((h.2.2.2.2.1 _).2 ⟨rfl, by have := h.2.2.1; omega⟩)
    · simp at hl
  | ro c =>
    simp only [Blk.cells] at hl
    split at hl
    · rename_i x hx
      exact .inr ((h.2.2 _).2 ⟨rfl, (ne hx).1⟩)
    · simp at hl
  | rrow c => exact .inr ((h.2.2 _).2 ⟨rfl, (ne hl).1⟩)
  | dead => simp [Blk.cells] at hl
  | ext x => simp [Blk.cells] at hl
theorem nor_ram (f : BitVec 64 → BitVec 8) : NoR ctx (.ext (.ram f)) := fun _ _ _ _ _ h => by
  obtain ⟨_, _, _, _, hR⟩ := h; exact hR
theorem u8s_val {cs : List AV} {l : List (BitVec 8)} {ρ : List Ghost} {vs : List Value} (h : u8s cs = some l) (hv : VsRel ρ cs vs) : vs = (l.map SV.u8).map SV.val := by
  have := u8s_eq h
  subst this
  refine vsRel_s_inv (ρ := ρ) (l := l.map SV.u8) ?_
  rw [List.map_map]
  exact hv
theorem lay_sound : FSound ctx 17 sLay := by
  refine (aFun_sound L6_sound sLayLoop_sound mix Tryd.func17 Tryd.call17 200 0).upd fun args m K Kp h => ?_
  unfold sLay at h
  split at h
  case h_2 => exact h.elim
  rename_i r i off es n cap
  split at h
  case h_2 => exact h.elim
  rename_i f l hr hl
  have hll : l.length = n := by
    cases n with
    | zero => simp [layCells] at hl; subst hl; rfl
    | succ n =>
      simp only [layCells] at hl
      split at hl
      · split at hl
        · rename_i c hc
          have h1 := (Blk.cells_each hc).1
          have := u8s_eq hl
          subst this
          simpa using h1
        · simp at hl
      · simp at hl
  refine ⟨[.ptr 0 0, .sl 1 0 1 n cap], r, .ext (.ram f), [.ro (l.map .u8)], hr, rfl, nor_ram f, ?_, fun ρ w vs W R hv hs g hg => ?_⟩
  · rw [lay_eval]
    split at h
    · rename_i hle
      have hle' : n ≤ 1048576 := Nat.le_of_ble_eq_true hle
      have h1 : ilt 1048576 (.ofNat n) = false := by
        simp only [ilt, decide_eq_false_iff_not]
        intro h
        have : (1048576 : Int) < (n : Int) := h
        omega
      rw [h1]
      exact ⟨cap, n, l, f, hll.symm, by omega, rfl, rfl, rfl, rfl, _, _, rfl, rfl, nor_ram _, h⟩
    · rename_i hle
      have hle' : ¬ n ≤ 1048576 := fun h => by rw [Nat.ble_eq_true_of_le h] at hle; simp at hle
      have h1 : ilt 1048576 (.ofNat n) = true := by
        simp only [ilt, decide_eq_true_eq]
        show (1048576 : Int) < (n : Int)
        omega
      rw [h1]
      refine ⟨rfl, _, _, rfl, rfl, nor_ram _, ?_⟩
      have : setAt m r (.ext (.ram f)) = m := by
        rw [nth_eq] at hr
        rw [setAt_eq]
        apply List.ext_getElem?
        intro j
        by_cases hj : r = j
        · subst hj; rw [List.getElem?_set_self (List.getElem?_eq_some_iff.1 hr).1, hr]
        · rw [List.getElem?_set_ne hj]
      rw [this]
      exact h
  · obtain ⟨v1, us1, rfl, h1, hv1⟩ := vs1 hv
    obtain ⟨g1, hg1, rfl⟩ := inv_ptr h1
    rw [hg] at hg1; cases hg1
    obtain ⟨v2, us2, rfl, h2, hv2⟩ := vs1 hv1
    obtain rfl := vs0 hv2
    cases n with
    | zero =>
      obtain rfl : l = [] := List.length_eq_zero_iff.1 hll
      have hv2' : ∀ ρ0, VRel ρ0 (.sl 1 0 1 0 cap) v2 ∨ ∃ c a, v2 = .slice (some a) 0 c ∧ (∀ k, cap = some k → c = k) := fun ρ0 => by
        cases h2 with
        | sl h1 h2 h3 h4 => exact .inr ⟨_, _, rfl, h3⟩
        | sl0 h1 => exact .inl (.sl0 h1)
      rcases hv2' [g, g] with h | ⟨c, a, rfl, hc⟩
      · exact ⟨[(g, .ro [])], rfl, .cons (.ptr rfl) (.cons h (.nil _)), fun p hp => by
          simp only [List.mem_singleton] at hp; subst hp
          exact ⟨fun _ => False, ⟨Seg.empty _ _ _, fun _ h => h, fun b => ⟨fun h => h.elim, fun h => h.2 rfl⟩⟩, fun _ h => h.elim⟩⟩
      · cases h2 with
        | @sl _ _ _ _ _ _ gi h1 h2 h3 h4 =>
          exact ⟨[(⟨gi.b, gi.o + off, c, undef⟩, .ro [])], rfl, .cons (.ptr rfl) (.cons (.sl (g := ⟨gi.b, gi.o + off, c, undef⟩) rfl h2 h3 (by simp)) (.nil _)), fun p hp => by
            simp only [List.mem_singleton] at hp; subst hp
            exact ⟨fun _ => False, ⟨Seg.empty _ _ _, fun _ h => h, fun b => ⟨fun h => h.elim, fun h => h.2 rfl⟩⟩, fun _ h => h.elim⟩⟩
        | sl0 h1 =>
          exact ⟨[(g, .ro [])], rfl, .cons (.ptr rfl) (.cons (.sl0 h1) (.nil _)), fun p hp => by
            simp only [List.mem_singleton] at hp; subst hp
            exact ⟨fun _ => False, ⟨Seg.empty _ _ _, fun _ h => h, fun b => ⟨fun h => h.elim, fun h => h.2 rfl⟩⟩, fun _ h => h.elim⟩⟩
    | succ n =>
      simp only [layCells] at hl
      split at hl
      case h_2 => simp at hl
      rename_i blk hblk
      split at hl
      case h_2 => simp at hl
      rename_i c hc
      cases h2 with
      | @sl _ _ _ _ cc _ gi h1 h2 h3 h4 =>
        rw [nth_eq] at hblk hr
        have hB := hs.blk i blk gi hblk h1
        obtain ⟨us, e1, e2, e3⟩ := Blk.cells_sound hB hc
        have hus := u8s_val hl e2
        subst hus
        refine ⟨[(⟨gi.b, gi.o + off, cc, undef⟩, .ro (l.map .u8))], rfl, .cons (.ptr rfl) (.cons (.sl (g := ⟨gi.b, gi.o + off, cc, undef⟩) rfl h2 h3 (by simp)) (.nil _)), fun p hp => ?_⟩
        simp only [List.mem_singleton] at hp; subst hp
        refine ⟨fun b => b = gi.b ∧ l.map SV.u8 ≠ [], ⟨fun k hk => ?_, fun _ h => h, fun b => Iff.rfl⟩, fun b hb => ?_⟩
        · exact (e3 k _ (List.getElem?_eq_getElem hk)).trans (List.getElem?_eq_getElem hk).symm
        · obtain ⟨rfl, _⟩ := hb
          have hin := cells_in hB hc (by omega)
          refine ⟨hs.lt i _ hin, fun hw => ?_⟩
          have hir : i ≠ r := fun e => by
            subst e
            rw [hr] at hblk; cases hblk
            simp [Blk.cells] at hc
          rcases hin with hin | hin
          · exact hir (hs.ww i r _ hin hw)
          · exact hs.wr r i _ hw hin
end Go.R1
