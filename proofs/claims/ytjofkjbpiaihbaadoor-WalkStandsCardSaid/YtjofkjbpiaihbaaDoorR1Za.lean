/-
  The row: proved.
-/
import Derived.Test.YtjofkjbpiaihbaaDoorR1Pd
import Derived.Test.YtjofkjbpiaihbaaDoorR1Fn
import Derived.Test.YtjofkjbpiaihbaaDoorAEvU
import Derived.Test.YtjofkjbpiaihbaaDoorRows
import Derived.ProofKit
import Derived.LaidMore
import Derived.OpenShut
import Derived.Stop.Joined
import Derived.Carry
set_option maxRecDepth 100000
namespace Go.R1
open Go Go.AEv Go.Proofs Go.ChangeShapes Go.WideShapes Go.RowKit

theorem fixed_sound : FSound ctx 4 sFixed := by
  refine (aFun_sound L11_sound (noLoops ctx) mix Tryd.func4 Tryd.call4 400 0).pure fun args m K Kp h => ?_
  unfold sFixed at h
  split at h
  · exact ⟨[], [], by rw [fixed_eval]; exact ⟨rfl, h⟩, fun ρ w fp vs hv hH => ⟨[], by
      obtain rfl := vs0 hv
      exact .nil _, by have := hH.ros [] (by simp); simpa using this⟩⟩
  · exact h.elim
theorem E8_sound : LibSound ctx E8 :=
  ((E7_sound.add (aFun_sound E7_sound (noLoops ctx) mix Tryd.func5 Tryd.call5 400 20)).add (aFun_sound E7_sound (noLoops ctx) mix Tryd.func9 Tryd.call9 400 20)).add fixed_sound
theorem ws_law {u : List (BitVec 64)} {c : List (BitVec 8)} {a : List (BitVec 64)} (n : Nat) (cap : Option Nat) (cs : List SV) (mode kind : Int) (x y : BitVec 64) {K Kp : AV → List (Blk Ob) → Prop} (h1 : u.length = 22) (h2 : c.length = 8) (h3 : a.length = 8) :
    aFun ctx.P E8 none ctx.scp Tryd.f3 800 0 [.sl 0 0 1 n cap, .agg ((u.map SV.u64 ++ (c.map SV.u8 ++ a.map SV.u64)).map .s), .s (.i .i64 mode), .s (.i .i64 kind), .s (.u64 x), .s (.u64 y)] [.ro cs] K Kp
    = ∃ l, layCells [.ro cs] 0 0 n = some l ∧ match Nat.ble n 1048576 with
      | true => ws1 (fun b => K (.s (.b b)) [.ro cs]) False ⟨u, c, a⟩ (layF l fun _ => 0#8) mode kind x y
      | false => K (.s (.b true)) [.ro cs] := by
  obtain ⟨m0, m1, m2, m3, m4, m5, m6, m7, m8, m9, m10, m11, m12, m13, m14, m15, m16, m17, m18, m19, m20, m21, rfl⟩ := list22 h1
  obtain ⟨c0, c1, c2, c3, c4, c5, c6, c7, rfl⟩ := list8 h2
  obtain ⟨a0, a1, a2, a3, a4, a5, a6, a7, rfl⟩ := list8 h3
  have := ws_eval m0 m1 m2 m3 m4 m5 m6 m7 m8 m9 m10 m11 m12 m13 m14 m15 m16 m17 m18 m19 m20 m21 c0 c1 c2 c3 c4 c5 c6 c7 a0 a1 a2 a3 a4 a5 a6 a7 n cap cs mode kind x y K Kp
  simp only [List.map_cons, List.map_nil, List.cons_append, List.nil_append]
  exact this
def csrK : List IntKind := List.replicate 22 .u64 ++ (List.replicate 8 .u8 ++ List.replicate 8 .u64)
theorem kinds27 : leafKinds Tryd.prog 4 27 = some csrK := by kernel_rfl
theorem zip_rep {k : IntKind} {f : Int → SV} (hf : ∀ n, svOf k n = f n) : ∀ (m : Nat) (ns : List Int), ns.length = m → List.zipWith svOf (List.replicate m k) ns = ns.map f
  | 0, [], _ => rfl
  | m + 1, n :: ns, h => by
    rw [List.replicate_succ, List.zipWith_cons_cons, List.map_cons, hf, zip_rep hf m ns (by simpa using h)]
theorem csr_zip {ns : List Int} (h : ns.length = 38) : ∃ (u : List (BitVec 64)) (c : List (BitVec 8)) (a : List (BitVec 64)), u.length = 22 ∧ c.length = 8 ∧ a.length = 8 ∧ List.zipWith svOf csrK ns = u.map SV.u64 ++ (c.map SV.u8 ++ a.map SV.u64) := by
  refine ⟨(ns.take 22).map (BitVec.ofInt 64), ((ns.drop 22).take 8).map (BitVec.ofInt 8), ((ns.drop 22).drop 8).map (BitVec.ofInt 64), by simp [h], by simp [h], by simp [h], ?_⟩
  conv => lhs; rw [← List.take_append_drop 22 ns, ← List.take_append_drop 8 (ns.drop 22)]
  unfold csrK
  rw [List.zipWith_append (by simp [h]), List.zipWith_append (by simp [h])]
  rw [zip_rep (f := fun n => .u64 (BitVec.ofInt 64 n)) (fun _ => rfl) 22 _ (by simp [h]), zip_rep (f := fun n => .u8 (BitVec.ofInt 8 n)) (fun _ => rfl) 8 _ (by simp [h]), zip_rep (f := fun n => .u64 (BitVec.ofInt 64 n)) (fun _ => rfl) 8 _ (by simp [h])]
  simp only [List.map_map]
  rfl
theorem FSound.use {C : Ctx} {f : FuncId} {s : FSpec C.X} (h : FSound C f s) {args : List AV} {m : List (Blk C.X)} {K Kp : AV → List (Blk C.X) → Prop} (hk : s args m K Kp) {ρ : List Ghost} {w : World} {fp : Nat → Prop} {vs : List Value}
    (hv : VsRel ρ args vs) (hH : HRel C ρ m w fp) : Calls C.P f vs.toArray w (CallPost C ρ w fp K Kp) := (h args m K Kp hk).2 ρ w fp vs hv hH
/-- What is said of the statement's function: whatever its arguments, it answers true. -/
def sWS : FSpec Ob := fun args m K _ => ∃ (n : Nat) (cap : Option Nat) (l : List (BitVec 8)) (u : List (BitVec 64)) (c : List (BitVec 8)) (a : List (BitVec 64)) (mode kind : Int) (x y : BitVec 64),
  u.length = 22 ∧ c.length = 8 ∧ a.length = 8 ∧ l.length = n ∧
  args = [.sl 0 0 1 n cap, .agg ((u.map SV.u64 ++ (c.map SV.u8 ++ a.map SV.u64)).map .s), .s (.i .i64 mode), .s (.i .i64 kind), .s (.u64 x), .s (.u64 y)] ∧ m = [.ro (l.map .u8)] ∧ K (.s (.b true)) m
theorem layCells_ro {l : List (BitVec 8)} {n : Nat} (hl : l.length = n) : layCells [.ro (l.map .u8)] 0 0 n = some l := by
  cases n with
  | zero =>
    obtain rfl : l = [] := List.length_eq_zero_iff.1 hl
    rfl
  | succ n =>
    have h1 : sliceL (l.map SV.u8) 0 (n + 1) = some (l.map SV.u8) := by
      unfold sliceL
      rw [dropX_eq, List.drop_zero]
      have : ∀ (z : List SV), takeX z.length z = some z := fun z => by
        induction z with
        | nil => rfl
        | cons a r ih => simp [takeX, ih]
      have h2 := this (l.map SV.u8)
      rw [List.length_map, hl] at h2
      exact h2
    have h3 : ∀ (z : List (BitVec 8)), u8s ((z.map SV.u8).map .s) = some z := fun z => by
      induction z with
      | nil => rfl
      | cons a r ih => simp only [List.map_cons, u8s]; rw [ih]
    simp only [layCells, nth, Blk.cells, h1]
    exact h3 l
theorem f3_sound : FSound ctx 3 sWS := (aFun_sound E8_sound (noLoops ctx) mix Tryd.func3 Tryd.call3 800 0).weaken fun args m K Kp h => by
  obtain ⟨n, cap, l, u, c, a, mode, kind, x, y, h1, h2, h3, hl, rfl, rfl, hK⟩ := h
  rw [ws_law n cap (l.map .u8) mode kind x y h1 h2 h3]
  refine ⟨l, layCells_ro hl, ?_⟩
  split
  · rw [ws_true]; exact hK
  · exact hK
/-- The call: it answers true, and turns nothing that was there. -/
theorem ws_calls {w : World} {g : Ghost} {n : Nat} {cap : Option Nat} {l : List (BitVec 8)} {ns : List Int} {v0 : Value} {mode kind : Int} {x y : BitVec 64}
    (hl : l.length = n) (hH : HRel ctx [g] [.ro (l.map .u8)] w (fun _ => False)) (h0 : VRel [g] (.sl 0 0 1 n cap) v0) (hns : ns.length = 38) :
    Calls Tryd.prog 3 #[v0, .agg ((List.zipWith svOf csrK ns).map SV.val).toArray, .int .i64 mode, .int .i64 kind, .int .u64 x.toNat, .int .u64 y.toNat] w fun e w' => e = .returned (.bool true) ∧ Below w.heap.size w w' := by
  obtain ⟨u, c, a, h1, h2, h3, hz⟩ := csr_zip hns
  rw [hz]
  have hvs : VsRel [g] [.sl 0 0 1 n cap, .agg ((u.map SV.u64 ++ (c.map SV.u8 ++ a.map SV.u64)).map .s), .s (.i .i64 mode), .s (.i .i64 kind), .s (.u64 x), .s (.u64 y)]
      [v0, .agg ((u.map SV.u64 ++ (c.map SV.u8 ++ a.map SV.u64)).map SV.val).toArray, .int .i64 mode, .int .i64 kind, .int .u64 x.toNat, .int .u64 y.toNat] :=
    .cons h0 (.cons (.agg' (vsRel_s [g] _)) (.cons (.s (.i .i64 mode)) (.cons (.s (.i .i64 kind)) (.cons (.s (.u64 x)) (.cons (.s (.u64 y)) (.nil _))))))
  refine Calls.mono (FSound.use (K := fun v _ => v = .s (.b true)) (Kp := fun _ _ => False) f3_sound ⟨n, cap, l, u, c, a, mode, kind, x, y, h1, h2, h3, hl, rfl, rfl, rfl⟩ hvs hH) (fun e w' he => ?_)
  cases e with
  | returned z =>
    obtain ⟨v, m', ρ', fp', rfl, hst, hvr, _⟩ := he
    exact ⟨by rw [hvr.s_inv]; rfl, hst.fr.os, hst.fr.tape, hst.fr.out, hst.fr.size, fun k hk => hst.fr.keep k hk (fun h => h)⟩
  | panicked ch =>
    obtain ⟨v, m', ρ', fp', x, _, hk, _⟩ := he
    exact hk.elim
  | outgrown => exact he.elim
end Go.R1
