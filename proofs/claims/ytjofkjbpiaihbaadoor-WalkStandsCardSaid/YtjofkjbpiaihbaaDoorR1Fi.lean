/-
  Walk: what is said of it.
-/
import Derived.Test.YtjofkjbpiaihbaaDoorR1Fh
set_option maxRecDepth 100000
namespace Go.R1
open Go Go.AEv Go.Proofs

def su64s : List SV → Option (List (BitVec 64))
  | [] => some []
  | .u64 x :: r => match su64s r with
    | some l => some (x :: l)
    | none => none
  | _ => none
def su8s : List SV → Option (List (BitVec 8))
  | [] => some []
  | .u8 x :: r => match su8s r with
    | some l => some (x :: l)
    | none => none
  | _ => none
theorem su64s_eq : ∀ {cs : List SV} {l : List (BitVec 64)}, su64s cs = some l → cs = l.map .u64
  | [], l, h => by simp [su64s] at h; subst h; rfl
  | x :: r, l, h => by
    unfold su64s at h
    split at h
    · rename_i he; simp at he
    · rename_i y r' he
      cases he
      split at h
      · rename_i l' hl
        cases h
        rw [su64s_eq hl]; rfl
      · simp at h
    · simp at h
theorem su8s_eq : ∀ {cs : List SV} {l : List (BitVec 8)}, su8s cs = some l → cs = l.map .u8
  | [], l, h => by simp [su8s] at h; subst h; rfl
  | x :: r, l, h => by
    unfold su8s at h
    split at h
    · rename_i he; simp at he
    · rename_i y r' he
      cases he
      split at h
      · rename_i l' hl
        cases h
        rw [su8s_eq hl]; rfl
      · simp at h
    · simp at h
/-- The registers: all of them. -/
structure Csr where
  u : List (BitVec 64)
  c : List (BitVec 8)
  a : List (BitVec 64)
def csrOf (l : List SV) : Option Csr :=
  match su64s (l.take 22), su8s ((l.drop 22).take 8), su64s (l.drop 30) with
  | some u, some c, some a => match Nat.beq u.length 22, Nat.beq c.length 8, Nat.beq a.length 8 with
    | true, true, true => some ⟨u, c, a⟩
    | _, _, _ => none
  | _, _, _ => none
theorem csrOf_eq {l : List SV} {r : Csr} (h : csrOf l = some r) : l = r.u.map .u64 ++ (r.c.map .u8 ++ r.a.map .u64) ∧ r.u.length = 22 ∧ r.c.length = 8 ∧ r.a.length = 8 := by
  unfold csrOf at h
  split at h
  · rename_i u c a hu hc ha
    split at h
    · rename_i h1 h2 h3
      cases h
      refine ⟨?_, Nat.eq_of_beq_eq_true h1, Nat.eq_of_beq_eq_true h2, Nat.eq_of_beq_eq_true h3⟩
      rw [← su64s_eq hu, ← su8s_eq hc, ← su64s_eq ha]
      rw [show l.drop 30 = (l.drop 22).drop 8 by simp, List.take_append_drop, List.take_append_drop]
    · simp at h
  · simp at h
theorem list22 {α : Type} {l : List α} (h : l.length = 22) : ∃ m0 m1 m2 m3 m4 m5 m6 m7 m8 m9 m10 m11 m12 m13 m14 m15 m16 m17 m18 m19 m20 m21, l = [m0, m1, m2, m3, m4, m5, m6, m7, m8, m9, m10, m11, m12, m13, m14, m15, m16, m17, m18, m19, m20, m21] := by
  match l, h with
  | [m0, m1, m2, m3, m4, m5, m6, m7, m8, m9, m10, m11, m12, m13, m14, m15, m16, m17, m18, m19, m20, m21], _ => exact ⟨m0, m1, m2, m3, m4, m5, m6, m7, m8, m9, m10, m11, m12, m13, m14, m15, m16, m17, m18, m19, m20, m21, rfl⟩
theorem wkEnd_comm {β : Sort _} (K : Leaf → BitVec 64 → β) (ms : BitVec 64) (mode kind : Int) (at_ table e fr : BitVec 64) (lvl : Nat) :
    wkEnd K ms mode kind at_ table e fr lvl = K (wkEnd (fun l c => (l, c)) ms mode kind at_ table e fr lvl).1 (wkEnd (fun l c => (l, c)) ms mode kind at_ table e fr lvl).2 := by
  unfold wkEnd
  split <;> rfl
theorem wkL_comm {β : Sort _} (K : Leaf → BitVec 64 → β) (bad : β) (ms : BitVec 64) (cl : List (BitVec 8)) (al : List (BitVec 64)) (f : BitVec 64 → BitVec 8) (mode kind : Int) (at_ : BitVec 64) : ∀ (lvl : Nat) (table : BitVec 64) (d : Leaf × BitVec 64),
    wkL K bad ms cl al f mode kind at_ lvl table = K (wkL (fun l c => (l, c)) d ms cl al f mode kind at_ lvl table).1 (wkL (fun l c => (l, c)) d ms cl al f mode kind at_ lvl table).2
  | 0, table, d => by
    simp only [wkL]
    split
    · rfl
    · split
      · rfl
      · rename_i hh
        split
        · split
          · rfl
          · split
            · split
              · rfl
              · rename_i h1
                cases hx : ((readF f ((table <<< 12) + ((at_ >>> (12 + 9 * 0)) &&& 511#64) * 8#64)) &&& 208#64) != 0#64 <;> rw [hx] at h1 <;> simp [Nat.beq] at h1
            · exact wkEnd_comm ..
        · rename_i h1; rw [h1] at hh; simp at hh
  | l + 1, table, d => by
    have ih := fun t => wkL_comm K bad ms cl al f mode kind at_ l t d
    simp only [wkL]
    split
    · rfl
    · split
      · rfl
      · rename_i hh
        split
        · split
          · rfl
          · split
            · split
              · rfl
              · exact ih _
            · exact wkEnd_comm ..
        · rename_i h1; rw [h1] at hh; simp at hh
def wkF (ms satp : BitVec 64) (cl : List (BitVec 8)) (al : List (BitVec 64)) (f : BitVec 64 → BitVec 8) (mode kind : Int) (at_ : BitVec 64) : Leaf × BitVec 64 :=
  wkT (fun l c => (l, c)) (⟨0#64, 0, 0#64, 0#64⟩, 0#64) ms satp cl al f mode kind at_
theorem wkT_comm {β : Sort _} (K : Leaf → BitVec 64 → β) (bad : β) (ms satp : BitVec 64) (cl : List (BitVec 8)) (al : List (BitVec 64)) (f : BitVec 64 → BitVec 8) (mode kind : Int) (at_ : BitVec 64) :
    wkT K bad ms satp cl al f mode kind at_ = K (wkF ms satp cl al f mode kind at_).1 (wkF ms satp cl al f mode kind at_).2 := by
  unfold wkF wkT
  split
  · rfl
  · split
    · rfl
    · exact wkL_comm ..
/-- Walk, by the registers. -/
def walkF (r : Csr) (f : BitVec 64 → BitVec 8) (mode kind : Int) (at_ : BitVec 64) : Leaf × BitVec 64 :=
  wkF (r.u.getD 0 0#64) (r.u.getD 20 0#64) r.c r.a f mode kind at_
def sWalk : FSpec Ob := fun args m K _ => match args with
  | [.ptr i 0, .ptr j 0, .s (.i .i64 mode), .s (.i .i64 kind), .s (.u64 x)] => match busAt m i, roAt m j with
    | some (_, f), some l => match csrOf l with
      | some r => K (.tup [leafAV (walkF r f mode kind x).1, .s (.u64 (walkF r f mode kind x).2)]) m
      | none => False
    | _, _ => False
  | _ => False
theorem walk_law {u : List (BitVec 64)} {c : List (BitVec 8)} {a : List (BitVec 64)} (f : BitVec 64 → BitVec 8) (mode kind : Int) (x : BitVec 64) {K Kp : AV → List (Blk Ob) → Prop} (h1 : u.length = 22) (h2 : c.length = 8) (h3 : a.length = 8) :
    aFun ctx.P L5 none ctx.scp Tryd.f6 400 0 [.ptr 0 0, .ptr 2 0, .s (.i .i64 mode), .s (.i .i64 kind), .s (.u64 x)] [.rrow busRow, .ext (.ramR f), .ro (u.map .u64 ++ (c.map .u8 ++ a.map .u64))] K Kp
    = wkT (fun l e => K (.tup [leafAV l, .s (.u64 e)]) [.rrow busRow, .ext (.ramR f), .ro (u.map .u64 ++ (c.map .u8 ++ a.map .u64))]) False (u.getD 0 0#64) (u.getD 20 0#64) c a f mode kind x := by
  obtain ⟨m0, m1, m2, m3, m4, m5, m6, m7, m8, m9, m10, m11, m12, m13, m14, m15, m16, m17, m18, m19, m20, m21, rfl⟩ := list22 h1
  obtain ⟨c0, c1, c2, c3, c4, c5, c6, c7, rfl⟩ := list8 h2
  obtain ⟨a0, a1, a2, a3, a4, a5, a6, a7, rfl⟩ := list8 h3
  have := walk_eval m0 m1 m2 m3 m4 m5 m6 m7 m8 m9 m10 m11 m12 m13 m14 m15 m16 m17 m18 m19 m20 m21 c0 c1 c2 c3 c4 c5 c6 c7 a0 a1 a2 a3 a4 a5 a6 a7 f mode kind x K Kp
  simp only [List.map_cons, List.map_nil, List.cons_append, List.nil_append, List.getD_cons_zero, List.getD_cons_succ]
  exact this
theorem walk_sound : FSound ctx 6 sWalk := by
  refine (aFun_sound L5_sound (noLoops ctx) mix Tryd.func6 Tryd.call6 400 0).pure fun args m K Kp h => ?_
  unfold sWalk at h
  split at h
  · rename_i i j mode kind x
    split at h
    · rename_i r f l hb hro
      split at h
      · rename_i cs hcs
        obtain ⟨hl, h1, h2, h3⟩ := csrOf_eq hcs
        obtain ⟨u, c, a⟩ := cs
        simp only at hl h1 h2 h3
        refine ⟨[.ptr 0 0, .ptr 2 0, .s (.i .i64 mode), .s (.i .i64 kind), .s (.u64 x)], [.rrow busRow, .ext (.ramR f), .ro l], ?_, fun ρ w fp vs hv hH => ?_⟩
        · subst hl
          rw [walk_law f mode kind x h1 h2 h3]
          rw [wkT_comm]
          exact ⟨rfl, h⟩
        · obtain ⟨v1, us1, rfl, h1, hv1⟩ := vs1 hv
          obtain ⟨g, hg, rfl⟩ := inv_ptr h1
          obtain ⟨v2, us2, rfl, h2, hv2⟩ := vs1 hv1
          obtain ⟨gc, hgc, rfl⟩ := inv_ptr h2
          obtain ⟨gr, _, hh⟩ := busAt_rel hH hb hg [(gc, .ro l)] (fun gr hgr p hp => by
            simp only [List.mem_singleton] at hp; subst hp
            obtain ⟨W, R, hs, _⟩ := hH
            exact roAt_rel hs hro hgc _)
          refine ⟨[g, gr, gc], ?_, hh⟩
          obtain ⟨v3, us3, rfl, h3, hv3⟩ := vs1 hv2
          obtain ⟨v4, us4, rfl, h4, hv4⟩ := vs1 hv3
          obtain ⟨v5, us5, rfl, h5, hv5⟩ := vs1 hv4
          obtain rfl := vs0 hv5
          exact .cons (.ptr rfl) (.cons (.ptr rfl) (.cons (closed_rel h3 rfl) (.cons (closed_rel h4 rfl) (.cons (closed_rel h5 rfl) (.nil _)))))
      · exact h.elim
    · exact h.elim
  · exact h.elim
end Go.R1
