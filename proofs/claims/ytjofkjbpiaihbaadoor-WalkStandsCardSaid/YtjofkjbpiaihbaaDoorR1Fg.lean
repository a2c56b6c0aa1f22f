/-
  The bus, where an address is the RAM's.
-/
import Derived.Test.YtjofkjbpiaihbaaDoorR1Ff
set_option maxRecDepth 100000
namespace Go.R1
open Go Go.AEv Go.Proofs

noncomputable def L3 : Lib Ob := ((((((L2.add 25 sRead).add 8 sAllows).add 10 (sCause pageF)).add 24 (sCause pageF)).add 23 (sCause faultF)).add 21 sCheck)
theorem L3_sound : LibSound ctx L3 := (((((L2_sound.add read_sound).add allows_sound).add page14_sound).add page_sound).add fault_sound).add check_sound
/-- A bus as what only reads may see of it: where its memory is. -/
def busRow : List AV := [.ptr 1 0, .any, .any, .any, .any, .any, .any]
theorem plain_eval (f : BitVec 64 → BitVec 8) (x : BitVec 64) (n : Int) (K Kp : AV → List (Blk Ob) → Prop) :
    aFun ctx.P L3 none ctx.scp Tryd.f22 200 2 [.ptr 0 0, .s (.u64 x), .s (.i .i64 n)] [.rrow busRow, .ext (.ramR f)] K Kp
    = K (.s (.b (hasF x n))) [.rrow busRow, .ext (.ramR f)] := by kernel_rfl
/-- Where a bus stands whose memory is 'f'. -/
def busAt (m : List (Blk Ob)) (i : Nat) : Option (Nat × (BitVec 64 → BitVec 8)) :=
  match nth m i with
  | some (.row [.ptr r 0, _, _, _, _, _, _]) => match ramAt m r with
    | some f => some (r, f)
    | none => none
  | some (.rrow [.ptr r 0, _, _, _, _, _, _]) => match ramAt m r with
    | some f => some (r, f)
    | none => none
  | _ => none
theorem busRow_rel {ρ : List Ghost} {r : Nat} {x1 x2 x3 x4 x5 x6 : AV} {vs : List Value} (h : VsRel ρ [.ptr r 0, x1, x2, x3, x4, x5, x6] vs) {gr : Ghost} (hr : ρ[r]? = some gr) (g : Ghost) (l : List Ghost) : VsRel (g :: gr :: l) busRow vs := by
  obtain ⟨v1, us1, rfl, h1, h⟩ := vs1 h
  obtain ⟨v2, us2, rfl, _, h⟩ := vs1 h
  obtain ⟨v3, us3, rfl, _, h⟩ := vs1 h
  obtain ⟨v4, us4, rfl, _, h⟩ := vs1 h
  obtain ⟨v5, us5, rfl, _, h⟩ := vs1 h
  obtain ⟨v6, us6, rfl, _, h⟩ := vs1 h
  obtain ⟨v7, us7, rfl, _, h⟩ := vs1 h
  obtain rfl := vs0 h
  obtain ⟨gr', hg, rfl⟩ := inv_ptr h1
  rw [hr] at hg; cases hg
  exact .cons (.ptr rfl) (.cons (.any _) (.cons (.any _) (.cons (.any _) (.cons (.any _) (.cons (.any _) (.cons (.any _) (.nil _)))))))
theorem busAt_rel {ρ : List Ghost} {m : List (Blk Ob)} {w : World} {fp : Nat → Prop} (hH : HRel ctx ρ m w fp) {i r : Nat} {f : BitVec 64 → BitVec 8} (hi : busAt m i = some (r, f)) {g : Ghost} (hg : ρ[i]? = some g) (l : List (Ghost × Blk Ob))
    (hl : ∀ gr, ρ[r]? = some gr → ∀ p ∈ l, ∃ R, BRel ctx (g :: gr :: l.map (·.1)) p.1 w p.2 (fun _ => False) R ∧ ∀ b, R b → b < w.heap.size) :
    ∃ gr, ρ[r]? = some gr ∧ HRel ctx (g :: gr :: l.map (·.1)) (.rrow busRow :: .ext (.ramR f) :: l.map (·.2)) w (fun _ => False) := by
  have hH0 := hH
  obtain ⟨W, R, hs, hf⟩ := hH
  have fin : ∀ {gr}, ρ[r]? = some gr → ramAt m r = some f → (∃ R0, BRel ctx (g :: gr :: l.map (·.1)) g w (.rrow busRow) (fun _ => False) R0 ∧ ∀ b, R0 b → b < w.heap.size) →
      ∃ gr, ρ[r]? = some gr ∧ HRel ctx (g :: gr :: l.map (·.1)) (.rrow busRow :: .ext (.ramR f) :: l.map (·.2)) w (fun _ => False) := by
    intro gr hgr hrm hb
    refine ⟨gr, hgr, ?_⟩
    have := hH0.ros ((g, .rrow busRow) :: (gr, .ext (.ramR f)) :: l) (fun p hp => by
      simp only [List.mem_cons] at hp
      rcases hp with rfl | rfl | hp
      · exact hb
      · exact ramAt_rel hs hrm hgr _
      · exact hl gr hgr p hp)
    exact this
  unfold busAt at hi
  split at hi
  · rename_i r' _ _ _ _ _ _ hb
    split at hi
    · rename_i f' hrm
      cases hi
      rw [nth_eq] at hb
      have hB := hs.blk i _ g hb hg
      obtain ⟨⟨vs, hv, _⟩, _⟩ := hB
      obtain ⟨v1, us1, _, h1, _⟩ := vs1 hv
      obtain ⟨gr, hgr, _⟩ := inv_ptr h1
      exact fin hgr hrm (rrow_of_row (hs.blk i _ g hb hg) (fun b hw => hs.lt i b (.inl hw)) (fun vs hv => busRow_rel hv hgr g _))
    · simp at hi
  · rename_i r' _ _ _ _ _ _ hb
    split at hi
    · rename_i f' hrm
      cases hi
      rw [nth_eq] at hb
      have hB := hs.blk i _ g hb hg
      obtain ⟨⟨vs, hv, hsg⟩, hW, hR⟩ := hB
      obtain ⟨v1, us1, _, h1, _⟩ := vs1 hv
      obtain ⟨gr, hgr, _⟩ := inv_ptr h1
      exact fin hgr hrm ⟨R i, ⟨⟨vs, busRow_rel hv hgr g _, hsg⟩, fun _ h => h, by simpa [busRow] using hR⟩, fun b hb => hs.lt i b (.inr hb)⟩
    · simp at hi
  · simp at hi
def sPlain : FSpec Ob := fun args m K _ => match args with
  | [.ptr i 0, .s (.u64 x), .s (.i .i64 n)] => match busAt m i with
    | some _ => K (.s (.b (hasF x n))) m
    | none => False
  | _ => False
theorem plain_sound : FSound ctx 22 sPlain := by
  refine (aFun_sound L3_sound (noLoops ctx) mix Tryd.func22 Tryd.call22 200 2).pure fun args m K Kp h => ?_
  unfold sPlain at h
  split at h
  · rename_i i x n
    split at h
    · rename_i rf hb
      obtain ⟨r, f⟩ := rf
      refine ⟨[.ptr 0 0, .s (.u64 x), .s (.i .i64 n)], [.rrow busRow, .ext (.ramR f)], by rw [plain_eval]; exact ⟨rfl, h⟩, fun ρ w fp vs hv hH => ?_⟩
      obtain ⟨v1, us1, rfl, h1, hv1⟩ := vs1 hv
      obtain ⟨g, hg, rfl⟩ := inv_ptr h1
      obtain ⟨gr, _, hh⟩ := busAt_rel hH hb hg [] (by simp)
      refine ⟨[g, gr], ?_, hh⟩
      obtain ⟨v2, us2, rfl, h2, hv2⟩ := vs1 hv1
      obtain ⟨v3, us3, rfl, h3, hv3⟩ := vs1 hv2
      obtain rfl := vs0 hv3
      exact .cons (.ptr rfl) (.cons (closed_rel h2 rfl) (.cons (closed_rel h3 rfl) (.nil _)))
    · exact h.elim
  · exact h.elim
noncomputable def L4 : Lib Ob := L3.add 22 sPlain
theorem L4_sound : LibSound ctx L4 := L3_sound.add plain_sound
theorem busRead_eval (f : BitVec 64 → BitVec 8) (x : BitVec 64) (K Kp : AV → List (Blk Ob) → Prop) :
    aFun ctx.P L4 none ctx.scp Tryd.f7 200 2 [.ptr 0 0, .s (.i .i64 1), .s (.u64 x), .s (.i .i64 8)] [.rrow busRow, .ext (.ramR f)] K Kp
    = (match hasF x 8 with
      | true => K (.tup [.s (.u64 (readF f x)), .s (.b (hasF x 8))]) [.rrow busRow, .ext (.ramR f)]
      | false => False) := by kernel_rfl
def sBusRead : FSpec Ob := fun args m K _ => match args with
  | [.ptr i 0, .s (.i .i64 k), .s (.u64 x), .s (.i .i64 n)] => match busAt m i, k == 1, n == 8 with
    | some (_, f), true, true => (match hasF x 8 with
      | true => K (.tup [.s (.u64 (readF f x)), .s (.b true)]) m
      | false => False)
    | _, _, _ => False
  | _ => False
theorem busRead_sound : FSound ctx 7 sBusRead := by
  refine (aFun_sound L4_sound (noLoops ctx) mix Tryd.func7 Tryd.call7 200 2).pure fun args m K Kp h => ?_
  unfold sBusRead at h
  split at h
  · rename_i i k x n
    split at h
    · rename_i r f hb hk hn
      have : n = 8 := by simpa using hn
      subst this
      have : k = 1 := by simpa using hk
      subst this
      refine ⟨[.ptr 0 0, .s (.i .i64 1), .s (.u64 x), .s (.i .i64 8)], [.rrow busRow, .ext (.ramR f)], ?_, fun ρ w fp vs hv hH => ?_⟩
      · rw [busRead_eval]
        split at h
        · rename_i hx
          rw [hx]
          exact ⟨rfl, h⟩
        · exact h.elim
      · obtain ⟨v1, us1, rfl, h1, hv1⟩ := vs1 hv
        obtain ⟨g, hg, rfl⟩ := inv_ptr h1
        obtain ⟨gr, _, hh⟩ := busAt_rel hH hb hg [] (by simp)
        refine ⟨[g, gr], ?_, hh⟩
        obtain ⟨v2, us2, rfl, h2, hv2⟩ := vs1 hv1
        obtain ⟨v3, us3, rfl, h3, hv3⟩ := vs1 hv2
        obtain ⟨v4, us4, rfl, h4, hv4⟩ := vs1 hv3
        obtain rfl := vs0 hv4
        exact .cons (.ptr rfl) (.cons (closed_rel h2 rfl) (.cons (closed_rel h3 rfl) (.cons (closed_rel h4 rfl) (.nil _))))
    · exact h.elim
  · exact h.elim
end Go.R1
