/-
  The plain law, joined: the statement's function answers true.
-/
import Derived.Test.YtjofkjbpiaihbaaDoorR1Pc
namespace Go.R1
open Go Go.AEv

theorem bne_self (a : BitVec 64) : (a != a) = false := by simp
theorem walk_of {r : Csr} {mode : Int} {x : BitVec 64} (h1 : (bif mode == 3 then true else (r.u.getD 20 0#64 >>> 60) != 8#64) = false)
    (h2 : ((IntKind.i64.wrap (Int.ofNat (x <<< 25).toNat)).fdiv (2 ^ 25) != IntKind.i64.wrap (Int.ofNat x.toNat)) = false) (g : BitVec 64 → BitVec 8) (kind : Int) :
    walkF r g mode kind x = wkL pr (⟨0#64, 0, 0#64, 0#64⟩, 0#64) (r.u.getD 0 0#64) r.c r.a g mode kind x 2 (r.u.getD 20 0#64 &&& 17592186044415#64) := by
  unfold walkF wkF wkT
  rw [h1, h2]
theorem wkEnd_no {ms : BitVec 64} {mode kind : Int} {x table e fr : BitVec 64} {lvl : Nat} (h : allowsF ms mode kind e = false) : wkEnd pr ms mode kind x table e fr lvl = (leaf0, pageF kind) := by
  unfold wkEnd
  rw [h]; rfl
theorem wkEnd_yes {ms : BitVec 64} {mode kind : Int} {x table e fr : BitVec 64} {lvl : Nat} (h : allowsF ms mode kind e = true) (h0 : table &&& ((1#64 <<< (9 * lvl)) - 1#64) = 0#64) :
    wkEnd pr ms mode kind x table e fr lvl = (⟨(table <<< 12) + (x &&& ((((1#64 <<< (9 * lvl)) - 1#64) <<< 12) ||| 4095#64)), Int.ofNat lvl, e, fr⟩, 0#64) := by
  unfold wkEnd
  rw [h, h0]; rfl
theorem wrT_has {β : Sort _} (cont : (BitVec 64 → BitVec 8) → β) (bad : β) (g : BitVec 64 → BitVec 8) {x : BitVec 64} (h : hasF x 8 = true) (v : BitVec 64) : wrT cont bad g x v = cont (wr8 g x v) := by
  unfold wrT
  rw [h]; rfl
theorem leafEq_self (a : Leaf) : leafEq a a = true := by simp [leafEq]
theorem nxt_lt (e : BitVec 64) : (nxt e).toNat < 2 ^ 44 := by unfold nxt; rw [and44]; omega
theorem ws_true {β : Sort _} (K : Bool → β) (bad : β) (r : Csr) (g : BitVec 64 → BitVec 8) (mode kind : Int) (x y : BitVec 64) : ws1 K bad r g mode kind x y = K true := by
  cases h1 : (bif mode == 3 then true else (r.u.getD 20 0#64 >>> 60) != 8#64) with
  | true =>
    have hW : walkF r g mode kind x = (⟨x, -1, 0#64, 0#64⟩, 0#64) := by unfold walkF wkF wkT; rw [h1]
    unfold ws1
    rw [hW]
    rfl
  | false =>
    cases h2 : ((IntKind.i64.wrap (Int.ofNat (x <<< 25).toNat)).fdiv (2 ^ 25) != IntKind.i64.wrap (Int.ofNat x.toNat)) with
    | true =>
      have hW : walkF r g mode kind x = (leaf0, pageF kind) := by unfold walkF wkF wkT; rw [h1, h2]; rfl
      have hp : (pageF kind != 0#64) = true := by simp [pageF_ne kind]
      have hq : (pageF kind == 0#64) = false := by simp [pageF_ne kind]
      unfold ws1
      rw [hW]
      simp only [hp, cond_true, hq, cond_false]
      rw [leafEq_self]
    | false =>
      have hwk := walk_of h1 h2
      by_cases hc : (walkF r g mode kind x).2 = 0#64
      · -- the walk ends well
        generalize hWg : walkF r g mode kind x = W at hc
        obtain ⟨L, c⟩ := W
        simp only at hc
        subst hc
        have hW := hwk g kind
        rw [hWg] at hW
        obtain ⟨l0, k0, k1, k2, k3, k4, k5, k6, k7⟩ := wkL_ok hW.symm
        have hal : allowsF (r.u.getD 0 0#64) mode kind L.en = true ∧ nxt L.en &&& ((1#64 <<< (9 * l0)) - 1#64) = 0#64 ∧ L = ⟨(nxt L.en <<< 12) + (x &&& ((((1#64 <<< (9 * l0)) - 1#64) <<< 12) ||| 4095#64)), Int.ofNat l0, L.en, L.fr⟩ := by
          unfold wkEnd at k6
          cases ha : allowsF (r.u.getD 0 0#64) mode kind L.en with
          | false => rw [ha] at k6; exact absurd (Prod.mk.inj k6).2 (pageF_ne kind)
          | true =>
            rw [ha] at k6
            cases hb : (nxt L.en &&& ((1#64 <<< (9 * l0)) - 1#64)) != 0#64 with
            | true => rw [hb] at k6; exact absurd (Prod.mk.inj k6).2 (pageF_ne kind)
            | false =>
              rw [hb] at k6
              exact ⟨rfl, by simpa using hb, (Prod.mk.inj k6).1.symm⟩
        obtain ⟨a1, a2, a3⟩ := hal
        have hlv : L.lv = Int.ofNat l0 := by rw [a3]
        have had : L.ad = (nxt L.en <<< 12) + (x &&& ((((1#64 <<< (9 * l0)) - 1#64) <<< 12) ||| 4095#64)) := by
          have := congrArg Leaf.ad a3
          exact this
        obtain ⟨p1, p2, p3⟩ := inval_parts k4
        have t1 : ilt L.lv 0 = false := by
          rw [hlv]
          simp only [ilt, decide_eq_false_iff_not]
          intro h
          have : (l0 : Int) < 0 := h
          omega
        have t2 : IntKind.i64.wrap (9 * L.lv) = ((9 * l0 : Nat) : Int) := by
          rw [hlv, IntKind.wrap_i64]
          show ((9 * (l0 : Int)) + _) % _ - _ = _
          omega
        have t3 : ilt (IntKind.i64.wrap (9 * L.lv)) 0 = false := by
          rw [t2]
          simp only [ilt, decide_eq_false_iff_not]
          omega
        have t4 : (((L.ad >>> 12) >>> (IntKind.i64.wrap (9 * L.lv)).toNat) != (((L.en >>> 10) &&& 17592186044415#64) >>> (IntKind.i64.wrap (9 * L.lv)).toNat)) = false := by
          rw [t2, Int.toNat_natCast, had]
          have := leaf_page (nxt L.en) x (nxt_lt _) k0 a2
          rw [this]
          exact bne_self _
        -- memory, turned
        have other : ∀ (g' : BitVec 64 → BitVec 8) (v : BitVec 64), (∀ b, b.toNat % 8 = 0 → L.fr ≠ b → readF g' b = readF g b) → ∀ b, b.toNat % 8 = 0 → L.fr ≠ b → readF (wr8 g' L.fr v) b = readF g b :=
          fun g' v h b hb hn => by rw [readF_other v k3 hb hn]; exact h b hb hn
        have o0 : ∀ b, b.toNat % 8 = 0 → L.fr ≠ b → readF g b = readF g b := fun _ _ _ => rfl
        -- a bit that says that it is valid, cleared
        let g1 := wr8 g L.fr (L.en &&& ~~~1#64)
        have e1 : walkF r g1 mode kind x = (leaf0, pageF kind) := by
          rw [hwk]
          refine (k7 g1 (other g _ o0)).1 ?_
          rw [readF_wr k2]
          unfold inval
          have : (L.en &&& ~~~1#64) &&& 1#64 = 0#64 := by rw [BitVec.and_assoc]; simp
          rw [this]; rfl
        let g2 := wr8 g1 L.fr (L.en &&& ~~~64#64)
        have e2 : walkF r g2 mode kind x = (leaf0, pageF kind) := by
          rw [hwk]
          have hr : readF g2 L.fr = L.en &&& ~~~64#64 := readF_wr k2 _
          have := (k7 g2 (other g1 _ (other g _ o0))).2
          rw [hr] at this
          have q1 : (L.en &&& ~~~64#64) &&& 1#64 = L.en &&& 1#64 := by rw [BitVec.and_assoc]; rfl
          have q6 : (L.en &&& ~~~64#64) &&& 6#64 = L.en &&& 6#64 := by rw [BitVec.and_assoc]; rfl
          have q10 : (L.en &&& ~~~64#64) &&& 10#64 = L.en &&& 10#64 := by rw [BitVec.and_assoc]; rfl
          have q64 : (L.en &&& ~~~64#64) &&& 64#64 = 0#64 := by rw [BitVec.and_assoc]; simp
          rw [this (inval_of (by rw [q1]; exact p1) (by rw [q6]; exact p2) (sh54.2 (by
            have h := sh54.1 p3
            rw [BitVec.toNat_and]
            exact Nat.lt_of_le_of_lt Nat.and_le_left h))) (by unfold inner at k5 ⊢; rw [q10]; exact k5)]
          exact wkEnd_no (allows_not q64 _ _ _)
        let g3 := wr8 g2 L.fr L.en
        have e3 : walkF r g3 mode kind x = (L, 0#64) := by
          rw [hwk]
          have hr : readF g3 L.fr = L.en := readF_wr k2 _
          have := (k7 g3 (other g2 _ (other g1 _ (other g _ o0)))).2
          rw [hr] at this
          rw [this k4 k5]
          exact k6
        have pe : (pageF kind != pageF kind) = false := bne_self _
        unfold ws1
        rw [hWg]
        simp only [bne_self, cond_false, t1, k2]
        unfold ws2
        rw [← k1]
        simp only [bne_self, a1, Bool.not_true, t3, t4]
        unfold ws3
        rw [wrT_has _ _ _ k2, wrT_has _ _ _ k2, wrT_has _ _ _ k2]
        show ws4 K bad r g3 mode kind x y L.en (L, 0#64) (walkF r g1 mode kind x) (walkF r g2 mode kind x) (walkF r g3 mode kind x) = K true
        rw [e1, e2, e3]
        unfold ws4
        simp only [pe, leafEq_self, bne_self, Bool.not_true, cond_false]
        split
        · rename_i hz
          have hl0 : l0 = 0 := by
            rw [hlv] at hz
            have : (l0 : Int) = 0 := by simpa using hz
            omega
          subst hl0
          rw [wrT_has _ _ _ k2]
          show ws5 K (newE y L.en) x (walkF r (wr8 g3 L.fr (newE y L.en)) mode kind x) = K true
          have e4 : walkF r (wr8 g3 L.fr (newE y L.en)) mode kind x = (⟨(nxt (newE y L.en) <<< 12) + (x &&& 4095#64), Int.ofNat 0, newE y L.en, L.fr⟩, 0#64) := by
            rw [hwk]
            have hr : readF (wr8 g3 L.fr (newE y L.en)) L.fr = newE y L.en := readF_wr k2 _
            have := (k7 (wr8 g3 L.fr (newE y L.en)) (other g3 _ (other g2 _ (other g1 _ (other g _ o0))))).2
            rw [hr] at this
            have hlow := newE_low y L.en
            rw [this (inval_of (by rw [low_and hlow 1#64 (by decide)]; exact p1) (by rw [low_and hlow 6#64 (by decide)]; exact p2) (newE_sh y L.en)) (by unfold inner at k5 ⊢; rw [low_and hlow 10#64 (by decide)]; exact k5)]
            rw [wkEnd_yes (by rw [allows_low hlow]; exact a1) (by
              have : (1#64 <<< (9 * 0)) - 1#64 = 0#64 := rfl
              rw [this]; simp)]
            rfl
          rw [e4]
          unfold ws5
          have e5 : (nxt (newE y L.en) <<< 12) + (x &&& 4095#64) = ((newE y L.en >>> 10) <<< 12) ||| (x &&& 4095#64) := by
            rw [page_or _ _ (nxt_lt _), newE_nxt]
          simp only [e5, beq_self_eq_true, cond_true]
        · rfl
      · have hb : (walkF r g mode kind x).1 = leaf0 := by
          have := wkL_bad (d := (⟨0#64, 0, 0#64, 0#64⟩, 0#64)) (ms := r.u.getD 0 0#64) (cl := r.c) (al := r.a) (g := g) (mode := mode) (kind := kind) (x := x) rfl (lvl := 2) (table := r.u.getD 20 0#64 &&& 17592186044415#64)
          rw [← hwk] at this
          exact this.resolve_left hc
        unfold ws1
        have hp : ((walkF r g mode kind x).2 != 0#64) = true := by simp [hc]
        have hq : ((walkF r g mode kind x).2 == 0#64) = false := by simp [hc]
        simp only [hp, cond_true, hq, cond_false]
        rw [hb, leafEq_self]
end Go.R1
