/-
  The memory of pages in this program: what 'get' and 'put' do.
-/
import Derived.Test.YtjofkjbpiaihbaaDoorAEvR
import Derived.Test.YtjofkjbpiaihbaaDoorProg
import Derived.KernelRfl
import Derived.WalkKit
import Derived.WalkSpells
import Derived.WalkLawsBesides
set_option maxRecDepth 100000
namespace Go.R1
open Go Go.AEv Go.Proofs Go.ChangeMaps Go.RowKit

theorem eqKeys (a b : BitVec 64) (w : World) : (Op.equal 99 (wkey a) (wkey b)).run Tryd.prog w = .ok (a == b) w := by
  have h : aeq Tryd.prog 3 99 (.agg [.s (.u64 a)]) (.agg [.s (.u64 b)]) = some ((a == b) && true) := by kernel_rfl
  have r : ∀ a : BitVec 64, VRel [] (.agg [.s (.u64 a)]) (wkey a) := fun a => .agg (vs := #[.int .u64 a.toNat]) rfl (fun k x v hx hv => by
    cases k with
    | zero => simp at hx hv; subst hx; subst hv; exact .s (.u64 a)
    | succ k => simp at hx)
  rw [Bool.and_true] at h
  have := aeq_sound (P := Tryd.prog) (ρ := []) 3 9997 99 _ _ _ _ _ h (r a) (r b) w
  exact this
theorem wk : WKey Tryd.prog 75 99 97 where
  map := by kernel_rfl
  st := by
    have h : (match Tryd.prog.underlying 99 with | some (.struct _) => true | _ => false) = true := by kernel_rfl
    split at h
    · exact ⟨_, by assumption⟩
    · simp at h
  eq := eqKeys
  chk := fun e a w => by kernel_rfl
  zero := fun w => by kernel_rfl

/-- The objects: a memory. -/
inductive Ob where
  | ram (f : BitVec 64 → BitVec 8)
  | ramR (f : BitVec 64 → BitVec 8)
/-- A memory that is only read. -/
def RamRelR (f : BitVec 64 → BitVec 8) (g : Ghost) (w : World) (W R : Nat → Prop) : Prop :=
  ∃ a l, RamIs f g w a l ∧ (∀ b, ¬ W b) ∧ ∀ b, R b ↔ b ∈ g.b :: a :: l.map (·.2)
theorem RamRelR.congr {f : BitVec 64 → BitVec 8} {g : Ghost} {w w' : World} {W R : Nat → Prop} (h : RamRelR f g w W R) (hb : ∀ b, W b ∨ R b → w'.heap[b]? = w.heap[b]?) : RamRelR f g w' W R := by
  obtain ⟨a, l, h1, h2, h3⟩ := h
  exact ⟨a, l, h1.congr (fun b hbm => hb b (.inr ((h3 b).2 hbm))), h2, h3⟩
def tab : List (BitVec 8) := [0, 1, 56, 2, 57, 49, 28, 3, 61, 58, 42, 50, 38, 29, 17, 4, 62, 47, 59, 36, 45, 43, 51, 22, 53, 39, 33, 30, 24, 18, 12, 5, 63, 55, 48, 27, 60, 41, 37, 16, 46, 35, 44, 21, 52, 32, 23, 11, 54, 26, 40, 15, 34, 20, 31, 10, 25, 14, 19, 9, 13, 8, 7, 6]
noncomputable abbrev ctx : Ctx where
  P := Tryd.prog
  X := Ob
  rel := fun x _ g w W R => match x with
    | .ram f => RamRel f g w W R
    | .ramR f => RamRelR f g w W R
  frame := fun {x _ _ _ _ _ _} h hb => match x, h with
    | .ram _, h => RamRel.congr h hb
    | .ramR _, h => RamRelR.congr h hb
  mono := fun h _ => h
  scp := fun _ _ => true
  take := fun h _ => h
  nG := 1
  Inv := fun w => ∀ n x, tab[n]? = some x → w.cell? ⟨0, n, none⟩ = some (.int .u8 x.toNat)
  invFrame := fun {w w'} h hb n x hx => by
    rw [World.cell?_of_block (w := w) (w' := w') (hb 0 (by decide))]
    exact h n x hx

section
variable {b o a pb : Nat} {x : BitVec 64} {w : World}
theorem get_none (h : w.cell? ⟨b, o, none⟩ = some (.map (some a)))
   (hl : ∀ k : Int, k = (x.toNat : Int).tdiv 4096 → (Instr.lookup 75 (.map (some a)) (.agg #[.int .u64 k]) false).run Tryd.prog w = .ok (.pointer none) w) :
    Calls Tryd.prog 35 #[.pointer (some ⟨b, o, none⟩), .int .u64 x.toNat] w fun e w' => e = .returned (.int .u8 0) ∧ w' = w := by
  go_enter Tryd.func35, Tryd.ntmps35
  go_wp2_with fail
  go_ret
  exact ⟨rfl, rfl⟩
theorem get_some {v : BitVec 8} (h : w.cell? ⟨b, o, none⟩ = some (.map (some a)))
   (hl : ∀ k : Int, k = (x.toNat : Int).tdiv 4096 → (Instr.lookup 75 (.map (some a)) (.agg #[.int .u64 k]) false).run Tryd.prog w = .ok (.pointer (some ⟨pb, 0, none⟩)) w)
   (hc : ∀ n : Nat, n = x.toNat % 4096 → w.cell? ⟨pb, n, none⟩ = some (.int .u8 v.toNat)) :
    Calls Tryd.prog 35 #[.pointer (some ⟨b, o, none⟩), .int .u64 x.toNat] w fun e w' => e = .returned (.int .u8 v.toNat) ∧ w' = w := by
  go_enter Tryd.func35, Tryd.ntmps35
  go_wp2_with fail
  go_ret
  exact ⟨rfl, rfl⟩
theorem put_zero (h : w.cell? ⟨b, o, none⟩ = some (.map (some a)))
   (hl : ∀ k : Int, k = (x.toNat : Int).tdiv 4096 → (Instr.lookup 75 (.map (some a)) (.agg #[.int .u64 k]) false).run Tryd.prog w = .ok (.pointer none) w) :
    Calls Tryd.prog 31 #[.pointer (some ⟨b, o, none⟩), .int .u64 x.toNat, .int .u8 0] w fun e w' => e = .returned (.tuple #[]) ∧ w' = w := by
  go_enter Tryd.func31, Tryd.ntmps31
  go_wp2_with fail
  refine bodyPost_ret (results_none rfl _ _ _) rfl ?_
  exact ⟨rfl, rfl⟩
theorem put_some {v : Int} {u : Value} (h : w.cell? ⟨b, o, none⟩ = some (.map (some a)))
   (hl : ∀ k : Int, k = (x.toNat : Int).tdiv 4096 → (Instr.lookup 75 (.map (some a)) (.agg #[.int .u64 k]) false).run Tryd.prog w = .ok (.pointer (some ⟨pb, 0, none⟩)) w)
   (hc : ∀ n : Nat, n = x.toNat % 4096 → w.cell? ⟨pb, n, none⟩ = some u) (hf : ∀ n, w.frozen? ⟨pb, n, none⟩ = false) :
    Calls Tryd.prog 31 #[.pointer (some ⟨b, o, none⟩), .int .u64 x.toNat, .int .u8 v] w fun e w' => e = .returned (.tuple #[]) ∧ w' = w.setCell ⟨pb, x.toNat % 4096, none⟩ (.int .u8 v) := by
  go_enter Tryd.func31, Tryd.ntmps31
  go_wp2_with fail
  go_end0
  exact ⟨rfl, rfl⟩
theorem zero100 (w : World) : (zeroValue 100).run Tryd.prog w = .ok (.agg (Array.replicate 4096 (.int .u8 0))) w := by kernel_rfl
theorem put_new {v : Int} (hv : v ≠ 0) {u : Value} {w1 w2 : World} (h : w.cell? ⟨b, o, none⟩ = some (.map (some a)))
   (hl : ∀ k : Int, k = (x.toNat : Int).tdiv 4096 → (Instr.lookup 75 (.map (some a)) (.agg #[.int .u64 k]) false).run Tryd.prog w = .ok (.pointer none) w)
   (h1 : w.alloc (.cells (Array.replicate 4096 (.int .u8 0)) 100 (0, 0)) = w1) (h1c : w1.cell? ⟨b, o, none⟩ = some (.map (some a)))
   (hu : ∀ k : Int, k = (x.toNat : Int).tdiv 4096 → (Instr.mapUpdate 75 (.map (some a)) (.agg #[.int .u64 k]) (.pointer (some ⟨w.heap.size, 0, none⟩))).run Tryd.prog w1 = .ok () w2)
   (hc : ∀ n : Nat, n = x.toNat % 4096 → w2.cell? ⟨w.heap.size, n, none⟩ = some u) (hf : ∀ n, w2.frozen? ⟨w.heap.size, n, none⟩ = false) :
    Calls Tryd.prog 31 #[.pointer (some ⟨b, o, none⟩), .int .u64 x.toNat, .int .u8 v] w fun e w' => e = .returned (.tuple #[]) ∧ w' = w2.setCell ⟨w.heap.size, x.toNat % 4096, none⟩ (.int .u8 v) := by
  have hz := zero100 w
  go_enter Tryd.func31, Tryd.ntmps31
  go_wp2_with fail
  go_end0
  exact ⟨rfl, rfl⟩
end

/-- What holds of a block of the memory is what its object says. -/
theorem obj_at {ρ : List Ghost} {m : List (Blk Ob)} {w : World} {W R : Nat → Nat → Prop} (h : HSep ctx ρ m w W R) {i : Nat} {f : BitVec 64 → BitVec 8} {g : Ghost} (hi : nth m i = some (.ext (.ram f))) (hg : ρ[i]? = some g) : RamRel f g w (W i) (R i) := by
  rw [nth_eq] at hi
  exact h.blk i (.ext (.ram f)) g hi hg
def sGet : FSpec Ob := fun args m K _ => match args with
  | [.ptr i 0, .s (.u64 x)] => match nth m i with
    | some (.ext (.ram f)) => K (.s (.u8 (f x))) m
    | some (.ext (.ramR f)) => K (.s (.u8 (f x))) m
    | _ => False
  | _ => False
def sPut : FSpec Ob := fun args m K _ => match args with
  | [.ptr i 0, .s (.u64 x), .s (.u8 v)] => match nth m i with
    | some (.ext (.ram f)) => K (.tup []) (setAt m i (.ext (.ram (updF f x v))))
    | _ => False
  | _ => False
theorem vs1 {ρ : List Ghost} {x : AV} {xs : List AV} {vs : List Value} (h : VsRel ρ (x :: xs) vs) : ∃ v us, vs = v :: us ∧ VRel ρ x v ∧ VsRel ρ xs us := by
  match vs, h with
  | [], h => exact absurd h.1 (by simp)
  | v :: us, h => exact ⟨v, us, rfl, h.2 0 x v rfl rfl, ⟨by simpa using h.1, fun k y u hy hu => h.2 (k + 1) y u (by simpa using hy) (by simpa using hu)⟩⟩
theorem vs0 {ρ : List Ghost} {vs : List Value} (h : VsRel ρ [] vs) : vs = [] := List.length_eq_zero_iff.1 (by have := h.1; simpa using this.symm)
theorem inv_ptr {ρ : List Ghost} {i off : Nat} {v : Value} (h : VRel ρ (.ptr i off) v) : ∃ g, ρ[i]? = some g ∧ v = .pointer (some ⟨g.b, g.o + off, none⟩) := by cases h with | ptr h => exact ⟨_, h, rfl⟩
theorem inv_s {ρ : List Ghost} {x : SV} {v : Value} (h : VRel ρ (.s x) v) : v = x.val := by cases h; rfl
theorem key_of (x : BitVec 64) {k : Int} (h : k = (x.toNat : Int).tdiv 4096) : (.agg #[.int .u64 k] : Value) = wkey (pgNo x) := by
  subst h
  simp only [wkey, pgNo, BitVec.toNat_udiv]
  congr 4
theorem get_core {ρ : List Ghost} {m : List (Blk Ob)} {K Kp : AV → List (Blk Ob) → Prop} {f : BitVec 64 → BitVec 8} {x : BitVec 64} (h : K (.s (.u8 (f x))) m) {w : World} {fp : Nat → Prop} (hH : HRel ctx ρ m w fp) {g : Ghost} {a : Nat} {l : List (BitVec 64 × Nat)} (hr : RamIs f g w a l) :
    Calls Tryd.prog 35 #[.pointer (some ⟨g.b, g.o + 0, none⟩), .int .u64 x.toNat] w (CallPost ctx ρ w fp K Kp) := by
  have hl := fun k (hk : k = (x.toNat : Int).tdiv 4096) => key_of x hk ▸ lookup_run wk hr.map (pgNo x)
  have post : ∀ e w', e = Ending.returned (.int .u8 (f x).toNat) ∧ w' = w → CallPost ctx ρ w fp K Kp e w' := fun e w' h' => by
    obtain ⟨rfl, rfl⟩ := h'
    exact ⟨_, m, ρ, fp, h, St.refl .., .s (.u8 (f x)), hH⟩
  cases hp : lookL l (pgNo x) with
  | none =>
    have hz := hr.zero x hp
    refine Calls.mono (get_none hr.cell (fun k hk => by simpa [hp] using hl k hk)) (fun e w' h' => post e w' ?_)
    rw [hz]; exact h'
  | some pb =>
    exact Calls.mono (get_some (v := f x) hr.cell (fun k hk => by simpa [hp] using hl k hk) (fun n hn => by subst hn; exact hr.byte x pb hp)) post
theorem get_sound : FSound ctx 35 sGet := by
  intro args m K Kp h
  unfold sGet at h
  split at h
  · rename_i i x
    split at h
    · rename_i f hm
      refine ⟨Tryd.call35, fun ρ w fp vs hv hH => ?_⟩
      obtain ⟨v1, us1, rfl, h1, hv⟩ := vs1 hv
      obtain ⟨v2, us2, rfl, h2, hv⟩ := vs1 hv
      obtain rfl := vs0 hv
      obtain ⟨g, hg, rfl⟩ := inv_ptr h1
      obtain rfl := inv_s h2
      have hH0 := hH
      obtain ⟨W, R, hs, hf⟩ := hH
      obtain ⟨a, l, hr, _, _⟩ := obj_at hs hm hg
      exact get_core h hH0 hr
    · rename_i f hm
      refine ⟨Tryd.call35, fun ρ w fp vs hv hH => ?_⟩
      obtain ⟨v1, us1, rfl, h1, hv⟩ := vs1 hv
      obtain ⟨v2, us2, rfl, h2, hv⟩ := vs1 hv
      obtain rfl := vs0 hv
      obtain ⟨g, hg, rfl⟩ := inv_ptr h1
      obtain rfl := inv_s h2
      have hH0 := hH
      obtain ⟨W, R, hs, hf⟩ := hH
      rw [nth_eq] at hm
      obtain ⟨a, l, hr, _, _⟩ : RamRelR f g w (W i) (R i) := hs.blk i (.ext (.ramR f)) g hm hg
      exact get_core h hH0 hr
    · exact h.elim
  · exact h.elim
theorem pgNo_ne {f : BitVec 64 → BitVec 8} {x : BitVec 64} (h : f x = 0#8) : updF f x 0#8 = f := by
  funext y
  unfold updF
  split
  · rename_i e; subst e; exact h.symm
  · rfl
theorem turned {ρ : List Ghost} {m : List (Blk Ob)} {w w' : World} {fp : Nat → Prop} {W R : Nat → Nat → Prop} (hs : HSep ctx ρ m w W R) (hf : ∀ i b, W i b → fp b) {i : Nat} {g : Ghost} (hil : i < m.length) (hg : ρ[i]? = some g)
    {a : Nat} {l l' : List (BitVec 64 × Nat)} (hW : ∀ b, W i b ↔ b ∈ g.b :: a :: l.map (·.2)) (hR : ∀ b, ¬ R i b) {f' : BitVec 64 → BitVec 8} (hr : RamIs f' g w' a l')
    (hsz : w.heap.size ≤ w'.heap.size) (hkeep : ∀ b, b < w.heap.size → ¬ W i b → w'.heap[b]? = w.heap[b]?) (hl : ∀ b ∈ l'.map (·.2), b ∈ l.map (·.2) ∨ (w.heap.size ≤ b ∧ b < w'.heap.size))
    (ht : w'.tape = w.tape) (ho : w'.os = w.os) (hu : w'.output = w.output) : ∃ fp', St ρ w fp ρ w' fp' ∧ HRel ctx ρ (setAt m i (.ext (.ram f'))) w' fp' := by
  have hW' : ∀ b, b ∈ g.b :: a :: l'.map (·.2) → W i b ∨ (w.heap.size ≤ b ∧ b < w'.heap.size) := fun b hb => by
    simp only [List.mem_cons] at hb
    rcases hb with hb | hb | hb
    · exact .inl ((hW b).2 (by simp [hb]))
    · exact .inl ((hW b).2 (by simp [hb]))
    · rcases hl b hb with h1 | h1
      · exact .inl ((hW b).2 (by simp only [List.mem_cons]; exact .inr (.inr h1)))
      · exact .inr h1
  refine ⟨fun b => fp b ∨ w.heap.size ≤ b, ⟨.refl _, ⟨hsz, fun b hb hn => hkeep b hb (fun h => hn (hf i b h)), ht, ho, hu⟩, fun b hb => hb⟩, _, _, hs.updNew (blk' := .ext (.ram f')) (Wn := fun b => b ∈ g.b :: a :: l'.map (·.2)) hil hg hsz hkeep
    (fun b hb => (hW' b hb).imp (fun h => h) (fun h => h.1)) (fun b hb => ?_) ⟨a, l', hr, fun b => Iff.rfl, hR⟩, fun j b hb => ?_⟩
  · rcases hW' b hb with h1 | h1
    · exact Nat.lt_of_lt_of_le (hs.lt i b (.inl h1)) hsz
    · exact h1.2
  · split at hb
    · rcases hW' b hb with h1 | h1
      · exact .inl (hf i b h1)
      · exact .inr h1.1
    · exact .inl (hf j b hb)
theorem setCell_size (w : World) (a : Addr) (v : Value) : (w.setCell a v).heap.size = w.heap.size := by simp [World.setCell]
theorem setBlock_size (w : World) (a : Nat) (o : Obj) : (setBlock w a o).heap.size = w.heap.size := by simp [setBlock]
theorem put_sound : FSound ctx 31 sPut := by
  intro args m K Kp h
  unfold sPut at h
  split at h
  · rename_i i x v
    split at h
    · rename_i f hm
      refine ⟨Tryd.call31, fun ρ w fp vs hv hH => ?_⟩
      obtain ⟨v1, us1, rfl, h1, hv⟩ := vs1 hv
      obtain ⟨v2, us2, rfl, h2, hv⟩ := vs1 hv
      obtain ⟨v3, us3, rfl, h3, hv⟩ := vs1 hv
      obtain rfl := vs0 hv
      obtain ⟨g, hg, rfl⟩ := inv_ptr h1
      obtain rfl := inv_s h2
      obtain rfl := inv_s h3
      have hH0 := hH
      obtain ⟨W, R, hs, hf⟩ := hH
      obtain ⟨a, l, hr, hW, hR⟩ := obj_at hs hm hg
      have hl := fun k (hk : k = (x.toNat : Int).tdiv 4096) => key_of x hk ▸ lookup_run wk hr.map (pgNo x)
      have hm' : m[i]? = some (.ext (.ram f)) := by rw [← nth_eq]; exact hm
      have hil := (List.getElem?_eq_some_iff.1 hm').1
      have hlt : ∀ b, b ∈ g.b :: a :: l.map (·.2) → b < w.heap.size := fun b hb => hs.lt i b (.inl ((hW b).2 hb))
      have nil : ∀ ρ, VRel ρ (.tup []) (.tuple #[]) := fun ρ => .tup (vs := #[]) rfl (fun k x v hx => by simp at hx)
      cases hp : lookL l (pgNo x) with
      | none =>
        by_cases h0 : v = 0#8
        · subst h0
          refine Calls.mono (put_zero hr.cell (fun k hk => by simpa [hp] using hl k hk)) (fun e w' h' => ?_)
          obtain ⟨rfl, rfl⟩ := h'
          rw [pgNo_ne (hr.zero x hp)] at h
          obtain ⟨fp', h4, h5⟩ := turned hs hf hil hg hW hR hr (Nat.le_refl _) (fun _ _ _ => rfl) (fun b hb => .inl hb) rfl rfl rfl
          exact ⟨.tup [], _, ρ, fp', h, h4, nil _, h5⟩
        · have hv0 : ((v.toNat : Nat) : Int) ≠ 0 := fun e => h0 (BitVec.eq_of_toNat_eq (by simpa using e))
          obtain ⟨ob, hu, hr2, hl2⟩ := hr.page wk hp (cs := Array.replicate 4096 (.int .u8 0)) (t := 100) (fun n hn => by simp [hn]) hlt
          have hb2 := hr2.byte x _ hl2
          have hr3 := hr2.set hl2 v
          have h1c := (hr.congr (w' := w.alloc (.cells (Array.replicate 4096 (.int .u8 0)) 100 (0, 0))) (fun b hb => alloc_get_lt w _ (hlt b hb))).cell
          refine Calls.mono (put_new hv0 hr.cell (fun k hk => by simpa [hp] using hl k hk) rfl h1c (fun k hk => by rw [key_of x hk]; exact hu) (fun n hn => by subst hn; exact hb2)
            (fun n => hr2.free (pgNo x, w.heap.size) (by simp) n)) (fun e w' h' => ?_)
          obtain ⟨rfl, rfl⟩ := h'
          obtain ⟨fp', h4, h5⟩ := turned hs hf hil hg hW hR hr3 (by rw [setCell_size, setBlock_size, alloc_size]; omega) (fun b hb hn => by
            refine (Go.AEv.heap_setCell_other (a := ⟨w.heap.size, _, none⟩) (show b ≠ w.heap.size by omega)).trans ?_
            have : b ≠ a := fun e => hn ((hW b).2 (by simp [e]))
            simp only [setBlock]
            rw [Array.getElem?_setIfInBounds_ne (fun e => this e.symm), alloc_get_lt w _ hb]) (fun b hb => by
            simp only [List.map_append, List.mem_append, List.map_cons, List.map_nil, List.mem_singleton] at hb
            rcases hb with hb | hb
            · exact .inl hb
            · refine .inr ⟨by omega, ?_⟩
              rw [setCell_size, setBlock_size, alloc_size]; omega) rfl rfl rfl
          exact ⟨.tup [], _, ρ, fp', h, h4, nil _, h5⟩
      | some pb =>
        have hr3 := hr.set hp v
        refine Calls.mono (put_some hr.cell (fun k hk => by simpa [hp] using hl k hk) (fun n hn => by subst hn; exact hr.byte x pb hp) (fun n => hr.free _ (lookL_mem hp) n)) (fun e w' h' => ?_)
        obtain ⟨rfl, rfl⟩ := h'
        obtain ⟨fp', h4, h5⟩ := turned hs hf hil hg hW hR hr3 (by rw [setCell_size]; omega) (fun b hb hn => by
          refine Go.AEv.heap_setCell_other (a := ⟨pb, _, none⟩) (fun e => ?_)
          replace e : b = pb := e
          refine hn ((hW b).2 ?_)
          simp only [List.mem_cons, List.mem_map]
          exact .inr (.inr ⟨_, lookL_mem hp, e.symm⟩)) (fun b hb => .inl hb) rfl rfl rfl
        exact ⟨.tup [], _, ρ, fp', h, h4, nil _, h5⟩
    · exact h.elim
  · exact h.elim
/-! ### trailing zeros -/
def tzE (x : BitVec 64) : Int := IntKind.u64.wrap (bits .and .u64 x.toNat (IntKind.u64.wrap (-(x.toNat : Int))) * 285870213051353865) / 288230376151711744
def tzP (b : Bool) (n : Nat) : BitVec 8 := match b with
  | true => 64#8
  | false => tab.getD n 0#8
def tz (x : BitVec 64) : BitVec 8 := tzP (x == 0#64) (tzE x).toNat
theorem tz_zero {w : World} : Calls Tryd.prog 42 #[.int .u64 0] w fun e w' => e = .returned (.int .i64 64) ∧ w' = w := by
  go_enter Tryd.func42, Tryd.ntmps42
  go_wp2_with fail
  go_ret
  exact ⟨rfl, rfl⟩
theorem tzE_lt (x : BitVec 64) : 0 ≤ tzE x ∧ tzE x < 64 := by
  unfold tzE
  rw [IntKind.wrap_u64]
  omega
theorem tz_int {w : World} {x : Int} (hx : (x == 0) = false) (h0 : 0 ≤ x ∧ x ≤ 18446744073709551615) (hE : 0 ≤ IntKind.u64.wrap (bits .and .u64 x (IntKind.u64.wrap (-x)) * 285870213051353865) / 288230376151711744 ∧ IntKind.u64.wrap (bits .and .u64 x (IntKind.u64.wrap (-x)) * 285870213051353865) / 288230376151711744 < 64)
    {v : BitVec 8} (hc : w.cell? ⟨0, (IntKind.u64.wrap (bits .and .u64 x (IntKind.u64.wrap (-x)) * 285870213051353865) / 288230376151711744).toNat, none⟩ = some (.int .u8 v.toNat)) :
   Calls Tryd.prog 42 #[.int .u64 x] w fun e w' => e = .returned (.int .i64 v.toNat) ∧ w' = w := by
  go_enter Tryd.func42, Tryd.ntmps42
  go_wp2_with fail
  go_ret
  exact ⟨rfl, rfl⟩
theorem tz_pos {w : World} {x : BitVec 64} (h : x ≠ 0#64) {v : BitVec 8} (hc : w.cell? ⟨0, (tzE x).toNat, none⟩ = some (.int .u8 v.toNat)) :
   Calls Tryd.prog 42 #[.int .u64 x.toNat] w fun e w' => e = .returned (.int .i64 v.toNat) ∧ w' = w := by
  have h0 : x.toNat ≠ 0 := fun e => h (BitVec.eq_of_toNat_eq (by simpa using e))
  have hx : ((x.toNat : Int) == 0) = false := by simp; omega
  have hl : 0 ≤ (x.toNat : Int) ∧ (x.toNat : Int) ≤ 18446744073709551615 := by have := x.isLt; omega
  have hE := tzE_lt x
  unfold tzE at hE hc
  generalize (x.toNat : Int) = y at *
  exact tz_int hx hl hE hc
theorem tab_get {n : Nat} (hn : n < 64) : tab[n]? = some (tab.getD n 0#8) := by
  rw [List.getD_eq_getElem?_getD]
  have : n < tab.length := hn
  rw [List.getElem?_eq_getElem this, Option.getD_some]
theorem tz_not {x : BitVec 64} (h : x ≠ 0#64) : tab[(tzE x).toNat]? = some (tz x) := by
  have hE := tzE_lt x
  have hb : (x == 0#64) = false := by simpa using h
  unfold tz
  generalize tzE x = e at *
  rw [hb]
  exact tab_get (by omega)
def sTz : FSpec Ob := fun args m K _ => match args with
  | [.s (.u64 x)] => K (.s (.i .i64 (tz x).toNat)) m
  | _ => False
theorem tz_sound : FSound ctx 42 sTz := by
  intro args m K Kp h
  unfold sTz at h
  split at h
  · rename_i x
    refine ⟨Tryd.call42, fun ρ w fp vs hv hH => ?_⟩
    obtain ⟨v1, us1, rfl, h1, hv⟩ := vs1 hv
    obtain rfl := vs0 hv
    obtain rfl := inv_s h1
    have post : ∀ e w', e = Ending.returned (.int .i64 (tz x).toNat) ∧ w' = w → CallPost ctx ρ w fp K Kp e w' := fun e w' h' => by
      obtain ⟨rfl, rfl⟩ := h'
      exact ⟨_, m, ρ, fp, h, St.refl .., .s (.i .i64 (tz x).toNat), hH⟩
    by_cases h0 : x = 0#64
    · subst h0
      exact Calls.mono tz_zero post
    · obtain ⟨W, R, hs, hf⟩ := hH
      exact Calls.mono (tz_pos h0 (hs.inv _ _ (tz_not h0))) post
  · exact h.elim
end Go.R1
