/-
  The memory: eight bytes, read.
-/
import Derived.Test.YtjofkjbpiaihbaaDoorR1Fe
set_option maxRecDepth 100000
namespace Go.R1
open Go Go.AEv Go.Proofs

/-- Eight bytes as a number, the first 'n' of them; in the order in which they are taken. -/
def rd8 (f : BitVec 64 → BitVec 8) (x : BitVec 64) : BitVec 64 :=
  ((((((((0#64 <<< 8 ||| (f (x + BitVec.ofInt 64 7)).setWidth 64) <<< 8 ||| (f (x + BitVec.ofInt 64 6)).setWidth 64) <<< 8 ||| (f (x + BitVec.ofInt 64 5)).setWidth 64) <<< 8 ||| (f (x + BitVec.ofInt 64 4)).setWidth 64) <<< 8 |||
    (f (x + BitVec.ofInt 64 3)).setWidth 64) <<< 8 ||| (f (x + BitVec.ofInt 64 2)).setWidth 64) <<< 8 ||| (f (x + BitVec.ofInt 64 1)).setWidth 64) <<< 8 ||| (f (x + BitVec.ofInt 64 0)).setWidth 64)
def rdT {β : Sort _} (K : BitVec 64 → Bool → β) (f : BitVec 64 → BitVec 8) (x : BitVec 64) : β :=
  match !(hasF x 8) with
  | true => K 0#64 false
  | false => K (rd8 f x) true
theorem read_eval (f : BitVec 64 → BitVec 8) (x : BitVec 64) (K Kp : AV → List (Blk Ob) → Prop) :
    aFun ctx.P L2 none ctx.scp Tryd.f25 400 1 [.ptr 0 0, .s (.u64 x), .s (.i .i64 8)] [.ext (.ramR f)] K Kp
    = rdT (fun v ok => K (.tup [.s (.u64 v), .s (.b ok)]) [.ext (.ramR f)]) f x := by kernel_rfl
theorem rd_comm {β : Sort _} (K : BitVec 64 → Bool → β) (f : BitVec 64 → BitVec 8) (x : BitVec 64) : rdT K f x = K (rdT (fun v _ => v) f x) (hasF x 8) := by
  unfold rdT
  cases hasF x 8 <;> rfl
def readF (f : BitVec 64 → BitVec 8) (x : BitVec 64) : BitVec 64 := rdT (fun v _ => v) f x
def ramAt (m : List (Blk Ob)) (i : Nat) : Option (BitVec 64 → BitVec 8) :=
  match nth m i with
  | some (.ext (.ram f)) => some f
  | some (.ext (.ramR f)) => some f
  | _ => none
theorem ramAt_rel {ρ : List Ghost} {m : List (Blk Ob)} {w : World} {W R : Nat → Nat → Prop} (h : HSep ctx ρ m w W R) {i : Nat} {f : BitVec 64 → BitVec 8} (hi : ramAt m i = some f) {g : Ghost} (hg : ρ[i]? = some g) (ρ0 : List Ghost) :
    ∃ R0, BRel ctx ρ0 g w (.ext (.ramR f)) (fun _ => False) R0 ∧ ∀ b, R0 b → b < w.heap.size := by
  unfold ramAt at hi
  split at hi
  · rename_i f' hb
    cases hi
    rw [nth_eq] at hb
    obtain ⟨a, l, hr, hW, _⟩ : RamRel f g w (W i) (R i) := h.blk i _ g hb hg
    exact ⟨fun b => b ∈ g.b :: a :: l.map (·.2), ⟨a, l, hr, fun _ h => h, fun _ => Iff.rfl⟩, fun b hb => h.lt i b (.inl ((hW b).2 hb))⟩
  · rename_i f' hb
    cases hi
    rw [nth_eq] at hb
    obtain ⟨a, l, hr, _, hR⟩ : RamRelR f g w (W i) (R i) := h.blk i _ g hb hg
    exact ⟨R i, ⟨a, l, hr, fun _ h => h, hR⟩, fun b hb => h.lt i b (.inr hb)⟩
  · simp at hi
def sRead : FSpec Ob := fun args m K _ => match args with
  | [.ptr i 0, .s (.u64 x), .s (.i .i64 n)] => match ramAt m i, n == 8 with
    | some f, true => K (.tup [.s (.u64 (readF f x)), .s (.b (hasF x 8))]) m
    | _, _ => False
  | _ => False
theorem read_sound : FSound ctx 25 sRead := by
  refine (aFun_sound L2_sound (noLoops ctx) mix Tryd.func25 Tryd.call25 400 1).pure fun args m K Kp h => ?_
  unfold sRead at h
  split at h
  · rename_i i x n
    split at h
    · rename_i f hr hn
      have : n = 8 := by simpa using hn
      subst this
      refine ⟨[.ptr 0 0, .s (.u64 x), .s (.i .i64 8)], [.ext (.ramR f)], by rw [read_eval, rd_comm]; exact ⟨rfl, h⟩, fun ρ w fp vs hv hH => ?_⟩
      obtain ⟨v1, us1, rfl, h1, hv1⟩ := vs1 hv
      obtain ⟨g, hg, rfl⟩ := inv_ptr h1
      have hH0 := hH
      obtain ⟨W, R, hs, hf⟩ := hH
      refine ⟨[g], ?_, ?_⟩
      · obtain ⟨v2, us2, rfl, h2, hv2⟩ := vs1 hv1
        obtain ⟨v3, us3, rfl, h3, hv3⟩ := vs1 hv2
        obtain rfl := vs0 hv3
        exact .cons (.ptr rfl) (.cons (closed_rel h2 rfl) (.cons (closed_rel h3 rfl) (.nil _)))
      · have := hH0.ros [(g, .ext (.ramR f))] (fun p hp => by
          simp only [List.mem_singleton] at hp; subst hp
          exact ramAt_rel hs hr hg _)
        exact this
    · exact h.elim
  · exact h.elim
end Go.R1
