/-
  A new memory; an image, laid.
-/
import Derived.Test.YtjofkjbpiaihbaaDoorR1Fi
import Derived.Test.YtjofkjbpiaihbaaDoorAEvS
set_option maxRecDepth 100000
namespace Go.R1
open Go Go.AEv Go.Proofs Go.ChangeMaps Go.RowKit

theorem new_run {w : World} : Calls Tryd.prog 15 #[] w fun e w' => e = .returned (.pointer (some ⟨w.heap.size + 1, 0, none⟩)) ∧ w' = (w.alloc (.map #[] 0)).alloc (.cells #[.map (some w.heap.size)] 77 (0, 0)) := by
  have hmm := @run_makeMap Tryd.prog
  go_enter Tryd.func15, Tryd.ntmps15
  go_wp2_with fail
  go_ret
  exact ⟨rfl, rfl⟩
def sNew : FSpec Ob := fun args m K _ => match args with
  | [] => K (.ptr m.length 0) (m ++ [.ext (.ram fun _ => 0#8)])
  | _ => False
theorem new_sound : FSound ctx 15 sNew := by
  intro args m K Kp h
  unfold sNew at h
  split at h
  case h_2 => exact h.elim
  refine ⟨Tryd.call15, fun ρ w fp vs hv hH => ?_⟩
  obtain rfl := vs0 hv
  refine Calls.mono new_run (fun e w' h' => ?_)
  obtain ⟨rfl, rfl⟩ := h'
  obtain ⟨W, R, hs, hf⟩ := hH
  have s1 : ((w.alloc (.map #[] 0)).alloc (.cells #[.map (some w.heap.size)] 77 (0, 0))).heap.size = w.heap.size + 2 := by rw [alloc_size, alloc_size]
  have keep : ∀ b, b < w.heap.size → ((w.alloc (.map #[] 0)).alloc (.cells #[.map (some w.heap.size)] 77 (0, 0))).heap[b]? = w.heap[b]? := fun b hb => by
    rw [alloc_get_lt _ _ (by rw [alloc_size]; omega), alloc_get_lt _ _ hb]
  let g : Ghost := ⟨w.heap.size + 1, 0, 1, undef⟩
  have hr : RamIs (fun _ => 0#8) g ((w.alloc (.map #[] 0)).alloc (.cells #[.map (some w.heap.size)] 77 (0, 0))) w.heap.size [] := by
    refine ⟨?_, ⟨#[], 0, ?_, rfl⟩, by simp [g], fun _ _ => rfl, fun x pb hx => by simp [lookL] at hx, fun p hp => by simp at hp⟩
    · have := cell_new (w.alloc (.map #[] 0)) #[.map (some w.heap.size)] 77 (0, 0) 0
      rw [alloc_size] at this
      exact this
    · rw [alloc_get_lt _ _ (by rw [alloc_size]; omega), alloc_get_new]
  have hB : BRel ctx (ρ ++ [g]) g ((w.alloc (.map #[] 0)).alloc (.cells #[.map (some w.heap.size)] 77 (0, 0))) (.ext (.ram fun _ => 0#8)) (fun b => b ∈ [w.heap.size + 1, w.heap.size]) (fun _ => False) :=
    ⟨w.heap.size, [], hr, fun b => by simp [g], fun _ h => h⟩
  refine ⟨_, _, ρ ++ [g], fun b => fp b ∨ w.heap.size ≤ b, h, ⟨⟨_, rfl⟩, ⟨by rw [s1]; omega, fun b hb _ => keep b hb, rfl, rfl, rfl⟩, fun b hb => hb⟩, ?_, _, _, HSep.push (hs.grow (by rw [s1]; omega) keep) hB ?_ ?_ ?_ ?_ ?_, ?_⟩
  · have := VRel.ptr (ρ := ρ ++ [g]) (i := m.length) (off := 0) (g := g) (by rw [← hs.len]; simp)
    exact this
  · rintro b (hb | hb)
    · rw [s1]; simp at hb; omega
    · exact hb.elim
  · intro b hb
    have := hs.nGle
    simp at hb; omega
  · intro i b hb
    simp at hb
    exact ⟨fun hw => by have := hs.lt i _ (.inl hw); omega, fun hw => by have := hs.lt i _ (.inr hw); omega⟩
  · intro i b hb; exact hb.elim
  · intro b _ hb; exact hb
  · intro i b hb
    simp only [addS] at hb
    split at hb
    · simp at hb; exact .inr (by omega)
    · exact .inl (hf i b hb)
end Go.R1
