/-
  The causes of faults, and which entries let accesses be made.
-/
import Derived.Test.YtjofkjbpiaihbaaDoorR1Fd
set_option maxRecDepth 100000
namespace Go.R1
open Go Go.AEv Go.Proofs

def causeT {β : Sort _} (K : BitVec 64 → β) (f w r : BitVec 64) (x : Int) : β :=
  match decide (x = 0) with
  | true => K f
  | false => (match decide (x = 2) with
    | true => (match decide (x = 2) with
      | true => K w
      | false => K r)
    | false => (match decide (x = 3) with
      | true => K w
      | false => K r))
def causeF (f w r : BitVec 64) (x : Int) : BitVec 64 := causeT id f w r x
theorem cause_comm {β : Sort _} (K : BitVec 64 → β) (f w r : BitVec 64) (x : Int) : causeT K f w r x = K (causeF f w r x) := by
  unfold causeF causeT
  repeat' split
  all_goals rfl
theorem fault_eval (x : Int) (K Kp : AV → List (Blk Ob) → Prop) :
    aFun ctx.P L0 none ctx.scp Tryd.f23 200 0 (List.map clos [.s (.i .i64 x)]) [] K Kp = causeT (fun v => K (.s (.u64 v)) []) 1#64 7#64 5#64 x := by kernel_rfl
theorem page_eval (x : Int) (K Kp : AV → List (Blk Ob) → Prop) :
    aFun ctx.P L0 none ctx.scp Tryd.f24 200 0 (List.map clos [.s (.i .i64 x)]) [] K Kp = causeT (fun v => K (.s (.u64 v)) []) 12#64 15#64 13#64 x := by kernel_rfl
def pageT {β : Sort _} (K : BitVec 64 → β) (x : Int) : β :=
  match decide (x = 0) with
  | true => K 12#64
  | false => (match (bif x == 2 then true else x == 3) with
    | true => K 15#64
    | false => K 13#64)
theorem page14_eval (x : Int) (K Kp : AV → List (Blk Ob) → Prop) :
    aFun ctx.P L0 none ctx.scp Tryd.f10 200 0 (List.map clos [.s (.i .i64 x)]) [] K Kp = pageT (fun v => K (.s (.u64 v)) []) x := by kernel_rfl
def pageF (x : Int) : BitVec 64 := causeF 12#64 15#64 13#64 x
def faultF (x : Int) : BitVec 64 := causeF 1#64 7#64 5#64 x
theorem page14_comm {β : Sort _} (K : BitVec 64 → β) (x : Int) : pageT K x = K (pageF x) := by
  unfold pageT pageF causeF causeT
  by_cases h0 : x = 0
  · simp [h0]
  · by_cases h2 : x = 2
    · simp [h2]
    · have e2 : (x == 2) = false := by simpa using h2
      by_cases h3 : x = 3
      · simp [h3]
      · have e3 : (x == 3) = false := by simpa using h3
        simp [h0, h2, h3, e2, e3]
def sCause (f : Int → BitVec 64) : FSpec Ob := fun args m K _ => match args with
  | [.s (.i .i64 x)] => K (.s (.u64 (f x))) m
  | _ => False
theorem fault_sound : FSound ctx 23 (sCause faultF) := by
  refine (aFun_sound L0_sound (noLoops ctx) mix Tryd.func23 Tryd.call23 200 0).closed fun args m K Kp h => ?_
  unfold sCause at h
  split at h
  · rw [fault_eval, cause_comm]; exact ⟨rfl, h⟩
  · exact h.elim
theorem page_sound : FSound ctx 24 (sCause pageF) := by
  refine (aFun_sound L0_sound (noLoops ctx) mix Tryd.func24 Tryd.call24 200 0).closed fun args m K Kp h => ?_
  unfold sCause at h
  split at h
  · rw [page_eval, cause_comm]; exact ⟨rfl, h⟩
  · exact h.elim
theorem page14_sound : FSound ctx 10 (sCause pageF) := by
  refine (aFun_sound L0_sound (noLoops ctx) mix Tryd.func10 Tryd.call10 200 0).closed fun args m K Kp h => ?_
  unfold sCause at h
  split at h
  · rw [page14_eval, page14_comm]; exact ⟨rfl, h⟩
  · exact h.elim

/-! ### Allows -/
def alEnd {β : Sort _} (K : Bool → β) (ok : Bool) (ms : BitVec 64) (mode kind : Int) (e : BitVec 64) : β :=
  match decide (mode = 1) with
  | true => K (bif (bif ok then (bif (e &&& 16#64) == 0#64 then true else (bif (ms &&& 262144#64) != 0#64 then kind != 0 else false)) else false) then (e &&& 64#64) != 0#64 else false)
  | false => K (bif (bif ok then (e &&& 16#64) != 0#64 else false) then (e &&& 64#64) != 0#64 else false)
def allowsT {β : Sort _} (K : Bool → β) (ms : BitVec 64) (mode kind : Int) (e : BitVec 64) : β :=
  match decide (kind = 0) with
  | true => alEnd K ((e &&& 8#64) != 0#64) ms mode kind e
  | false => (match decide (kind = 2) with
    | true => alEnd K (bif (e &&& 4#64) != 0#64 then (e &&& 128#64) != 0#64 else false) ms mode kind e
    | false => (match decide (kind = 3) with
      | true => alEnd K (bif (bif (e &&& 2#64) != 0#64 then (e &&& 4#64) != 0#64 else false) then (e &&& 128#64) != 0#64 else false) ms mode kind e
      | false => alEnd K (bif (e &&& 2#64) != 0#64 then true else (bif (e &&& 8#64) != 0#64 then (ms &&& 524288#64) != 0#64 else false)) ms mode kind e))
def allowsF (ms : BitVec 64) (mode kind : Int) (e : BitVec 64) : Bool := allowsT id ms mode kind e
theorem allows_comm {β : Sort _} (K : Bool → β) (ms : BitVec 64) (mode kind : Int) (e : BitVec 64) : allowsT K ms mode kind e = K (allowsF ms mode kind e) := by
  unfold allowsF allowsT alEnd
  repeat' split
  all_goals rfl
theorem allows_eval (mode kind : Int) (e ms : BitVec 64) (rest : List SV) (K Kp : AV → List (Blk Ob) → Prop) :
    aFun ctx.P L0 none ctx.scp Tryd.f8 200 1 [.ptr 0 0, .s (.i .i64 mode), .s (.i .i64 kind), .s (.u64 e)] [.ro (.u64 ms :: rest)] K Kp
    = allowsT (fun b => K (.s (.b b)) [.ro (.u64 ms :: rest)]) ms mode kind e := by kernel_rfl
/-! ### blocks of scalars, as they may be read -/
def roCells {X : Type} : Blk X → Option (List SV)
  | .flat c => some c
  | .ro c => some c
  | _ => none
def roAt {X : Type} (m : List (Blk X)) (i : Nat) : Option (List SV) :=
  match nth m i with
  | some b => roCells b
  | none => none
theorem roAt_rel {ρ : List Ghost} {m : List (Blk Ob)} {w : World} {W R : Nat → Nat → Prop} (h : HSep ctx ρ m w W R) {i : Nat} {c : List SV} (hi : roAt m i = some c) {g : Ghost} (hg : ρ[i]? = some g) (ρ0 : List Ghost) :
    ∃ R0, BRel ctx ρ0 g w (.ro c) (fun _ => False) R0 ∧ ∀ b, R0 b → b < w.heap.size := by
  unfold roAt at hi
  split at hi
  · rename_i blk hb
    rw [nth_eq] at hb
    have hB := h.blk i blk g hb hg
    cases blk with
    | flat c' =>
      simp only [roCells, Option.some.injEq] at hi; subst hi
      exact ro_of_flat hB (fun b hw => h.lt i b (.inl hw))
    | ro c' =>
      simp only [roCells, Option.some.injEq] at hi; subst hi
      exact ⟨R i, ⟨hB.1, fun _ h => h, hB.2.2⟩, fun b hr => h.lt i b (.inr hr)⟩
    | _ => simp [roCells] at hi
  · simp at hi
def sAllows : FSpec Ob := fun args m K _ => match args with
  | [.ptr i 0, .s (.i .i64 mode), .s (.i .i64 kind), .s (.u64 e)] => match roAt m i with
    | some (.u64 ms :: _) => K (.s (.b (allowsF ms mode kind e))) m
    | _ => False
  | _ => False
theorem allows_sound : FSound ctx 8 sAllows := by
  refine (aFun_sound L0_sound (noLoops ctx) mix Tryd.func8 Tryd.call8 200 1).pure fun args m K Kp h => ?_
  unfold sAllows at h
  split at h
  · rename_i i mode kind e
    split at h
    · rename_i ms rest hr
      refine ⟨[.ptr 0 0, .s (.i .i64 mode), .s (.i .i64 kind), .s (.u64 e)], [.ro (.u64 ms :: rest)], by rw [allows_eval, allows_comm]; exact ⟨rfl, h⟩, fun ρ w fp vs hv hH => ?_⟩
      obtain ⟨v1, us1, rfl, h1, hv1⟩ := vs1 hv
      obtain ⟨g, hg, rfl⟩ := inv_ptr h1
      have hH0 := hH
      obtain ⟨W, R, hs, hf⟩ := hH
      refine ⟨[g], ?_, ?_⟩
      · obtain ⟨v2, us2, rfl, h2, hv2⟩ := vs1 hv1
        obtain ⟨v3, us3, rfl, h3, hv3⟩ := vs1 hv2
        obtain ⟨v4, us4, rfl, h4, hv4⟩ := vs1 hv3
        obtain rfl := vs0 hv4
        exact .cons (.ptr rfl) (.cons (closed_rel h2 rfl) (.cons (closed_rel h3 rfl) (.cons (closed_rel h4 rfl) (.nil _))))
      · have := hH0.ros [(g, .ro (.u64 ms :: rest))] (fun p hp => by
          simp only [List.mem_singleton] at hp; subst hp
          exact roAt_rel hs hr hg _)
        exact this
    · exact h.elim
  · exact h.elim
end Go.R1
