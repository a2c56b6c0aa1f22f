/-
  The calls whose answers are fixed: they are as fixed.
-/
import Derived.Test.YtjofkjbpiaihbaaDoorR1Fm
set_option maxRecDepth 1000000
namespace Go.R1
open Go Go.AEv Go.Proofs

noncomputable def L11 : Lib Ob := ⟨L10.Γ, L10.μ, (Lib.std Ob ctx.P).hook⟩
theorem L11_sound : LibSound ctx L11 := ⟨L10_sound.Γ, Lib.std_sound.hook, Lib.std_sound.congr, L10_sound.μ⟩
theorem fixed_eval (K Kp : AV → List (Blk Ob) → Prop) :
    aFun ctx.P L11 none ctx.scp Tryd.f4 400 0 [] [] K Kp = K (.s (.b true)) [] := by kernel_rfl
end Go.R1
