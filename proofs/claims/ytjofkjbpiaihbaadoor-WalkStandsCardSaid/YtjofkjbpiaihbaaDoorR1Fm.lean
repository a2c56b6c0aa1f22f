/-
  The functions that are looked into where they are called; the calls whose answers are fixed.
-/
import Derived.Test.YtjofkjbpiaihbaaDoorR1Fl
set_option maxRecDepth 100000
namespace Go.R1
open Go Go.AEv Go.Proofs

/-- A function that is looked into where it is called. -/
noncomputable abbrev inl (L : Lib Ob) (fn : Func) : FSpec Ob := aFun ctx.P L none ctx.scp fn 400 20
noncomputable def L7 : Lib Ob := (((((L6.add 17 sLay).add 16 (inl L6 Tryd.f16)).add 18 (inl L6 Tryd.f18)).add 19 (inl L6 Tryd.f19)).add 20 (inl L6 Tryd.f20)).add 28 (inl L6 Tryd.f28)
theorem L7_sound : LibSound ctx L7 :=
  (((((L6_sound.add lay_sound).add (aFun_sound L6_sound (noLoops ctx) mix Tryd.func16 Tryd.call16 400 20)).add (aFun_sound L6_sound (noLoops ctx) mix Tryd.func18 Tryd.call18 400 20)).add (aFun_sound L6_sound (noLoops ctx) mix Tryd.func19 Tryd.call19 400 20)).add
    (aFun_sound L6_sound (noLoops ctx) mix Tryd.func20 Tryd.call20 400 20)).add (aFun_sound L6_sound (noLoops ctx) mix Tryd.func28 Tryd.call28 400 20)
noncomputable def L8 : Lib Ob := ((((((L7.add 5 (inl L7 Tryd.f5)).add 9 (inl L7 Tryd.f9)).add 11 (inl L7 Tryd.f11)).add 12 (inl L7 Tryd.f12)).add 29 (inl L7 Tryd.f29)).add 30 (inl L7 Tryd.f30))
theorem L8_sound : LibSound ctx L8 :=
  ((((((L7_sound.add (aFun_sound L7_sound (noLoops ctx) mix Tryd.func5 Tryd.call5 400 20)).add (aFun_sound L7_sound (noLoops ctx) mix Tryd.func9 Tryd.call9 400 20)).add (aFun_sound L7_sound (noLoops ctx) mix Tryd.func11 Tryd.call11 400 20)).add
    (aFun_sound L7_sound (noLoops ctx) mix Tryd.func12 Tryd.call12 400 20)).add (aFun_sound L7_sound (noLoops ctx) mix Tryd.func29 Tryd.call29 400 20)).add (aFun_sound L7_sound (noLoops ctx) mix Tryd.func30 Tryd.call30 400 20))
noncomputable def L9 : Lib Ob := (L8.add 14 (inl L8 Tryd.f14))
theorem L9_sound : LibSound ctx L9 := (L8_sound.add (aFun_sound L8_sound (noLoops ctx) mix Tryd.func14 Tryd.call14 400 20))
noncomputable def L10 : Lib Ob := (L9.add 13 (inl L9 Tryd.f13))
theorem L10_sound : LibSound ctx L10 := (L9_sound.add (aFun_sound L9_sound (noLoops ctx) mix Tryd.func13 Tryd.call13 400 20))
end Go.R1
