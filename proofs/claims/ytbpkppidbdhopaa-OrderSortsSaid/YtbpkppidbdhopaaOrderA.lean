/- Part of a program logic over data: rules of the walk, each proved. -/
import Derived.Test.YtbpkppidbdhopaaGen
import Derived.Test.YtbpkppidbdhopaaReData
set_option linter.unusedSectionVars false
set_option linter.unusedVariables false
set_option linter.unusedSimpArgs false
set_option maxRecDepth 100000
namespace Go.Proofs.Ytbpkppidbdhopaa.W
open Go Go.Proofs Go.Proofs.Ytbpkppidbdhopaa.AWP

theorem isNaN_u8 (x : Int) : AP Try.prog 32 [.v (.int .u8 x)] (.b false) := by
  refine AC.lbody hT hm Try.func32 f32_nm f32_lc f32_res f32_nt ?_
  simp only [go_sem]
  exact Fin.v rfl

theorem cmp_u8 (x y : Int) : AP Try.prog 23 [.v (.int .u8 x), .v (.int .u8 y)] (.i (cmpI x y)) := by
  refine AC.lbody hT hm Try.func23 f23_nm f23_lc f23_res f23_nt ?_
  simp only [go_sem]
  refine (isNaN_u8 x).pv ⟨.v, trivial⟩ ?_
  simp only [go_sem]
  refine (isNaN_u8 y).pv ⟨.v, trivial⟩ ?_
  simp only [go_sem, cmpI]
  by_cases h1 : x < y
  · simp only [go_sem, h1]
    exact Fin.v rfl
  · by_cases h2 : y < x
    · simp only [go_sem, h1, h2]
      exact Fin.v rfl
    · simp only [go_sem, h1, h2]
      exact Fin.v rfl
end Go.Proofs.Ytbpkppidbdhopaa.W
