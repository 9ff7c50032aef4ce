/- A law of one row: from its contract to what the row asks. -/
import Derived.Test.YtbpkppidbdhopaaRowBool
set_option linter.unusedSectionVars false
set_option linter.unusedVariables false
set_option linter.unusedSimpArgs false
/- A law of one row: from its contract to what the row asks. -/
namespace Go.Proofs.Ytbpkppidbdhopaa.AWP
open Go Go.ChangeShapes Go.WideShapes Go.ChangeAt Go.RowKit

theorem cells_of_slice {P : Program} {w : World} {r : Reach} {b : Nat} {t e : TypeId} {v : Value} (ht : P.underlying t = some (.slice e)) (h : Value.okWide P w r b t v) : v.cells = #[v] := by
  unfold Value.okWide at h
  rw [ht] at h
  unfold Cell.okWide at h
  rw [ht] at h
  unfold Cell.ok at h
  rw [ht] at h
  cases v <;> first | rfl | (simp at h)
end Go.Proofs.Ytbpkppidbdhopaa.AWP
