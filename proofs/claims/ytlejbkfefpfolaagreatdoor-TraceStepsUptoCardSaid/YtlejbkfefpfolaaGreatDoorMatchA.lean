/- Places in a text: one alone; joined. Is a byte in a set? -/
import Derived.Test.YtlejbkfefpfolaaGreatDoorNormF
import Derived.Test.YtlejbkfefpfolaaGreatDoorMath
set_option linter.unusedVariables false
set_option linter.unusedSimpArgs false
set_option linter.unusedSectionVars false
set_option maxRecDepth 100000
namespace Go.Proofs.YtlejbkfefpfolaaGreatDoor.W
open Go Go.Proofs Go.Proofs.YtlejbkfefpfolaaGreatDoor.AWP
attribute [local irreducible] xl hide aop aops aopQ qops guardP condP
theorem setHas (ws : List Int) (hw : W64 ws) (b : UInt8) : AP Tryz.prog 51 [Ws ws, .y b] (.b (hasB ws b.toNat)) := by
 refine AC.lbody hT hm Tryz.func51 f51_nm f51_lc f51_res f51_nt ?_
 have hb4 := lt4 b
 have hg : ((ws.map wD).drop (b.toNat / 64))[0]? = some (wD (ws.getD (b.toNat / 64) 0)) := by
  rw [List.getElem?_drop, Nat.add_zero]
  exact wD_get (by rw [hw.len]; exact hb4)
 simp only [go_sem, Int.reduceEq, Int.reduceLE, Int.reduceLT, Int.reduceToNat, q64, r64, hb4, hg, wD_eq]
 exact Fin.v (by rw [has_bit hw])
end Go.Proofs.YtlejbkfefpfolaaGreatDoor.W
