/- First bytes; the document's example; whether any expressions are nullable, or one is void, is the document's. -/
import Derived.Test.YtlejbkfefpfolaaDoorWalkC
import Derived.Test.YtlejbkfefpfolaaDoorMath
set_option linter.unusedVariables false
set_option linter.unusedSimpArgs false
set_option linter.unusedSectionVars false
set_option maxRecDepth 100000
/- How many nodes, as far as some; which expressions are nullable, or void. -/
namespace Go.Proofs.YtlejbkfefpfolaaDoor.W
open Go Go.Proofs Go.Proofs.YtlejbkfefpfolaaDoor.AWP
attribute [local irreducible] xl hide aop aops aopQ qops guardP condP
def gAll (m : Int) (l : List Re) : Bool := decide (20 < l.length) || l.any fun x => decide (m < x.cnt m)
end Go.Proofs.YtlejbkfefpfolaaDoor.W
set_option maxRecDepth 100000
/- Whether expressions are nullable, or void: the program's and the document's. -/
namespace Go.Proofs.YtlejbkfefpfolaaDoor.W
open Go Go.Proofs Go.Proofs.YtlejbkfefpfolaaDoor.AWP
attribute [local irreducible] xl hide aop aops aopQ qops guardP condP
theorem mayB_ok {r : Re} (h : mayB r = true) : r.nodesOk = true := by
  unfold mayB at h
  rw [Bool.and_eq_true] at h
  exact h.1
def nulB (r : Re) : Bool := mayB r && r.nul
def voidB (r : Re) : Bool := mayB r && !r.fit
theorem resB (r : Re) : D.sl 6 [r.c] = Res [r] := by show _ = D.sl 6 (Re.cs [r]); rw [Re.cs_eq]; rfl
/-! ### First bytes -/
end Go.Proofs.YtlejbkfefpfolaaDoor.W
set_option maxRecDepth 100000
/- What may be: two cases. -/
namespace Go.Proofs.YtlejbkfefpfolaaDoor.W
open Go Go.Proofs Go.Proofs.YtlejbkfefpfolaaDoor.AWP
theorem mayCase (r : Re) : mayB r = false ∨ mayB r = true := by cases mayB r <;> simp
theorem mayZ {r : Re} (h : mayB r = true) : r.nodesOk = true ∧ r.sz ≤ 2000 := by
  unfold mayB at h
  simpa using h
theorem wdD_bl (x : Re × Nat × Nat) : Bl 0 (wdD x) := by
  refine .tup ?_
  simp
end Go.Proofs.YtlejbkfefpfolaaDoor.W
set_option maxRecDepth 100000
/- First bytes; the document's example; whether any expressions are nullable, or one is void, is the document's. -/
namespace Go.Proofs.YtlejbkfefpfolaaDoor.W
open Go Go.Proofs Go.Proofs.YtlejbkfefpfolaaDoor.AWP
attribute [local irreducible] xl hide aop aops aopQ qops guardP condP
/-- First bytes of one that may be, or none. -/
def firB (r : Re) : List Int := if mayB r then r.fst else noneS
def rAb : Re := .mk 4 0 0 0 0 [.mk 6 0 0 0 0 [reS (ofS [97])], reS (ofS [98])]
end Go.Proofs.YtlejbkfefpfolaaDoor.W
