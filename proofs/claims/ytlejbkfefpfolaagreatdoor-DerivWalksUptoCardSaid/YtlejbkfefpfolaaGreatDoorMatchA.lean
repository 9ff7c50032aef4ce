/- Places in a text: one alone; joined. Is a byte in a set? -/
import Derived.Test.YtlejbkfefpfolaaGreatDoorNormF
import Derived.Test.YtlejbkfefpfolaaGreatDoorMath
set_option linter.unusedVariables false
set_option linter.unusedSimpArgs false
set_option linter.unusedSectionVars false
set_option maxRecDepth 100000
/- Places in a text: one alone; joined. Is a byte in a set? -/
namespace Go.Proofs.YtlejbkfefpfolaaGreatDoor.W
open Go Go.Proofs Go.Proofs.YtlejbkfefpfolaaGreatDoor.AWP
attribute [local irreducible] xl hide aop aops aopQ qops guardP condP
end Go.Proofs.YtlejbkfefpfolaaGreatDoor.W
