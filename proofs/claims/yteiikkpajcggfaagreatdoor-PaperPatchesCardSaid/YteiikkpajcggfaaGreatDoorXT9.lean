/- Blanks, folded as the document folds; the third law. Plain. -/
import Derived.Test.YteiikkpajcggfaaGreatDoorXT5
set_option linter.unusedVariables false
set_option linter.unusedSimpArgs false
namespace Go.Proofs.YteiikkpajcggfaaGreatDoor
open Go.Ev Go.Lib
end Go.Proofs.YteiikkpajcggfaaGreatDoor
