/- What functions compute, and that they do. -/
import Derived.Test.YteiikkpajcggfaaGreatDoorA6
set_option linter.unusedVariables false
set_option linter.unusedSimpArgs false
set_option maxRecDepth 100000
namespace Go.Proofs.YteiikkpajcggfaaGreatDoor
open Go.Ev
end Go.Proofs.YteiikkpajcggfaaGreatDoor
