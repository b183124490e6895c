/- What bytes.Compare answers, by value. -/
import Derived.Test.YteiikkpajcggfaaGreatDoorM1
import Derived.Lib.BytesEntry
set_option linter.unusedVariables false
set_option linter.unusedSimpArgs false
namespace Go.Proofs.YteiikkpajcggfaaGreatDoor
open Go.RowKit Go.Lib Go.Ev
end Go.Proofs.YteiikkpajcggfaaGreatDoor
