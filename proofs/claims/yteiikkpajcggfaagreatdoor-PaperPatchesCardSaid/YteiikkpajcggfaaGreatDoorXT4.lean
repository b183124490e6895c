/- Texts behind one another; cut texts. Plain. -/
import Derived.Test.YteiikkpajcggfaaGreatDoorXT3
set_option linter.unusedVariables false
set_option linter.unusedSimpArgs false
namespace Go.Proofs.YteiikkpajcggfaaGreatDoor
open Go.Ev Go.Lib
abbrev okB (v : Nat) : Prop := v ≥ 2048 ∧ (v < 55296 ∨ (57344 ≤ v ∧ v ≤ 1114111))
end Go.Proofs.YteiikkpajcggfaaGreatDoor
