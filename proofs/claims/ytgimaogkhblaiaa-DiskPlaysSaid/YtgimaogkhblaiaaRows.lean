/-
  No cell of these rows narrows 'for every input' (looked for: loops, veiled, ifaces, maps, wideKeys, modest, calm, conditions, laid).
  DERIVED. THE GIVEN ROWS OF THIS SEAT. 10 by the template 'for every input the law returns true; each argument reads behind the call as it read before'; 0 by the template 'total and deterministic' (their statements: YtgimaogkhblaiaaTotals.lean).
  GIVEN WITH THE SEED: the statements are not yours to turn. If you find one false, say at which input.
  Laid BY PROGRAM, IN A SANDBOX (cutbox-rows.mjs): the forced cells as the released guide's own fill.sh prints them over the translation 42fb57d2b195a579… (all of the seat's roots in one cut). By AI agents, Wed Nov 11 2026. No macro, syntax, notation, axiom, sorry.
-/
import Derived.Test.YtgimaogkhblaiaaChecked
import GoSem.Claim
import GoSem.ClaimJoined
import GoSem.ClaimMapViews
import Derived.JoinedTies
import Derived.KernelRfl
namespace Go.Proofs.Ytgimaogkhblaiaa
/- THE CELL 'sum', in the pinned program and in every row, IS THE sha256 OF THE DUMP (.gsa) THAT YtgimaogkhblaiaaProg.lean LOADS. Nothing in Lean hashes anything: it is a label: what it is worth is what the hold of that sum in a sandbox is worth. -/
noncomputable def Try.pinned : Pinned := { name := "ytgimaogkhblaiaa", sum := "42fb57d2b195a579a651b4af903d135cf4b2ac064ceafe196c9fc4dbbadc8b2c", checked := Try.checked }
namespace Rows
def none {H : Type} : Left H := { results := [], args := [] }

/-- 'kinfolklaw11.DiskTorn': WHATEVER THE INPUT: true; the input reads as it did. -/
def diskTornSpec : ChangeSpec := { name := "diskTorn", fn := fun _ => fun
  | [d1, d2, d3] => { results := [.lit (.bool true)], args := [d1, d2, d3] }
  | _ => none }
def diskTornRow : OpenClaim := { program := "ytgimaogkhblaiaa", sum := "42fb57d2b195a579a651b4af903d135cf4b2ac064ceafe196c9fc4dbbadc8b2c", func := "kinfolk/kinfolklaw11.DiskTorn", spec := "diskTorn", unfollowed := true, recurses := true, apart := false }
def DiskTornSaid : Prop := diskTornRow.holds Try.pinned (OpenSpec.ofChange diskTornSpec)

/-- ITS FALSE NEIGHBOUR: 'it returns false'. Refute it at one input. -/
def diskTornWrong : ChangeSpec := { name := "diskTorn", fn := fun _ => fun
  | [d1, d2, d3] => { results := [.lit (.bool false)], args := [d1, d2, d3] }
  | _ => none }
def DiskTornWrongFalsely : Prop := diskTornRow.holds Try.pinned (OpenSpec.ofChange diskTornWrong)

/-- 'kinfolklaw11.DiskRoom': WHATEVER THE INPUT: true; the input reads as it did. -/
def diskRoomSpec : ChangeSpec := { name := "diskRoom", fn := fun _ => fun
  | [d1, d2] => { results := [.lit (.bool true)], args := [d1, d2] }
  | _ => none }
def diskRoomRow : OpenClaim := { program := "ytgimaogkhblaiaa", sum := "42fb57d2b195a579a651b4af903d135cf4b2ac064ceafe196c9fc4dbbadc8b2c", func := "kinfolk/kinfolklaw11.DiskRoom", spec := "diskRoom", unfollowed := true, recurses := true, apart := false }
def DiskRoomSaid : Prop := diskRoomRow.holds Try.pinned (OpenSpec.ofChange diskRoomSpec)

/-- ITS FALSE NEIGHBOUR: 'it returns false'. Refute it at one input. -/
def diskRoomWrong : ChangeSpec := { name := "diskRoom", fn := fun _ => fun
  | [d1, d2] => { results := [.lit (.bool false)], args := [d1, d2] }
  | _ => none }
def DiskRoomWrongFalsely : Prop := diskRoomRow.holds Try.pinned (OpenSpec.ofChange diskRoomWrong)

/-- 'kinfolklaw11.DiskPlays': WHATEVER THE INPUT: true; the input reads as it did. -/
def diskPlaysSpec : ChangeSpec := { name := "diskPlays", fn := fun _ => fun
  | [d1, d2] => { results := [.lit (.bool true)], args := [d1, d2] }
  | _ => none }
def diskPlaysRow : OpenClaim := { program := "ytgimaogkhblaiaa", sum := "42fb57d2b195a579a651b4af903d135cf4b2ac064ceafe196c9fc4dbbadc8b2c", func := "kinfolk/kinfolklaw11.DiskPlays", spec := "diskPlays", unfollowed := true, recurses := true, apart := false }
def DiskPlaysSaid : Prop := diskPlaysRow.holds Try.pinned (OpenSpec.ofChange diskPlaysSpec)

/-- ITS FALSE NEIGHBOUR: 'it returns false'. Refute it at one input. -/
def diskPlaysWrong : ChangeSpec := { name := "diskPlays", fn := fun _ => fun
  | [d1, d2] => { results := [.lit (.bool false)], args := [d1, d2] }
  | _ => none }
def DiskPlaysWrongFalsely : Prop := diskPlaysRow.holds Try.pinned (OpenSpec.ofChange diskPlaysWrong)

/-- 'kinfolklaw11.DiskApart': WHATEVER THE INPUT: true; the input reads as it did. -/
def diskApartSpec : ChangeSpec := { name := "diskApart", fn := fun _ => fun
  | [d1, d2] => { results := [.lit (.bool true)], args := [d1, d2] }
  | _ => none }
def diskApartRow : OpenClaim := { program := "ytgimaogkhblaiaa", sum := "42fb57d2b195a579a651b4af903d135cf4b2ac064ceafe196c9fc4dbbadc8b2c", func := "kinfolk/kinfolklaw11.DiskApart", spec := "diskApart", inPlace := ["maps.clone"], unfollowed := true, recurses := true, apart := false }
def DiskApartSaid : Prop := diskApartRow.holds Try.pinned (OpenSpec.ofChange diskApartSpec)

/-- ITS FALSE NEIGHBOUR: 'it returns false'. Refute it at one input. -/
def diskApartWrong : ChangeSpec := { name := "diskApart", fn := fun _ => fun
  | [d1, d2] => { results := [.lit (.bool false)], args := [d1, d2] }
  | _ => none }
def DiskApartWrongFalsely : Prop := diskApartRow.holds Try.pinned (OpenSpec.ofChange diskApartWrong)

/-- 'kinfolklaw11.DiskNil': WHATEVER THE INPUT: true; the input reads as it did. -/
def diskNilSpec : ChangeSpec := { name := "diskNil", fn := fun _ => fun
  | [d1, d2, d3, d4] => { results := [.lit (.bool true)], args := [d1, d2, d3, d4] }
  | _ => none }
def diskNilRow : OpenClaim := { program := "ytgimaogkhblaiaa", sum := "42fb57d2b195a579a651b4af903d135cf4b2ac064ceafe196c9fc4dbbadc8b2c", func := "kinfolk/kinfolklaw11.DiskNil", spec := "diskNil", inPlace := ["maps.clone"], unfollowed := true, recurses := true, apart := false }
def DiskNilSaid : Prop := diskNilRow.holds Try.pinned (OpenSpec.ofChange diskNilSpec)

/-- ITS FALSE NEIGHBOUR: 'it returns false'. Refute it at one input. -/
def diskNilWrong : ChangeSpec := { name := "diskNil", fn := fun _ => fun
  | [d1, d2, d3, d4] => { results := [.lit (.bool false)], args := [d1, d2, d3, d4] }
  | _ => none }
def DiskNilWrongFalsely : Prop := diskNilRow.holds Try.pinned (OpenSpec.ofChange diskNilWrong)

/-- 'kinfolklaw12.LogRolls': WHATEVER THE INPUT: true; the input reads as it did. -/
def logRollsSpec : ChangeSpec := { name := "logRolls", fn := fun _ => fun
  | [d1, d2] => { results := [.lit (.bool true)], args := [d1, d2] }
  | _ => none }
def logRollsRow : OpenClaim := { program := "ytgimaogkhblaiaa", sum := "42fb57d2b195a579a651b4af903d135cf4b2ac064ceafe196c9fc4dbbadc8b2c", func := "kinfolk/kinfolklaw12.LogRolls", spec := "logRolls", unfollowed := true, recurses := true, apart := false }
def LogRollsSaid : Prop := logRollsRow.holds Try.pinned (OpenSpec.ofChange logRollsSpec)

/-- ITS FALSE NEIGHBOUR: 'it returns false'. Refute it at one input. -/
def logRollsWrong : ChangeSpec := { name := "logRolls", fn := fun _ => fun
  | [d1, d2] => { results := [.lit (.bool false)], args := [d1, d2] }
  | _ => none }
def LogRollsWrongFalsely : Prop := logRollsRow.holds Try.pinned (OpenSpec.ofChange logRollsWrong)

/-- 'kinfolklaw12.LogRaw': WHATEVER THE INPUT: true; the input reads as it did. -/
def logRawSpec : ChangeSpec := { name := "logRaw", fn := fun _ => fun
  | [d1, d2, d3] => { results := [.lit (.bool true)], args := [d1, d2, d3] }
  | _ => none }
def logRawRow : OpenClaim := { program := "ytgimaogkhblaiaa", sum := "42fb57d2b195a579a651b4af903d135cf4b2ac064ceafe196c9fc4dbbadc8b2c", func := "kinfolk/kinfolklaw12.LogRaw", spec := "logRaw", unfollowed := true, recurses := true, apart := false }
def LogRawSaid : Prop := logRawRow.holds Try.pinned (OpenSpec.ofChange logRawSpec)

/-- ITS FALSE NEIGHBOUR: 'it returns false'. Refute it at one input. -/
def logRawWrong : ChangeSpec := { name := "logRaw", fn := fun _ => fun
  | [d1, d2, d3] => { results := [.lit (.bool false)], args := [d1, d2, d3] }
  | _ => none }
def LogRawWrongFalsely : Prop := logRawRow.holds Try.pinned (OpenSpec.ofChange logRawWrong)

/-- 'kinfolklaw12.LogNil': WHATEVER THE INPUT: true; the input reads as it did. -/
def logNilSpec : ChangeSpec := { name := "logNil", fn := fun _ => fun
  | [d1, d2] => { results := [.lit (.bool true)], args := [d1, d2] }
  | _ => none }
def logNilRow : OpenClaim := { program := "ytgimaogkhblaiaa", sum := "42fb57d2b195a579a651b4af903d135cf4b2ac064ceafe196c9fc4dbbadc8b2c", func := "kinfolk/kinfolklaw12.LogNil", spec := "logNil", unfollowed := true, recurses := true, apart := false }
def LogNilSaid : Prop := logNilRow.holds Try.pinned (OpenSpec.ofChange logNilSpec)

/-- ITS FALSE NEIGHBOUR: 'it returns false'. Refute it at one input. -/
def logNilWrong : ChangeSpec := { name := "logNil", fn := fun _ => fun
  | [d1, d2] => { results := [.lit (.bool false)], args := [d1, d2] }
  | _ => none }
def LogNilWrongFalsely : Prop := logNilRow.holds Try.pinned (OpenSpec.ofChange logNilWrong)

/-- 'kinfolklaw12.LogPlays': WHATEVER THE INPUT: true; the input reads as it did. -/
def logPlaysSpec : ChangeSpec := { name := "logPlays", fn := fun _ => fun
  | [d1, d2, d3] => { results := [.lit (.bool true)], args := [d1, d2, d3] }
  | _ => none }
def logPlaysRow : OpenClaim := { program := "ytgimaogkhblaiaa", sum := "42fb57d2b195a579a651b4af903d135cf4b2ac064ceafe196c9fc4dbbadc8b2c", func := "kinfolk/kinfolklaw12.LogPlays", spec := "logPlays", unfollowed := true, recurses := true, apart := false }
def LogPlaysSaid : Prop := logPlaysRow.holds Try.pinned (OpenSpec.ofChange logPlaysSpec)

/-- ITS FALSE NEIGHBOUR: 'it returns false'. Refute it at one input. -/
def logPlaysWrong : ChangeSpec := { name := "logPlays", fn := fun _ => fun
  | [d1, d2, d3] => { results := [.lit (.bool false)], args := [d1, d2, d3] }
  | _ => none }
def LogPlaysWrongFalsely : Prop := logPlaysRow.holds Try.pinned (OpenSpec.ofChange logPlaysWrong)

/-- 'kinfolklaw12.LogHolds': WHATEVER THE INPUT: true; the input reads as it did. -/
def logHoldsSpec : ChangeSpec := { name := "logHolds", fn := fun _ => fun
  | [d1, d2, d3, d4, d5] => { results := [.lit (.bool true)], args := [d1, d2, d3, d4, d5] }
  | _ => none }
def logHoldsRow : OpenClaim := { program := "ytgimaogkhblaiaa", sum := "42fb57d2b195a579a651b4af903d135cf4b2ac064ceafe196c9fc4dbbadc8b2c", func := "kinfolk/kinfolklaw12.LogHolds", spec := "logHolds", unfollowed := true, recurses := true, apart := false }
def LogHoldsSaid : Prop := logHoldsRow.holds Try.pinned (OpenSpec.ofChange logHoldsSpec)

/-- ITS FALSE NEIGHBOUR: 'it returns false'. Refute it at one input. -/
def logHoldsWrong : ChangeSpec := { name := "logHolds", fn := fun _ => fun
  | [d1, d2, d3, d4, d5] => { results := [.lit (.bool false)], args := [d1, d2, d3, d4, d5] }
  | _ => none }
def LogHoldsWrongFalsely : Prop := logHoldsRow.holds Try.pinned (OpenSpec.ofChange logHoldsWrong)

/- THE SECOND FORM. 'bulk': how many values and letters a reading holds, each counted each time it is reached (what is shared counts as often as it is met; a slice's spare places count too). A statement '..UptoSaid' is the law's where the arguments, and the package variables that the reading takes, are together of bulk at most 1048576: NARROWER than '..Said'. Prove '..Said' where nothing that the law and all that it calls make is longer than what came in: it says more and counts as full. Else prove '..UptoSaid'. A law counts once. -/
mutual
def uptoBulk {H : Type} : DataW H → Nat
  | .lit (.string bytes) => bytes.length + 1
  | .lit _ => 1
  | .nil => 1
  | .ptr d => uptoBulk d + 1
  | .slice elems spare => uptoBulkAll elems + uptoBulkAll spare + 1
  | .agg parts => uptoBulkAll parts + 1
  | .iface _ d => uptoBulk d + 1
  | .map entries => uptoBulkEntries entries + 1
  | .held _ => 1
def uptoBulkAll {H : Type} : List (DataW H) → Nat
  | [] => 0
  | d :: r => uptoBulk d + uptoBulkAll r
def uptoBulkEntries {H : Type} : List (Lit × DataW H) → Nat
  | [] => 0
  | x :: r => uptoBulkEntry x + uptoBulkEntries r
def uptoBulkEntry {H : Type} : Lit × DataW H → Nat
  | (.string bytes, d) => bytes.length + uptoBulk d + 1
  | (_, d) => uptoBulk d + 1
 end
def uptoSmall : (H : Type) → List (DataW H) → Bool := fun _ ds => decide (uptoBulkAll ds ≤ 1048576)
def OpenSpec.upto (s : _root_.Go.ChangeSpec) : _root_.Go.OpenSpec := { _root_.Go.OpenSpec.ofChange s with cond := some uptoSmall }

/-- 'kinfolklaw11.DiskTorn', WHERE WHAT IT READS IS OF BULK AT MOST 1048576: true; the input reads as it did. -/
def diskTornUptoRow : OpenClaim := { program := "ytgimaogkhblaiaa", sum := "42fb57d2b195a579a651b4af903d135cf4b2ac064ceafe196c9fc4dbbadc8b2c", func := "kinfolk/kinfolklaw11.DiskTorn", spec := "diskTorn", unfollowed := true, recurses := true, apart := false, narrowed := true }
def DiskTornUptoSaid : Prop := diskTornUptoRow.holds Try.pinned (OpenSpec.upto diskTornSpec)

/-- 'kinfolklaw11.DiskRoom', WHERE WHAT IT READS IS OF BULK AT MOST 1048576: true; the input reads as it did. -/
def diskRoomUptoRow : OpenClaim := { program := "ytgimaogkhblaiaa", sum := "42fb57d2b195a579a651b4af903d135cf4b2ac064ceafe196c9fc4dbbadc8b2c", func := "kinfolk/kinfolklaw11.DiskRoom", spec := "diskRoom", unfollowed := true, recurses := true, apart := false, narrowed := true }
def DiskRoomUptoSaid : Prop := diskRoomUptoRow.holds Try.pinned (OpenSpec.upto diskRoomSpec)

/-- 'kinfolklaw11.DiskPlays', WHERE WHAT IT READS IS OF BULK AT MOST 1048576: true; the input reads as it did. -/
def diskPlaysUptoRow : OpenClaim := { program := "ytgimaogkhblaiaa", sum := "42fb57d2b195a579a651b4af903d135cf4b2ac064ceafe196c9fc4dbbadc8b2c", func := "kinfolk/kinfolklaw11.DiskPlays", spec := "diskPlays", unfollowed := true, recurses := true, apart := false, narrowed := true }
def DiskPlaysUptoSaid : Prop := diskPlaysUptoRow.holds Try.pinned (OpenSpec.upto diskPlaysSpec)

/-- 'kinfolklaw11.DiskApart', WHERE WHAT IT READS IS OF BULK AT MOST 1048576: true; the input reads as it did. -/
def diskApartUptoRow : OpenClaim := { program := "ytgimaogkhblaiaa", sum := "42fb57d2b195a579a651b4af903d135cf4b2ac064ceafe196c9fc4dbbadc8b2c", func := "kinfolk/kinfolklaw11.DiskApart", spec := "diskApart", inPlace := ["maps.clone"], unfollowed := true, recurses := true, apart := false, narrowed := true }
def DiskApartUptoSaid : Prop := diskApartUptoRow.holds Try.pinned (OpenSpec.upto diskApartSpec)

/-- 'kinfolklaw11.DiskNil', WHERE WHAT IT READS IS OF BULK AT MOST 1048576: true; the input reads as it did. -/
def diskNilUptoRow : OpenClaim := { program := "ytgimaogkhblaiaa", sum := "42fb57d2b195a579a651b4af903d135cf4b2ac064ceafe196c9fc4dbbadc8b2c", func := "kinfolk/kinfolklaw11.DiskNil", spec := "diskNil", inPlace := ["maps.clone"], unfollowed := true, recurses := true, apart := false, narrowed := true }
def DiskNilUptoSaid : Prop := diskNilUptoRow.holds Try.pinned (OpenSpec.upto diskNilSpec)

/-- 'kinfolklaw12.LogRolls', WHERE WHAT IT READS IS OF BULK AT MOST 1048576: true; the input reads as it did. -/
def logRollsUptoRow : OpenClaim := { program := "ytgimaogkhblaiaa", sum := "42fb57d2b195a579a651b4af903d135cf4b2ac064ceafe196c9fc4dbbadc8b2c", func := "kinfolk/kinfolklaw12.LogRolls", spec := "logRolls", unfollowed := true, recurses := true, apart := false, narrowed := true }
def LogRollsUptoSaid : Prop := logRollsUptoRow.holds Try.pinned (OpenSpec.upto logRollsSpec)

/-- 'kinfolklaw12.LogRaw', WHERE WHAT IT READS IS OF BULK AT MOST 1048576: true; the input reads as it did. -/
def logRawUptoRow : OpenClaim := { program := "ytgimaogkhblaiaa", sum := "42fb57d2b195a579a651b4af903d135cf4b2ac064ceafe196c9fc4dbbadc8b2c", func := "kinfolk/kinfolklaw12.LogRaw", spec := "logRaw", unfollowed := true, recurses := true, apart := false, narrowed := true }
def LogRawUptoSaid : Prop := logRawUptoRow.holds Try.pinned (OpenSpec.upto logRawSpec)

/-- 'kinfolklaw12.LogNil', WHERE WHAT IT READS IS OF BULK AT MOST 1048576: true; the input reads as it did. -/
def logNilUptoRow : OpenClaim := { program := "ytgimaogkhblaiaa", sum := "42fb57d2b195a579a651b4af903d135cf4b2ac064ceafe196c9fc4dbbadc8b2c", func := "kinfolk/kinfolklaw12.LogNil", spec := "logNil", unfollowed := true, recurses := true, apart := false, narrowed := true }
def LogNilUptoSaid : Prop := logNilUptoRow.holds Try.pinned (OpenSpec.upto logNilSpec)

/-- 'kinfolklaw12.LogPlays', WHERE WHAT IT READS IS OF BULK AT MOST 1048576: true; the input reads as it did. -/
def logPlaysUptoRow : OpenClaim := { program := "ytgimaogkhblaiaa", sum := "42fb57d2b195a579a651b4af903d135cf4b2ac064ceafe196c9fc4dbbadc8b2c", func := "kinfolk/kinfolklaw12.LogPlays", spec := "logPlays", unfollowed := true, recurses := true, apart := false, narrowed := true }
def LogPlaysUptoSaid : Prop := logPlaysUptoRow.holds Try.pinned (OpenSpec.upto logPlaysSpec)

/-- 'kinfolklaw12.LogHolds', WHERE WHAT IT READS IS OF BULK AT MOST 1048576: true; the input reads as it did. -/
def logHoldsUptoRow : OpenClaim := { program := "ytgimaogkhblaiaa", sum := "42fb57d2b195a579a651b4af903d135cf4b2ac064ceafe196c9fc4dbbadc8b2c", func := "kinfolk/kinfolklaw12.LogHolds", spec := "logHolds", unfollowed := true, recurses := true, apart := false, narrowed := true }
def LogHoldsUptoSaid : Prop := logHoldsUptoRow.holds Try.pinned (OpenSpec.upto logHoldsSpec)

end Rows
end Go.Proofs.Ytgimaogkhblaiaa
