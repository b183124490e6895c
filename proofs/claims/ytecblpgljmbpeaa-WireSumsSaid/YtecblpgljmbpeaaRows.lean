/-
  No cell of these rows narrows 'for every input' (looked for: loops, veiled, ifaces, maps, wideKeys, modest, calm, conditions, laid).
  DERIVED. THE GIVEN ROWS OF THIS SEAT. 6 by the template 'for every input the law returns true; each argument reads behind the call as it read before'; 0 by the template 'total and deterministic' (their statements: YtecblpgljmbpeaaTotals.lean).
  GIVEN WITH THE SEED: the statements are not yours to turn. If you find one false, say at which input.
  Laid BY PROGRAM, IN A SANDBOX (cutbox-rows.mjs): the forced cells as the released guide's own fill.sh prints them over the translation a2a32b5447f7a745… (all of the seat's roots in one cut). By AI agents, Wed Nov 11 2026. No macro, syntax, notation, axiom, sorry.
-/
import Derived.Test.YtecblpgljmbpeaaChecked
import GoSem.Claim
import GoSem.ClaimJoined
import GoSem.ClaimMapViews
import Derived.JoinedTies
import Derived.KernelRfl
namespace Go.Proofs.Ytecblpgljmbpeaa
/- THE CELL 'sum', in the pinned program and in every row, IS THE sha256 OF THE DUMP (.gsa) THAT YtecblpgljmbpeaaProg.lean LOADS. Nothing in Lean hashes anything: it is a label: what it is worth is what the hold of that sum in a sandbox is worth. -/
noncomputable def Try.pinned : Pinned := { name := "ytecblpgljmbpeaa", sum := "a2a32b5447f7a74575ab2ae490198cf113923527ab7fbb5533e94984b5f57ad7", checked := Try.checked }
namespace Rows
def none {H : Type} : Left H := { results := [], args := [] }

/-- 'kinfolklaw06.WireSums': WHATEVER THE INPUT: true; the input reads as it did. -/
def wireSumsSpec : ChangeSpec := { name := "wireSums", fn := fun _ => fun
  | [d1, d2, d3] => { results := [.lit (.bool true)], args := [d1, d2, d3] }
  | _ => none }
def wireSumsRow : OpenClaim := { program := "ytecblpgljmbpeaa", sum := "a2a32b5447f7a74575ab2ae490198cf113923527ab7fbb5533e94984b5f57ad7", func := "kinfolk/kinfolklaw06.WireSums", spec := "wireSums", apart := false }
def WireSumsSaid : Prop := wireSumsRow.holds Try.pinned (OpenSpec.ofChange wireSumsSpec)

/-- ITS FALSE NEIGHBOUR: 'it returns false'. Refute it at one input. -/
def wireSumsWrong : ChangeSpec := { name := "wireSums", fn := fun _ => fun
  | [d1, d2, d3] => { results := [.lit (.bool false)], args := [d1, d2, d3] }
  | _ => none }
def WireSumsWrongFalsely : Prop := wireSumsRow.holds Try.pinned (OpenSpec.ofChange wireSumsWrong)

/-- 'kinfolklaw06.WireOpens': WHATEVER THE INPUT: true; the input reads as it did. -/
def wireOpensSpec : ChangeSpec := { name := "wireOpens", fn := fun _ => fun
  | [d] => { results := [.lit (.bool true)], args := [d] }
  | _ => none }
def wireOpensRow : OpenClaim := { program := "ytecblpgljmbpeaa", sum := "a2a32b5447f7a74575ab2ae490198cf113923527ab7fbb5533e94984b5f57ad7", func := "kinfolk/kinfolklaw06.WireOpens", spec := "wireOpens", apart := false }
def WireOpensSaid : Prop := wireOpensRow.holds Try.pinned (OpenSpec.ofChange wireOpensSpec)

/-- ITS FALSE NEIGHBOUR: 'it returns false'. Refute it at one input. -/
def wireOpensWrong : ChangeSpec := { name := "wireOpens", fn := fun _ => fun
  | [d] => { results := [.lit (.bool false)], args := [d] }
  | _ => none }
def WireOpensWrongFalsely : Prop := wireOpensRow.holds Try.pinned (OpenSpec.ofChange wireOpensWrong)

/-- 'kinfolklaw06.WireFrames': WHATEVER THE INPUT: true; the input reads as it did. -/
def wireFramesSpec : ChangeSpec := { name := "wireFrames", fn := fun _ => fun
  | [d1, d2, d3, d4] => { results := [.lit (.bool true)], args := [d1, d2, d3, d4] }
  | _ => none }
def wireFramesRow : OpenClaim := { program := "ytecblpgljmbpeaa", sum := "a2a32b5447f7a74575ab2ae490198cf113923527ab7fbb5533e94984b5f57ad7", func := "kinfolk/kinfolklaw06.WireFrames", spec := "wireFrames", apart := false }
def WireFramesSaid : Prop := wireFramesRow.holds Try.pinned (OpenSpec.ofChange wireFramesSpec)

/-- ITS FALSE NEIGHBOUR: 'it returns false'. Refute it at one input. -/
def wireFramesWrong : ChangeSpec := { name := "wireFrames", fn := fun _ => fun
  | [d1, d2, d3, d4] => { results := [.lit (.bool false)], args := [d1, d2, d3, d4] }
  | _ => none }
def WireFramesWrongFalsely : Prop := wireFramesRow.holds Try.pinned (OpenSpec.ofChange wireFramesWrong)

/-- 'kinfolklaw06.WireRows': WHATEVER THE INPUT: true; the input reads as it did. -/
def wireRowsSpec : ChangeSpec := { name := "wireRows", fn := fun _ => fun
  | [d] => { results := [.lit (.bool true)], args := [d] }
  | _ => none }
def wireRowsRow : OpenClaim := { program := "ytecblpgljmbpeaa", sum := "a2a32b5447f7a74575ab2ae490198cf113923527ab7fbb5533e94984b5f57ad7", func := "kinfolk/kinfolklaw06.WireRows", spec := "wireRows", apart := false }
def WireRowsSaid : Prop := wireRowsRow.holds Try.pinned (OpenSpec.ofChange wireRowsSpec)

/-- ITS FALSE NEIGHBOUR: 'it returns false'. Refute it at one input. -/
def wireRowsWrong : ChangeSpec := { name := "wireRows", fn := fun _ => fun
  | [d] => { results := [.lit (.bool false)], args := [d] }
  | _ => none }
def WireRowsWrongFalsely : Prop := wireRowsRow.holds Try.pinned (OpenSpec.ofChange wireRowsWrong)

/-- 'kinfolklaw06.WireReads': WHATEVER THE INPUT: true; the input reads as it did. -/
def wireReadsSpec : ChangeSpec := { name := "wireReads", fn := fun _ => fun
  | [d1, d2] => { results := [.lit (.bool true)], args := [d1, d2] }
  | _ => none }
def wireReadsRow : OpenClaim := { program := "ytecblpgljmbpeaa", sum := "a2a32b5447f7a74575ab2ae490198cf113923527ab7fbb5533e94984b5f57ad7", func := "kinfolk/kinfolklaw06.WireReads", spec := "wireReads", apart := false }
def WireReadsSaid : Prop := wireReadsRow.holds Try.pinned (OpenSpec.ofChange wireReadsSpec)

/-- ITS FALSE NEIGHBOUR: 'it returns false'. Refute it at one input. -/
def wireReadsWrong : ChangeSpec := { name := "wireReads", fn := fun _ => fun
  | [d1, d2] => { results := [.lit (.bool false)], args := [d1, d2] }
  | _ => none }
def WireReadsWrongFalsely : Prop := wireReadsRow.holds Try.pinned (OpenSpec.ofChange wireReadsWrong)

/-- 'kinfolklaw06.WireNums': WHATEVER THE INPUT: true; the input reads as it did. -/
def wireNumsSpec : ChangeSpec := { name := "wireNums", fn := fun _ => fun
  | [d1, d2, d3] => { results := [.lit (.bool true)], args := [d1, d2, d3] }
  | _ => none }
def wireNumsRow : OpenClaim := { program := "ytecblpgljmbpeaa", sum := "a2a32b5447f7a74575ab2ae490198cf113923527ab7fbb5533e94984b5f57ad7", func := "kinfolk/kinfolklaw06.WireNums", spec := "wireNums", recurses := true, apart := false }
def WireNumsSaid : Prop := wireNumsRow.holds Try.pinned (OpenSpec.ofChange wireNumsSpec)

/-- ITS FALSE NEIGHBOUR: 'it returns false'. Refute it at one input. -/
def wireNumsWrong : ChangeSpec := { name := "wireNums", fn := fun _ => fun
  | [d1, d2, d3] => { results := [.lit (.bool false)], args := [d1, d2, d3] }
  | _ => none }
def WireNumsWrongFalsely : Prop := wireNumsRow.holds Try.pinned (OpenSpec.ofChange wireNumsWrong)

/- THE SECOND FORM. 'bulk': how many values and letters a reading holds, each counted each time it is reached (what is shared counts as often as it is met; a slice's spare places count too). A statement '..UptoSaid' is the law's where the arguments, and the package variables that the reading takes, are together of bulk at most 1048576: NARROWER than '..Said'. Prove '..Said' where nothing that the law and all that it calls make is longer than what came in: it says more and counts as full. Else prove '..UptoSaid'. A law counts once. -/
mutual
def uptoBulk {H : Type} : DataW H → Nat
  | .lit (.string bytes) => bytes.length + 1
  | .lit _ => 1
  | .nil => 1
  | .ptr d => uptoBulk d + 1
  | .slice elems spare => uptoBulkAll elems + uptoBulkAll spare + 1
  | .agg parts => uptoBulkAll parts + 1
  | .iface _ d => uptoBulk d + 1
  | .map entries => uptoBulkEntries entries + 1
  | .held _ => 1
def uptoBulkAll {H : Type} : List (DataW H) → Nat
  | [] => 0
  | d :: r => uptoBulk d + uptoBulkAll r
def uptoBulkEntries {H : Type} : List (Lit × DataW H) → Nat
  | [] => 0
  | x :: r => uptoBulkEntry x + uptoBulkEntries r
def uptoBulkEntry {H : Type} : Lit × DataW H → Nat
  | (.string bytes, d) => bytes.length + uptoBulk d + 1
  | (_, d) => uptoBulk d + 1
 end
def uptoSmall : (H : Type) → List (DataW H) → Bool := fun _ ds => decide (uptoBulkAll ds ≤ 1048576)
def OpenSpec.upto (s : _root_.Go.ChangeSpec) : _root_.Go.OpenSpec := { _root_.Go.OpenSpec.ofChange s with cond := some uptoSmall }

/-- 'kinfolklaw06.WireSums', WHERE WHAT IT READS IS OF BULK AT MOST 1048576: true; the input reads as it did. -/
def wireSumsUptoRow : OpenClaim := { program := "ytecblpgljmbpeaa", sum := "a2a32b5447f7a74575ab2ae490198cf113923527ab7fbb5533e94984b5f57ad7", func := "kinfolk/kinfolklaw06.WireSums", spec := "wireSums", apart := false, narrowed := true }
def WireSumsUptoSaid : Prop := wireSumsUptoRow.holds Try.pinned (OpenSpec.upto wireSumsSpec)

/-- 'kinfolklaw06.WireOpens', WHERE WHAT IT READS IS OF BULK AT MOST 1048576: true; the input reads as it did. -/
def wireOpensUptoRow : OpenClaim := { program := "ytecblpgljmbpeaa", sum := "a2a32b5447f7a74575ab2ae490198cf113923527ab7fbb5533e94984b5f57ad7", func := "kinfolk/kinfolklaw06.WireOpens", spec := "wireOpens", apart := false, narrowed := true }
def WireOpensUptoSaid : Prop := wireOpensUptoRow.holds Try.pinned (OpenSpec.upto wireOpensSpec)

/-- 'kinfolklaw06.WireFrames', WHERE WHAT IT READS IS OF BULK AT MOST 1048576: true; the input reads as it did. -/
def wireFramesUptoRow : OpenClaim := { program := "ytecblpgljmbpeaa", sum := "a2a32b5447f7a74575ab2ae490198cf113923527ab7fbb5533e94984b5f57ad7", func := "kinfolk/kinfolklaw06.WireFrames", spec := "wireFrames", apart := false, narrowed := true }
def WireFramesUptoSaid : Prop := wireFramesUptoRow.holds Try.pinned (OpenSpec.upto wireFramesSpec)

/-- 'kinfolklaw06.WireRows', WHERE WHAT IT READS IS OF BULK AT MOST 1048576: true; the input reads as it did. -/
def wireRowsUptoRow : OpenClaim := { program := "ytecblpgljmbpeaa", sum := "a2a32b5447f7a74575ab2ae490198cf113923527ab7fbb5533e94984b5f57ad7", func := "kinfolk/kinfolklaw06.WireRows", spec := "wireRows", apart := false, narrowed := true }
def WireRowsUptoSaid : Prop := wireRowsUptoRow.holds Try.pinned (OpenSpec.upto wireRowsSpec)

/-- 'kinfolklaw06.WireReads', WHERE WHAT IT READS IS OF BULK AT MOST 1048576: true; the input reads as it did. -/
def wireReadsUptoRow : OpenClaim := { program := "ytecblpgljmbpeaa", sum := "a2a32b5447f7a74575ab2ae490198cf113923527ab7fbb5533e94984b5f57ad7", func := "kinfolk/kinfolklaw06.WireReads", spec := "wireReads", apart := false, narrowed := true }
def WireReadsUptoSaid : Prop := wireReadsUptoRow.holds Try.pinned (OpenSpec.upto wireReadsSpec)

/-- 'kinfolklaw06.WireNums', WHERE WHAT IT READS IS OF BULK AT MOST 1048576: true; the input reads as it did. -/
def wireNumsUptoRow : OpenClaim := { program := "ytecblpgljmbpeaa", sum := "a2a32b5447f7a74575ab2ae490198cf113923527ab7fbb5533e94984b5f57ad7", func := "kinfolk/kinfolklaw06.WireNums", spec := "wireNums", recurses := true, apart := false, narrowed := true }
def WireNumsUptoSaid : Prop := wireNumsUptoRow.holds Try.pinned (OpenSpec.upto wireNumsSpec)

end Rows
end Go.Proofs.Ytecblpgljmbpeaa
