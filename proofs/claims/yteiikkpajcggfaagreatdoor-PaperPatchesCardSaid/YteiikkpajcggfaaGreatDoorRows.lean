/-
  NARROWER THAN 'FOR EVERY INPUT', by the rows' own cells (each row's printed sentence says how): CardPatches: laid · CardMerges: laid · CardDiffs: laid · PaperReads: laid · PaperRows: laid · PaperCards: laid · PaperPatches: laid · PaperTotal: laid.
  DERIVED. THE GIVEN ROWS OF THIS SEAT. 8 by the template 'for every input the law returns true; each argument reads behind the call as it read before'; 0 by the template 'total and deterministic' (their statements: YteiikkpajcggfaaGreatDoorTotals.lean).
  GIVEN WITH THE SEED: the statements are not yours to turn. If you find one false, say at which input.
  Laid BY PROGRAM, IN A SANDBOX (cutbox-rows.mjs): the forced cells as the released guide's own fill.sh prints them over the translation 48cb6850aec81ef0… (all of the seat's roots in one cut). By AI agents, Wed Nov 11 2026. No macro, syntax, notation, axiom, sorry.
-/
import Derived.Test.YteiikkpajcggfaaGreatDoorChecked
import GoSem.PinnedTables
import GoSem.Claim
import GoSem.ClaimJoined
import GoSem.ClaimMapViews
import Derived.JoinedTies
import Derived.KernelRfl
namespace Go.Proofs.YteiikkpajcggfaaGreatDoor
/- THE CELL 'sum', in the pinned program and in every row, IS THE sha256 OF THE DUMP (.gsa) THAT YteiikkpajcggfaaGreatDoorProg.lean LOADS. Nothing in Lean hashes anything: it is a label: what it is worth is what the hold of that sum in a sandbox is worth. -/
noncomputable def Tryz.pinned : Pinned := { name := "yteiikkpajcggfaagreatdoor", sum := "48cb6850aec81ef03bc9aa628ac5dbeca54e5b8519122090a8b6632a3e6dadf1", checked := Tryz.checked }
namespace Rows
def none {H : Type} : Left H := { results := [], args := [] }

/- WHAT THE LISTED PACKAGE-LEVEL VARIABLES READ AS WHEN THE CALL BEGINS. Each datum BY PROGRAM (the guide's laid-datum.mjs) off the statement by which the dump's own 'gosem.cut.vars' lays the variable. In a bare row this is a premise. The card (YteiikkpajcggfaaGreatDoorCards.lean) ties it to the program's text. -/
def laid_unicode_utf8_acceptRanges {H : Type} : DataW H := .agg [.agg [.lit (.int .u8 128), .lit (.int .u8 191)], .agg [.lit (.int .u8 160), .lit (.int .u8 191)], .agg [.lit (.int .u8 128), .lit (.int .u8 159)], .agg [.lit (.int .u8 144), .lit (.int .u8 191)], .agg [.lit (.int .u8 128), .lit (.int .u8 143)], .agg [.lit (.int .u8 0), .lit (.int .u8 0)], .agg [.lit (.int .u8 0), .lit (.int .u8 0)], .agg [.lit (.int .u8 0), .lit (.int .u8 0)], .agg [.lit (.int .u8 0), .lit (.int .u8 0)], .agg [.lit (.int .u8 0), .lit (.int .u8 0)], .agg [.lit (.int .u8 0), .lit (.int .u8 0)], .agg [.lit (.int .u8 0), .lit (.int .u8 0)], .agg [.lit (.int .u8 0), .lit (.int .u8 0)], .agg [.lit (.int .u8 0), .lit (.int .u8 0)], .agg [.lit (.int .u8 0), .lit (.int .u8 0)], .agg [.lit (.int .u8 0), .lit (.int .u8 0)]]
/-- One of Go's own tables, pinned by name: the form's constant. -/
def laid_unicode_utf8_first : DataW Unit := Go.Pinned.utf8First

/-- 'kinfolklaw09.CardPatches': WHATEVER THE INPUT: true; the input reads as it did. -/
def cardPatchesSpec : ChangeSpec := { name := "cardPatches", fn := fun _ => fun
  | [d1, d2, d3, d4] => { results := [.lit (.bool true)], args := [d1, d2, d3, d4] }
  | _ => none }
def cardPatchesRow : OpenClaim := { program := "yteiikkpajcggfaagreatdoor", sum := "48cb6850aec81ef03bc9aa628ac5dbeca54e5b8519122090a8b6632a3e6dadf1", func := "kinfolk/kinfolklaw09.CardPatches", spec := "cardPatches", inPlace := ["internal/bytealg.IndexByteString", "internal/bytealg.IndexString"], unfollowed := true, recurses := true, named := ["unicode/utf8.first", "unicode/utf8.acceptRanges", "internal/bytealg.MaxLen"], apart := false, laid := [("unicode/utf8.acceptRanges", laid_unicode_utf8_acceptRanges), ("unicode/utf8.first", laid_unicode_utf8_first)] }
def CardPatchesSaid : Prop := cardPatchesRow.holds Tryz.pinned (OpenSpec.ofChange cardPatchesSpec)

/-- ITS FALSE NEIGHBOUR: 'it returns false'. Refute it at one input. -/
def cardPatchesWrong : ChangeSpec := { name := "cardPatches", fn := fun _ => fun
  | [d1, d2, d3, d4] => { results := [.lit (.bool false)], args := [d1, d2, d3, d4] }
  | _ => none }
def CardPatchesWrongFalsely : Prop := cardPatchesRow.holds Tryz.pinned (OpenSpec.ofChange cardPatchesWrong)

/-- 'kinfolklaw09.CardMerges': WHATEVER THE INPUT: true; the input reads as it did. -/
def cardMergesSpec : ChangeSpec := { name := "cardMerges", fn := fun _ => fun
  | [d1, d2, d3] => { results := [.lit (.bool true)], args := [d1, d2, d3] }
  | _ => none }
def cardMergesRow : OpenClaim := { program := "yteiikkpajcggfaagreatdoor", sum := "48cb6850aec81ef03bc9aa628ac5dbeca54e5b8519122090a8b6632a3e6dadf1", func := "kinfolk/kinfolklaw09.CardMerges", spec := "cardMerges", inPlace := ["internal/bytealg.IndexByteString", "internal/bytealg.IndexString"], unfollowed := true, recurses := true, named := ["unicode/utf8.first", "unicode/utf8.acceptRanges", "internal/bytealg.MaxLen"], apart := false, laid := [("unicode/utf8.acceptRanges", laid_unicode_utf8_acceptRanges), ("unicode/utf8.first", laid_unicode_utf8_first)] }
def CardMergesSaid : Prop := cardMergesRow.holds Tryz.pinned (OpenSpec.ofChange cardMergesSpec)

/-- ITS FALSE NEIGHBOUR: 'it returns false'. Refute it at one input. -/
def cardMergesWrong : ChangeSpec := { name := "cardMerges", fn := fun _ => fun
  | [d1, d2, d3] => { results := [.lit (.bool false)], args := [d1, d2, d3] }
  | _ => none }
def CardMergesWrongFalsely : Prop := cardMergesRow.holds Tryz.pinned (OpenSpec.ofChange cardMergesWrong)

/-- 'kinfolklaw09.CardDiffs': WHATEVER THE INPUT: true; the input reads as it did. -/
def cardDiffsSpec : ChangeSpec := { name := "cardDiffs", fn := fun _ => fun
  | [d1, d2] => { results := [.lit (.bool true)], args := [d1, d2] }
  | _ => none }
def cardDiffsRow : OpenClaim := { program := "yteiikkpajcggfaagreatdoor", sum := "48cb6850aec81ef03bc9aa628ac5dbeca54e5b8519122090a8b6632a3e6dadf1", func := "kinfolk/kinfolklaw09.CardDiffs", spec := "cardDiffs", inPlace := ["internal/bytealg.IndexByteString", "internal/bytealg.IndexString"], unfollowed := true, recurses := true, named := ["unicode/utf8.first", "unicode/utf8.acceptRanges", "internal/bytealg.MaxLen"], apart := false, laid := [("unicode/utf8.acceptRanges", laid_unicode_utf8_acceptRanges), ("unicode/utf8.first", laid_unicode_utf8_first)] }
def CardDiffsSaid : Prop := cardDiffsRow.holds Tryz.pinned (OpenSpec.ofChange cardDiffsSpec)

/-- ITS FALSE NEIGHBOUR: 'it returns false'. Refute it at one input. -/
def cardDiffsWrong : ChangeSpec := { name := "cardDiffs", fn := fun _ => fun
  | [d1, d2] => { results := [.lit (.bool false)], args := [d1, d2] }
  | _ => none }
def CardDiffsWrongFalsely : Prop := cardDiffsRow.holds Tryz.pinned (OpenSpec.ofChange cardDiffsWrong)

/-- 'kinfolklaw10.PaperReads': WHATEVER THE INPUT: true; the input reads as it did. -/
def paperReadsSpec : ChangeSpec := { name := "paperReads", fn := fun _ => fun
  | [d] => { results := [.lit (.bool true)], args := [d] }
  | _ => none }
def paperReadsRow : OpenClaim := { program := "yteiikkpajcggfaagreatdoor", sum := "48cb6850aec81ef03bc9aa628ac5dbeca54e5b8519122090a8b6632a3e6dadf1", func := "kinfolk/kinfolklaw10.PaperReads", spec := "paperReads", inPlace := ["internal/bytealg.IndexByteString", "internal/bytealg.IndexString"], unfollowed := true, recurses := true, named := ["unicode/utf8.first", "unicode/utf8.acceptRanges", "internal/bytealg.MaxLen"], apart := false, laid := [("unicode/utf8.acceptRanges", laid_unicode_utf8_acceptRanges), ("unicode/utf8.first", laid_unicode_utf8_first)] }
def PaperReadsSaid : Prop := paperReadsRow.holds Tryz.pinned (OpenSpec.ofChange paperReadsSpec)

/-- ITS FALSE NEIGHBOUR: 'it returns false'. Refute it at one input. -/
def paperReadsWrong : ChangeSpec := { name := "paperReads", fn := fun _ => fun
  | [d] => { results := [.lit (.bool false)], args := [d] }
  | _ => none }
def PaperReadsWrongFalsely : Prop := paperReadsRow.holds Tryz.pinned (OpenSpec.ofChange paperReadsWrong)

/-- 'kinfolklaw10.PaperRows': WHATEVER THE INPUT: true; the input reads as it did. -/
def paperRowsSpec : ChangeSpec := { name := "paperRows", fn := fun _ => fun
  | [d1, d2] => { results := [.lit (.bool true)], args := [d1, d2] }
  | _ => none }
def paperRowsRow : OpenClaim := { program := "yteiikkpajcggfaagreatdoor", sum := "48cb6850aec81ef03bc9aa628ac5dbeca54e5b8519122090a8b6632a3e6dadf1", func := "kinfolk/kinfolklaw10.PaperRows", spec := "paperRows", inPlace := ["internal/bytealg.IndexByteString", "internal/bytealg.IndexString"], unfollowed := true, recurses := true, named := ["unicode/utf8.first", "unicode/utf8.acceptRanges", "internal/bytealg.MaxLen"], apart := false, laid := [("unicode/utf8.acceptRanges", laid_unicode_utf8_acceptRanges), ("unicode/utf8.first", laid_unicode_utf8_first)] }
def PaperRowsSaid : Prop := paperRowsRow.holds Tryz.pinned (OpenSpec.ofChange paperRowsSpec)

/-- ITS FALSE NEIGHBOUR: 'it returns false'. Refute it at one input. -/
def paperRowsWrong : ChangeSpec := { name := "paperRows", fn := fun _ => fun
  | [d1, d2] => { results := [.lit (.bool false)], args := [d1, d2] }
  | _ => none }
def PaperRowsWrongFalsely : Prop := paperRowsRow.holds Tryz.pinned (OpenSpec.ofChange paperRowsWrong)

/-- 'kinfolklaw10.PaperCards': WHATEVER THE INPUT: true; the input reads as it did. -/
def paperCardsSpec : ChangeSpec := { name := "paperCards", fn := fun _ => fun
  | [d1, d2, d3] => { results := [.lit (.bool true)], args := [d1, d2, d3] }
  | _ => none }
def paperCardsRow : OpenClaim := { program := "yteiikkpajcggfaagreatdoor", sum := "48cb6850aec81ef03bc9aa628ac5dbeca54e5b8519122090a8b6632a3e6dadf1", func := "kinfolk/kinfolklaw10.PaperCards", spec := "paperCards", inPlace := ["internal/bytealg.IndexByteString", "internal/bytealg.IndexString", "internal/bytealg.Compare"], unfollowed := true, recurses := true, named := ["unicode/utf8.first", "unicode/utf8.acceptRanges", "internal/bytealg.MaxLen"], apart := false, laid := [("unicode/utf8.acceptRanges", laid_unicode_utf8_acceptRanges), ("unicode/utf8.first", laid_unicode_utf8_first)] }
def PaperCardsSaid : Prop := paperCardsRow.holds Tryz.pinned (OpenSpec.ofChange paperCardsSpec)

/-- ITS FALSE NEIGHBOUR: 'it returns false'. Refute it at one input. -/
def paperCardsWrong : ChangeSpec := { name := "paperCards", fn := fun _ => fun
  | [d1, d2, d3] => { results := [.lit (.bool false)], args := [d1, d2, d3] }
  | _ => none }
def PaperCardsWrongFalsely : Prop := paperCardsRow.holds Tryz.pinned (OpenSpec.ofChange paperCardsWrong)

/-- 'kinfolklaw10.PaperPatches': WHATEVER THE INPUT: true; the input reads as it did. -/
def paperPatchesSpec : ChangeSpec := { name := "paperPatches", fn := fun _ => fun
  | [d1, d2, d3, d4] => { results := [.lit (.bool true)], args := [d1, d2, d3, d4] }
  | _ => none }
def paperPatchesRow : OpenClaim := { program := "yteiikkpajcggfaagreatdoor", sum := "48cb6850aec81ef03bc9aa628ac5dbeca54e5b8519122090a8b6632a3e6dadf1", func := "kinfolk/kinfolklaw10.PaperPatches", spec := "paperPatches", inPlace := ["internal/bytealg.IndexByteString", "internal/bytealg.IndexString"], unfollowed := true, recurses := true, named := ["unicode/utf8.first", "unicode/utf8.acceptRanges", "internal/bytealg.MaxLen"], apart := false, laid := [("unicode/utf8.acceptRanges", laid_unicode_utf8_acceptRanges), ("unicode/utf8.first", laid_unicode_utf8_first)] }
def PaperPatchesSaid : Prop := paperPatchesRow.holds Tryz.pinned (OpenSpec.ofChange paperPatchesSpec)

/-- ITS FALSE NEIGHBOUR: 'it returns false'. Refute it at one input. -/
def paperPatchesWrong : ChangeSpec := { name := "paperPatches", fn := fun _ => fun
  | [d1, d2, d3, d4] => { results := [.lit (.bool false)], args := [d1, d2, d3, d4] }
  | _ => none }
def PaperPatchesWrongFalsely : Prop := paperPatchesRow.holds Tryz.pinned (OpenSpec.ofChange paperPatchesWrong)

/-- 'kinfolklaw10.PaperTotal': WHATEVER THE INPUT: true; the input reads as it did. -/
def paperTotalSpec : ChangeSpec := { name := "paperTotal", fn := fun _ => fun
  | [d] => { results := [.lit (.bool true)], args := [d] }
  | _ => none }
def paperTotalRow : OpenClaim := { program := "yteiikkpajcggfaagreatdoor", sum := "48cb6850aec81ef03bc9aa628ac5dbeca54e5b8519122090a8b6632a3e6dadf1", func := "kinfolk/kinfolklaw10.PaperTotal", spec := "paperTotal", inPlace := ["internal/bytealg.IndexByteString", "internal/bytealg.IndexString"], unfollowed := true, recurses := true, named := ["unicode/utf8.first", "unicode/utf8.acceptRanges", "internal/bytealg.MaxLen"], apart := false, laid := [("unicode/utf8.acceptRanges", laid_unicode_utf8_acceptRanges), ("unicode/utf8.first", laid_unicode_utf8_first)] }
def PaperTotalSaid : Prop := paperTotalRow.holds Tryz.pinned (OpenSpec.ofChange paperTotalSpec)

/-- ITS FALSE NEIGHBOUR: 'it returns false'. Refute it at one input. -/
def paperTotalWrong : ChangeSpec := { name := "paperTotal", fn := fun _ => fun
  | [d] => { results := [.lit (.bool false)], args := [d] }
  | _ => none }
def PaperTotalWrongFalsely : Prop := paperTotalRow.holds Tryz.pinned (OpenSpec.ofChange paperTotalWrong)

/- THE SECOND FORM. 'bulk': how many values and letters a reading holds, each counted each time it is reached (what is shared counts as often as it is met; a slice's spare places count too). A statement '..UptoSaid' is the law's where the arguments, and the package variables that the reading takes, are together of bulk at most 1048576: NARROWER than '..Said'. Prove '..Said' where nothing that the law and all that it calls make is longer than what came in: it says more and counts as full. Else prove '..UptoSaid'. A law counts once. -/
mutual
def uptoBulk {H : Type} : DataW H → Nat
  | .lit (.string bytes) => bytes.length + 1
  | .lit _ => 1
  | .nil => 1
  | .ptr d => uptoBulk d + 1
  | .slice elems spare => uptoBulkAll elems + uptoBulkAll spare + 1
  | .agg parts => uptoBulkAll parts + 1
  | .iface _ d => uptoBulk d + 1
  | .map entries => uptoBulkEntries entries + 1
  | .held _ => 1
def uptoBulkAll {H : Type} : List (DataW H) → Nat
  | [] => 0
  | d :: r => uptoBulk d + uptoBulkAll r
def uptoBulkEntries {H : Type} : List (Lit × DataW H) → Nat
  | [] => 0
  | x :: r => uptoBulkEntry x + uptoBulkEntries r
def uptoBulkEntry {H : Type} : Lit × DataW H → Nat
  | (.string bytes, d) => bytes.length + uptoBulk d + 1
  | (_, d) => uptoBulk d + 1
 end
def uptoSmall : (H : Type) → List (DataW H) → Bool := fun _ ds => decide (uptoBulkAll ds ≤ 1048576)
def OpenSpec.upto (s : _root_.Go.ChangeSpec) : _root_.Go.OpenSpec := { _root_.Go.OpenSpec.ofChange s with cond := some uptoSmall }

/-- 'kinfolklaw09.CardPatches', WHERE WHAT IT READS IS OF BULK AT MOST 1048576: true; the input reads as it did. -/
def cardPatchesUptoRow : OpenClaim := { program := "yteiikkpajcggfaagreatdoor", sum := "48cb6850aec81ef03bc9aa628ac5dbeca54e5b8519122090a8b6632a3e6dadf1", func := "kinfolk/kinfolklaw09.CardPatches", spec := "cardPatches", inPlace := ["internal/bytealg.IndexByteString", "internal/bytealg.IndexString"], unfollowed := true, recurses := true, named := ["unicode/utf8.first", "unicode/utf8.acceptRanges", "internal/bytealg.MaxLen"], apart := false, laid := [("unicode/utf8.acceptRanges", laid_unicode_utf8_acceptRanges), ("unicode/utf8.first", laid_unicode_utf8_first)], narrowed := true }
def CardPatchesUptoSaid : Prop := cardPatchesUptoRow.holds Tryz.pinned (OpenSpec.upto cardPatchesSpec)

/-- 'kinfolklaw09.CardMerges', WHERE WHAT IT READS IS OF BULK AT MOST 1048576: true; the input reads as it did. -/
def cardMergesUptoRow : OpenClaim := { program := "yteiikkpajcggfaagreatdoor", sum := "48cb6850aec81ef03bc9aa628ac5dbeca54e5b8519122090a8b6632a3e6dadf1", func := "kinfolk/kinfolklaw09.CardMerges", spec := "cardMerges", inPlace := ["internal/bytealg.IndexByteString", "internal/bytealg.IndexString"], unfollowed := true, recurses := true, named := ["unicode/utf8.first", "unicode/utf8.acceptRanges", "internal/bytealg.MaxLen"], apart := false, laid := [("unicode/utf8.acceptRanges", laid_unicode_utf8_acceptRanges), ("unicode/utf8.first", laid_unicode_utf8_first)], narrowed := true }
def CardMergesUptoSaid : Prop := cardMergesUptoRow.holds Tryz.pinned (OpenSpec.upto cardMergesSpec)

/-- 'kinfolklaw09.CardDiffs', WHERE WHAT IT READS IS OF BULK AT MOST 1048576: true; the input reads as it did. -/
def cardDiffsUptoRow : OpenClaim := { program := "yteiikkpajcggfaagreatdoor", sum := "48cb6850aec81ef03bc9aa628ac5dbeca54e5b8519122090a8b6632a3e6dadf1", func := "kinfolk/kinfolklaw09.CardDiffs", spec := "cardDiffs", inPlace := ["internal/bytealg.IndexByteString", "internal/bytealg.IndexString"], unfollowed := true, recurses := true, named := ["unicode/utf8.first", "unicode/utf8.acceptRanges", "internal/bytealg.MaxLen"], apart := false, laid := [("unicode/utf8.acceptRanges", laid_unicode_utf8_acceptRanges), ("unicode/utf8.first", laid_unicode_utf8_first)], narrowed := true }
def CardDiffsUptoSaid : Prop := cardDiffsUptoRow.holds Tryz.pinned (OpenSpec.upto cardDiffsSpec)

/-- 'kinfolklaw10.PaperReads', WHERE WHAT IT READS IS OF BULK AT MOST 1048576: true; the input reads as it did. -/
def paperReadsUptoRow : OpenClaim := { program := "yteiikkpajcggfaagreatdoor", sum := "48cb6850aec81ef03bc9aa628ac5dbeca54e5b8519122090a8b6632a3e6dadf1", func := "kinfolk/kinfolklaw10.PaperReads", spec := "paperReads", inPlace := ["internal/bytealg.IndexByteString", "internal/bytealg.IndexString"], unfollowed := true, recurses := true, named := ["unicode/utf8.first", "unicode/utf8.acceptRanges", "internal/bytealg.MaxLen"], apart := false, laid := [("unicode/utf8.acceptRanges", laid_unicode_utf8_acceptRanges), ("unicode/utf8.first", laid_unicode_utf8_first)], narrowed := true }
def PaperReadsUptoSaid : Prop := paperReadsUptoRow.holds Tryz.pinned (OpenSpec.upto paperReadsSpec)

/-- 'kinfolklaw10.PaperRows', WHERE WHAT IT READS IS OF BULK AT MOST 1048576: true; the input reads as it did. -/
def paperRowsUptoRow : OpenClaim := { program := "yteiikkpajcggfaagreatdoor", sum := "48cb6850aec81ef03bc9aa628ac5dbeca54e5b8519122090a8b6632a3e6dadf1", func := "kinfolk/kinfolklaw10.PaperRows", spec := "paperRows", inPlace := ["internal/bytealg.IndexByteString", "internal/bytealg.IndexString"], unfollowed := true, recurses := true, named := ["unicode/utf8.first", "unicode/utf8.acceptRanges", "internal/bytealg.MaxLen"], apart := false, laid := [("unicode/utf8.acceptRanges", laid_unicode_utf8_acceptRanges), ("unicode/utf8.first", laid_unicode_utf8_first)], narrowed := true }
def PaperRowsUptoSaid : Prop := paperRowsUptoRow.holds Tryz.pinned (OpenSpec.upto paperRowsSpec)

/-- 'kinfolklaw10.PaperCards', WHERE WHAT IT READS IS OF BULK AT MOST 1048576: true; the input reads as it did. -/
def paperCardsUptoRow : OpenClaim := { program := "yteiikkpajcggfaagreatdoor", sum := "48cb6850aec81ef03bc9aa628ac5dbeca54e5b8519122090a8b6632a3e6dadf1", func := "kinfolk/kinfolklaw10.PaperCards", spec := "paperCards", inPlace := ["internal/bytealg.IndexByteString", "internal/bytealg.IndexString", "internal/bytealg.Compare"], unfollowed := true, recurses := true, named := ["unicode/utf8.first", "unicode/utf8.acceptRanges", "internal/bytealg.MaxLen"], apart := false, laid := [("unicode/utf8.acceptRanges", laid_unicode_utf8_acceptRanges), ("unicode/utf8.first", laid_unicode_utf8_first)], narrowed := true }
def PaperCardsUptoSaid : Prop := paperCardsUptoRow.holds Tryz.pinned (OpenSpec.upto paperCardsSpec)

/-- 'kinfolklaw10.PaperPatches', WHERE WHAT IT READS IS OF BULK AT MOST 1048576: true; the input reads as it did. -/
def paperPatchesUptoRow : OpenClaim := { program := "yteiikkpajcggfaagreatdoor", sum := "48cb6850aec81ef03bc9aa628ac5dbeca54e5b8519122090a8b6632a3e6dadf1", func := "kinfolk/kinfolklaw10.PaperPatches", spec := "paperPatches", inPlace := ["internal/bytealg.IndexByteString", "internal/bytealg.IndexString"], unfollowed := true, recurses := true, named := ["unicode/utf8.first", "unicode/utf8.acceptRanges", "internal/bytealg.MaxLen"], apart := false, laid := [("unicode/utf8.acceptRanges", laid_unicode_utf8_acceptRanges), ("unicode/utf8.first", laid_unicode_utf8_first)], narrowed := true }
def PaperPatchesUptoSaid : Prop := paperPatchesUptoRow.holds Tryz.pinned (OpenSpec.upto paperPatchesSpec)

/-- 'kinfolklaw10.PaperTotal', WHERE WHAT IT READS IS OF BULK AT MOST 1048576: true; the input reads as it did. -/
def paperTotalUptoRow : OpenClaim := { program := "yteiikkpajcggfaagreatdoor", sum := "48cb6850aec81ef03bc9aa628ac5dbeca54e5b8519122090a8b6632a3e6dadf1", func := "kinfolk/kinfolklaw10.PaperTotal", spec := "paperTotal", inPlace := ["internal/bytealg.IndexByteString", "internal/bytealg.IndexString"], unfollowed := true, recurses := true, named := ["unicode/utf8.first", "unicode/utf8.acceptRanges", "internal/bytealg.MaxLen"], apart := false, laid := [("unicode/utf8.acceptRanges", laid_unicode_utf8_acceptRanges), ("unicode/utf8.first", laid_unicode_utf8_first)], narrowed := true }
def PaperTotalUptoSaid : Prop := paperTotalUptoRow.holds Tryz.pinned (OpenSpec.upto paperTotalSpec)

end Rows
end Go.Proofs.YteiikkpajcggfaaGreatDoor
