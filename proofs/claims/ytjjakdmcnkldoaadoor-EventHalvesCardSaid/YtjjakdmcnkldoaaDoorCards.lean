/-
  DERIVED. GIVEN WITH THE SEED: THE CARDS: each row of YtjjakdmcnkldoaaDoorRows.lean that lists a variable, with what it lists TIED to the program's text (the seventh form; the later family's looks); each row that meets fmt, with fmt's text TOLD by the authors' own Lean function (tested against real Go, not proved from fmt's source: count such statements apart). THE CARD IS WHAT COUNTS. Prove the row's statement (the work); the ties are given (YtjjakdmcnkldoaaDoorTie.lean); close each card by the builder's one call (the guide's Derived/Test/ToyasCard.lean, 'card_holds'). Laid BY PROGRAM, IN A SANDBOX (cutbox-door.mjs). By AI agents, Wed Nov 11 2026. No macro, syntax, notation, axiom, sorry.
-/
import Derived.Test.YtjjakdmcnkldoaaDoorRows
import GoSem.ClaimSeven
namespace Go.Proofs.YtjjakdmcnkldoaaDoor
namespace Rows

/-- THE TIED CARD OF 'kinfolklaw04.StampGrows'. -/
def stampGrowsCard : Claim7 := { stood := { row := stampGrowsRow, standIns := [], harness := (true, "692ffe8abb6c5422b0c74d4304d3fab3669136bf634019fd1c9fbb54e197d8dc"), looks := true }, kinds := [], alts := [], laidByText := true, laidKinds := [.data, .data, .data], laidTests := true, laidLooks := .later }
def StampGrowsCardSaid : Prop := Claim7.holds Tryd.pinned (.plain (OpenSpec.ofChange stampGrowsSpec)) stampGrowsCard

/-- THE TIED CARD OF 'kinfolklaw04.StampFills'. -/
def stampFillsCard : Claim7 := { stood := { row := stampFillsRow, standIns := [], harness := (true, "692ffe8abb6c5422b0c74d4304d3fab3669136bf634019fd1c9fbb54e197d8dc"), looks := true }, kinds := [], alts := [], laidByText := true, laidKinds := [.data, .data, .data], laidTests := true, laidLooks := .later }
def StampFillsCardSaid : Prop := Claim7.holds Tryd.pinned (.plain (OpenSpec.ofChange stampFillsSpec)) stampFillsCard

/-- THE TIED CARD OF 'kinfolklaw04.StampLimits'. -/
def stampLimitsCard : Claim7 := { stood := { row := stampLimitsRow, standIns := [], harness := (true, "692ffe8abb6c5422b0c74d4304d3fab3669136bf634019fd1c9fbb54e197d8dc"), looks := true }, kinds := [], alts := [], laidByText := true, laidKinds := [.data, .data, .data], laidTests := true, laidLooks := .later }
def StampLimitsCardSaid : Prop := Claim7.holds Tryd.pinned (.plain (OpenSpec.ofChange stampLimitsSpec)) stampLimitsCard

/-- THE TIED CARD OF 'kinfolklaw04.StampTicks'. -/
def stampTicksCard : Claim7 := { stood := { row := stampTicksRow, standIns := [], harness := (true, "692ffe8abb6c5422b0c74d4304d3fab3669136bf634019fd1c9fbb54e197d8dc"), looks := true }, kinds := [], alts := [], laidByText := true, laidKinds := [.data, .data, .data], laidTests := true, laidLooks := .later }
def StampTicksCardSaid : Prop := Claim7.holds Tryd.pinned (.plain (OpenSpec.ofChange stampTicksSpec)) stampTicksCard

/-- THE TIED CARD OF 'kinfolklaw04.StampOrders'. -/
def stampOrdersCard : Claim7 := { stood := { row := stampOrdersRow, standIns := [], harness := (true, "692ffe8abb6c5422b0c74d4304d3fab3669136bf634019fd1c9fbb54e197d8dc"), looks := true }, kinds := [], alts := [], laidByText := true, laidKinds := [.data, .data, .data], laidTests := true, laidLooks := .later }
def StampOrdersCardSaid : Prop := Claim7.holds Tryd.pinned (.plain (OpenSpec.ofChange stampOrdersSpec)) stampOrdersCard

/-- THE TIED CARD OF 'kinfolklaw04.StampForks'. -/
def stampForksCard : Claim7 := { stood := { row := stampForksRow, standIns := [], harness := (true, "692ffe8abb6c5422b0c74d4304d3fab3669136bf634019fd1c9fbb54e197d8dc"), looks := true }, kinds := [], alts := [], laidByText := true, laidKinds := [.data, .data, .data], laidTests := true, laidLooks := .later }
def StampForksCardSaid : Prop := Claim7.holds Tryd.pinned (.plain (OpenSpec.ofChange stampForksSpec)) stampForksCard

/-- THE TIED CARD OF 'kinfolklaw04.StampJoins'. -/
def stampJoinsCard : Claim7 := { stood := { row := stampJoinsRow, standIns := [], harness := (true, "692ffe8abb6c5422b0c74d4304d3fab3669136bf634019fd1c9fbb54e197d8dc"), looks := true }, kinds := [], alts := [], laidByText := true, laidKinds := [.data, .data, .data], laidTests := true, laidLooks := .later }
def StampJoinsCardSaid : Prop := Claim7.holds Tryd.pinned (.plain (OpenSpec.ofChange stampJoinsSpec)) stampJoinsCard

/-- THE TIED CARD OF 'kinfolklaw02.EventTexts'. -/
def eventTextsCard : Claim7 := { stood := { row := eventTextsRow, standIns := [], harness := (true, "692ffe8abb6c5422b0c74d4304d3fab3669136bf634019fd1c9fbb54e197d8dc"), looks := true }, kinds := [], alts := [], laidByText := true, laidKinds := [.data, .data, .data, .sentinel, .sentinel], laidTests := true, laidLooks := .later }
def EventTextsCardSaid : Prop := Claim7.holds Tryd.pinned (.plain (OpenSpec.ofChange eventTextsSpec)) eventTextsCard

/-- THE TIED CARD OF 'kinfolklaw02.EventLimits'. -/
def eventLimitsCard : Claim7 := { stood := { row := eventLimitsRow, standIns := [], harness := (true, "692ffe8abb6c5422b0c74d4304d3fab3669136bf634019fd1c9fbb54e197d8dc"), looks := true }, kinds := [], alts := [], laidByText := true, laidKinds := [.data, .data, .data, .sentinel, .sentinel], laidTests := true, laidLooks := .later }
def EventLimitsCardSaid : Prop := Claim7.holds Tryd.pinned (.plain (OpenSpec.ofChange eventLimitsSpec)) eventLimitsCard

/-- THE TIED CARD OF 'kinfolklaw02.EventForms'. -/
def eventFormsCard : Claim7 := { stood := { row := eventFormsRow, standIns := [], harness := (true, "692ffe8abb6c5422b0c74d4304d3fab3669136bf634019fd1c9fbb54e197d8dc"), looks := true }, kinds := [], alts := [], laidByText := true, laidKinds := [.data, .data, .data, .sentinel, .sentinel], laidTests := true, laidLooks := .later }
def EventFormsCardSaid : Prop := Claim7.holds Tryd.pinned (.plain (OpenSpec.ofChange eventFormsSpec)) eventFormsCard

/-- THE TIED CARD OF 'kinfolklaw02.EventJoins'. -/
def eventJoinsCard : Claim7 := { stood := { row := eventJoinsRow, standIns := [], harness := (true, "692ffe8abb6c5422b0c74d4304d3fab3669136bf634019fd1c9fbb54e197d8dc"), looks := true }, kinds := [], alts := [], laidByText := true, laidKinds := [.data, .data, .data, .sentinel, .sentinel], laidTests := true, laidLooks := .later }
def EventJoinsCardSaid : Prop := Claim7.holds Tryd.pinned (.plain (OpenSpec.ofChange eventJoinsSpec)) eventJoinsCard

/-- THE TIED CARD OF 'kinfolklaw02.EventHalves'. -/
def eventHalvesCard : Claim7 := { stood := { row := eventHalvesRow, standIns := [], harness := (true, "692ffe8abb6c5422b0c74d4304d3fab3669136bf634019fd1c9fbb54e197d8dc"), looks := true }, kinds := [], alts := [], laidByText := true, laidKinds := [.data, .data, .data, .sentinel, .sentinel], laidTests := true, laidLooks := .later }
def EventHalvesCardSaid : Prop := Claim7.holds Tryd.pinned (.plain (OpenSpec.ofChange eventHalvesSpec)) eventHalvesCard

/-- THE TIED CARD OF 'kinfolklaw02.EventLeq'. -/
def eventLeqCard : Claim7 := { stood := { row := eventLeqRow, standIns := [], harness := (true, "692ffe8abb6c5422b0c74d4304d3fab3669136bf634019fd1c9fbb54e197d8dc"), looks := true }, kinds := [], alts := [], laidByText := true, laidKinds := [.data, .data, .data, .sentinel, .sentinel], laidTests := true, laidLooks := .later }
def EventLeqCardSaid : Prop := Claim7.holds Tryd.pinned (.plain (OpenSpec.ofChange eventLeqSpec)) eventLeqCard

/-- THE TIED CARD OF 'kinfolklaw07.CodeParts'. -/
def codePartsCard : Claim7 := { stood := { row := codePartsRow, standIns := [], harness := (true, "692ffe8abb6c5422b0c74d4304d3fab3669136bf634019fd1c9fbb54e197d8dc"), looks := true }, kinds := [], alts := [], laidByText := true, laidKinds := [.data, .data, .data], laidTests := true, laidLooks := .later }
def CodePartsCardSaid : Prop := Claim7.holds Tryd.pinned (.plain (OpenSpec.ofChange codePartsSpec)) codePartsCard

/-- THE TIED CARD OF 'kinfolklaw07.CodeReads'. -/
def codeReadsCard : Claim7 := { stood := { row := codeReadsRow, standIns := [], harness := (true, "692ffe8abb6c5422b0c74d4304d3fab3669136bf634019fd1c9fbb54e197d8dc"), looks := true }, kinds := [], alts := [], laidByText := true, laidKinds := [.data, .data, .data], laidTests := true, laidLooks := .later }
def CodeReadsCardSaid : Prop := Claim7.holds Tryd.pinned (.plain (OpenSpec.ofChange codeReadsSpec)) codeReadsCard

/-- THE SECOND FORM's CARD OF 'kinfolklaw04.StampGrows'. -/
def stampGrowsUptoCard : Claim7 := { stood := { row := stampGrowsUptoRow, standIns := [], harness := (true, "692ffe8abb6c5422b0c74d4304d3fab3669136bf634019fd1c9fbb54e197d8dc"), looks := true }, kinds := [], alts := [], laidByText := true, laidKinds := [.data, .data, .data], laidTests := true, laidLooks := .later }
def StampGrowsUptoCardSaid : Prop := Claim7.holds Tryd.pinned (.plain (OpenSpec.upto stampGrowsSpec)) stampGrowsUptoCard

/-- THE SECOND FORM's CARD OF 'kinfolklaw04.StampFills'. -/
def stampFillsUptoCard : Claim7 := { stood := { row := stampFillsUptoRow, standIns := [], harness := (true, "692ffe8abb6c5422b0c74d4304d3fab3669136bf634019fd1c9fbb54e197d8dc"), looks := true }, kinds := [], alts := [], laidByText := true, laidKinds := [.data, .data, .data], laidTests := true, laidLooks := .later }
def StampFillsUptoCardSaid : Prop := Claim7.holds Tryd.pinned (.plain (OpenSpec.upto stampFillsSpec)) stampFillsUptoCard

/-- THE SECOND FORM's CARD OF 'kinfolklaw04.StampLimits'. -/
def stampLimitsUptoCard : Claim7 := { stood := { row := stampLimitsUptoRow, standIns := [], harness := (true, "692ffe8abb6c5422b0c74d4304d3fab3669136bf634019fd1c9fbb54e197d8dc"), looks := true }, kinds := [], alts := [], laidByText := true, laidKinds := [.data, .data, .data], laidTests := true, laidLooks := .later }
def StampLimitsUptoCardSaid : Prop := Claim7.holds Tryd.pinned (.plain (OpenSpec.upto stampLimitsSpec)) stampLimitsUptoCard

/-- THE SECOND FORM's CARD OF 'kinfolklaw04.StampTicks'. -/
def stampTicksUptoCard : Claim7 := { stood := { row := stampTicksUptoRow, standIns := [], harness := (true, "692ffe8abb6c5422b0c74d4304d3fab3669136bf634019fd1c9fbb54e197d8dc"), looks := true }, kinds := [], alts := [], laidByText := true, laidKinds := [.data, .data, .data], laidTests := true, laidLooks := .later }
def StampTicksUptoCardSaid : Prop := Claim7.holds Tryd.pinned (.plain (OpenSpec.upto stampTicksSpec)) stampTicksUptoCard

/-- THE SECOND FORM's CARD OF 'kinfolklaw04.StampOrders'. -/
def stampOrdersUptoCard : Claim7 := { stood := { row := stampOrdersUptoRow, standIns := [], harness := (true, "692ffe8abb6c5422b0c74d4304d3fab3669136bf634019fd1c9fbb54e197d8dc"), looks := true }, kinds := [], alts := [], laidByText := true, laidKinds := [.data, .data, .data], laidTests := true, laidLooks := .later }
def StampOrdersUptoCardSaid : Prop := Claim7.holds Tryd.pinned (.plain (OpenSpec.upto stampOrdersSpec)) stampOrdersUptoCard

/-- THE SECOND FORM's CARD OF 'kinfolklaw04.StampForks'. -/
def stampForksUptoCard : Claim7 := { stood := { row := stampForksUptoRow, standIns := [], harness := (true, "692ffe8abb6c5422b0c74d4304d3fab3669136bf634019fd1c9fbb54e197d8dc"), looks := true }, kinds := [], alts := [], laidByText := true, laidKinds := [.data, .data, .data], laidTests := true, laidLooks := .later }
def StampForksUptoCardSaid : Prop := Claim7.holds Tryd.pinned (.plain (OpenSpec.upto stampForksSpec)) stampForksUptoCard

/-- THE SECOND FORM's CARD OF 'kinfolklaw04.StampJoins'. -/
def stampJoinsUptoCard : Claim7 := { stood := { row := stampJoinsUptoRow, standIns := [], harness := (true, "692ffe8abb6c5422b0c74d4304d3fab3669136bf634019fd1c9fbb54e197d8dc"), looks := true }, kinds := [], alts := [], laidByText := true, laidKinds := [.data, .data, .data], laidTests := true, laidLooks := .later }
def StampJoinsUptoCardSaid : Prop := Claim7.holds Tryd.pinned (.plain (OpenSpec.upto stampJoinsSpec)) stampJoinsUptoCard

/-- THE SECOND FORM's CARD OF 'kinfolklaw02.EventTexts'. -/
def eventTextsUptoCard : Claim7 := { stood := { row := eventTextsUptoRow, standIns := [], harness := (true, "692ffe8abb6c5422b0c74d4304d3fab3669136bf634019fd1c9fbb54e197d8dc"), looks := true }, kinds := [], alts := [], laidByText := true, laidKinds := [.data, .data, .data, .sentinel, .sentinel], laidTests := true, laidLooks := .later }
def EventTextsUptoCardSaid : Prop := Claim7.holds Tryd.pinned (.plain (OpenSpec.upto eventTextsSpec)) eventTextsUptoCard

/-- THE SECOND FORM's CARD OF 'kinfolklaw02.EventLimits'. -/
def eventLimitsUptoCard : Claim7 := { stood := { row := eventLimitsUptoRow, standIns := [], harness := (true, "692ffe8abb6c5422b0c74d4304d3fab3669136bf634019fd1c9fbb54e197d8dc"), looks := true }, kinds := [], alts := [], laidByText := true, laidKinds := [.data, .data, .data, .sentinel, .sentinel], laidTests := true, laidLooks := .later }
def EventLimitsUptoCardSaid : Prop := Claim7.holds Tryd.pinned (.plain (OpenSpec.upto eventLimitsSpec)) eventLimitsUptoCard

/-- THE SECOND FORM's CARD OF 'kinfolklaw02.EventForms'. -/
def eventFormsUptoCard : Claim7 := { stood := { row := eventFormsUptoRow, standIns := [], harness := (true, "692ffe8abb6c5422b0c74d4304d3fab3669136bf634019fd1c9fbb54e197d8dc"), looks := true }, kinds := [], alts := [], laidByText := true, laidKinds := [.data, .data, .data, .sentinel, .sentinel], laidTests := true, laidLooks := .later }
def EventFormsUptoCardSaid : Prop := Claim7.holds Tryd.pinned (.plain (OpenSpec.upto eventFormsSpec)) eventFormsUptoCard

/-- THE SECOND FORM's CARD OF 'kinfolklaw02.EventJoins'. -/
def eventJoinsUptoCard : Claim7 := { stood := { row := eventJoinsUptoRow, standIns := [], harness := (true, "692ffe8abb6c5422b0c74d4304d3fab3669136bf634019fd1c9fbb54e197d8dc"), looks := true }, kinds := [], alts := [], laidByText := true, laidKinds := [.data, .data, .data, .sentinel, .sentinel], laidTests := true, laidLooks := .later }
def EventJoinsUptoCardSaid : Prop := Claim7.holds Tryd.pinned (.plain (OpenSpec.upto eventJoinsSpec)) eventJoinsUptoCard

/-- THE SECOND FORM's CARD OF 'kinfolklaw02.EventHalves'. -/
def eventHalvesUptoCard : Claim7 := { stood := { row := eventHalvesUptoRow, standIns := [], harness := (true, "692ffe8abb6c5422b0c74d4304d3fab3669136bf634019fd1c9fbb54e197d8dc"), looks := true }, kinds := [], alts := [], laidByText := true, laidKinds := [.data, .data, .data, .sentinel, .sentinel], laidTests := true, laidLooks := .later }
def EventHalvesUptoCardSaid : Prop := Claim7.holds Tryd.pinned (.plain (OpenSpec.upto eventHalvesSpec)) eventHalvesUptoCard

/-- THE SECOND FORM's CARD OF 'kinfolklaw02.EventLeq'. -/
def eventLeqUptoCard : Claim7 := { stood := { row := eventLeqUptoRow, standIns := [], harness := (true, "692ffe8abb6c5422b0c74d4304d3fab3669136bf634019fd1c9fbb54e197d8dc"), looks := true }, kinds := [], alts := [], laidByText := true, laidKinds := [.data, .data, .data, .sentinel, .sentinel], laidTests := true, laidLooks := .later }
def EventLeqUptoCardSaid : Prop := Claim7.holds Tryd.pinned (.plain (OpenSpec.upto eventLeqSpec)) eventLeqUptoCard

/-- THE SECOND FORM's CARD OF 'kinfolklaw07.CodeParts'. -/
def codePartsUptoCard : Claim7 := { stood := { row := codePartsUptoRow, standIns := [], harness := (true, "692ffe8abb6c5422b0c74d4304d3fab3669136bf634019fd1c9fbb54e197d8dc"), looks := true }, kinds := [], alts := [], laidByText := true, laidKinds := [.data, .data, .data], laidTests := true, laidLooks := .later }
def CodePartsUptoCardSaid : Prop := Claim7.holds Tryd.pinned (.plain (OpenSpec.upto codePartsSpec)) codePartsUptoCard

/-- THE SECOND FORM's CARD OF 'kinfolklaw07.CodeReads'. -/
def codeReadsUptoCard : Claim7 := { stood := { row := codeReadsUptoRow, standIns := [], harness := (true, "692ffe8abb6c5422b0c74d4304d3fab3669136bf634019fd1c9fbb54e197d8dc"), looks := true }, kinds := [], alts := [], laidByText := true, laidKinds := [.data, .data, .data], laidTests := true, laidLooks := .later }
def CodeReadsUptoCardSaid : Prop := Claim7.holds Tryd.pinned (.plain (OpenSpec.upto codeReadsSpec)) codeReadsUptoCard
end Rows
end Go.Proofs.YtjjakdmcnkldoaaDoor
