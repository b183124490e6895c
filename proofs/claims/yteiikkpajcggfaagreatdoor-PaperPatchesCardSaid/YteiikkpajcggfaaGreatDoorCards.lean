/-
  DERIVED. GIVEN WITH THE SEED: THE CARDS: each row of YteiikkpajcggfaaGreatDoorRows.lean that lists a variable, with what it lists TIED to the program's text (the seventh form; the later family's looks); each row that meets fmt, with fmt's text TOLD by the authors' own Lean function (tested against real Go, not proved from fmt's source: count such statements apart). THE CARD IS WHAT COUNTS. Prove the row's statement (the work); the ties are given (YteiikkpajcggfaaGreatDoorTie.lean); close each card by the builder's one call (the guide's Derived/Test/ToyasCard.lean, 'card_holds'). Laid BY PROGRAM, IN A SANDBOX (cutbox-door.mjs). By AI agents, Wed Nov 11 2026. No macro, syntax, notation, axiom, sorry.
-/
import Derived.Test.YteiikkpajcggfaaGreatDoorRows
import GoSem.ClaimSeven
namespace Go.Proofs.YteiikkpajcggfaaGreatDoor
namespace Rows

/-- THE TIED CARD OF 'kinfolklaw09.CardPatches'. -/
def cardPatchesCard : Claim7 := { stood := { row := cardPatchesRow, standIns := [], harness := (true, "f6fe5ce5f308e36e737792270679f72de2631fbcc395b18ad2aa29e9c6e0e472"), looks := false }, kinds := [], alts := [], laidByText := true, laidKinds := [.data, .pinned], laidTests := true, laidLooks := .later }
def CardPatchesCardSaid : Prop := Claim7.holds Tryz.pinned (.plain (OpenSpec.ofChange cardPatchesSpec)) cardPatchesCard

/-- THE TIED CARD OF 'kinfolklaw09.CardMerges'. -/
def cardMergesCard : Claim7 := { stood := { row := cardMergesRow, standIns := [], harness := (true, "f6fe5ce5f308e36e737792270679f72de2631fbcc395b18ad2aa29e9c6e0e472"), looks := false }, kinds := [], alts := [], laidByText := true, laidKinds := [.data, .pinned], laidTests := true, laidLooks := .later }
def CardMergesCardSaid : Prop := Claim7.holds Tryz.pinned (.plain (OpenSpec.ofChange cardMergesSpec)) cardMergesCard

/-- THE TIED CARD OF 'kinfolklaw09.CardDiffs'. -/
def cardDiffsCard : Claim7 := { stood := { row := cardDiffsRow, standIns := [], harness := (true, "f6fe5ce5f308e36e737792270679f72de2631fbcc395b18ad2aa29e9c6e0e472"), looks := false }, kinds := [], alts := [], laidByText := true, laidKinds := [.data, .pinned], laidTests := true, laidLooks := .later }
def CardDiffsCardSaid : Prop := Claim7.holds Tryz.pinned (.plain (OpenSpec.ofChange cardDiffsSpec)) cardDiffsCard

/-- THE TIED CARD OF 'kinfolklaw10.PaperReads'. -/
def paperReadsCard : Claim7 := { stood := { row := paperReadsRow, standIns := [], harness := (true, "f6fe5ce5f308e36e737792270679f72de2631fbcc395b18ad2aa29e9c6e0e472"), looks := false }, kinds := [], alts := [], laidByText := true, laidKinds := [.data, .pinned], laidTests := true, laidLooks := .later }
def PaperReadsCardSaid : Prop := Claim7.holds Tryz.pinned (.plain (OpenSpec.ofChange paperReadsSpec)) paperReadsCard

/-- THE TIED CARD OF 'kinfolklaw10.PaperRows'. -/
def paperRowsCard : Claim7 := { stood := { row := paperRowsRow, standIns := [], harness := (true, "f6fe5ce5f308e36e737792270679f72de2631fbcc395b18ad2aa29e9c6e0e472"), looks := false }, kinds := [], alts := [], laidByText := true, laidKinds := [.data, .pinned], laidTests := true, laidLooks := .later }
def PaperRowsCardSaid : Prop := Claim7.holds Tryz.pinned (.plain (OpenSpec.ofChange paperRowsSpec)) paperRowsCard

/-- THE TIED CARD OF 'kinfolklaw10.PaperCards'. -/
def paperCardsCard : Claim7 := { stood := { row := paperCardsRow, standIns := [], harness := (true, "f6fe5ce5f308e36e737792270679f72de2631fbcc395b18ad2aa29e9c6e0e472"), looks := false }, kinds := [], alts := [], laidByText := true, laidKinds := [.data, .pinned], laidTests := true, laidLooks := .later }
def PaperCardsCardSaid : Prop := Claim7.holds Tryz.pinned (.plain (OpenSpec.ofChange paperCardsSpec)) paperCardsCard

/-- THE TIED CARD OF 'kinfolklaw10.PaperPatches'. -/
def paperPatchesCard : Claim7 := { stood := { row := paperPatchesRow, standIns := [], harness := (true, "f6fe5ce5f308e36e737792270679f72de2631fbcc395b18ad2aa29e9c6e0e472"), looks := false }, kinds := [], alts := [], laidByText := true, laidKinds := [.data, .pinned], laidTests := true, laidLooks := .later }
def PaperPatchesCardSaid : Prop := Claim7.holds Tryz.pinned (.plain (OpenSpec.ofChange paperPatchesSpec)) paperPatchesCard

/-- THE TIED CARD OF 'kinfolklaw10.PaperTotal'. -/
def paperTotalCard : Claim7 := { stood := { row := paperTotalRow, standIns := [], harness := (true, "f6fe5ce5f308e36e737792270679f72de2631fbcc395b18ad2aa29e9c6e0e472"), looks := false }, kinds := [], alts := [], laidByText := true, laidKinds := [.data, .pinned], laidTests := true, laidLooks := .later }
def PaperTotalCardSaid : Prop := Claim7.holds Tryz.pinned (.plain (OpenSpec.ofChange paperTotalSpec)) paperTotalCard

/-- THE SECOND FORM's CARD OF 'kinfolklaw09.CardPatches'. -/
def cardPatchesUptoCard : Claim7 := { stood := { row := cardPatchesUptoRow, standIns := [], harness := (true, "f6fe5ce5f308e36e737792270679f72de2631fbcc395b18ad2aa29e9c6e0e472"), looks := false }, kinds := [], alts := [], laidByText := true, laidKinds := [.data, .pinned], laidTests := true, laidLooks := .later }
def CardPatchesUptoCardSaid : Prop := Claim7.holds Tryz.pinned (.plain (OpenSpec.upto cardPatchesSpec)) cardPatchesUptoCard

/-- THE SECOND FORM's CARD OF 'kinfolklaw09.CardMerges'. -/
def cardMergesUptoCard : Claim7 := { stood := { row := cardMergesUptoRow, standIns := [], harness := (true, "f6fe5ce5f308e36e737792270679f72de2631fbcc395b18ad2aa29e9c6e0e472"), looks := false }, kinds := [], alts := [], laidByText := true, laidKinds := [.data, .pinned], laidTests := true, laidLooks := .later }
def CardMergesUptoCardSaid : Prop := Claim7.holds Tryz.pinned (.plain (OpenSpec.upto cardMergesSpec)) cardMergesUptoCard

/-- THE SECOND FORM's CARD OF 'kinfolklaw09.CardDiffs'. -/
def cardDiffsUptoCard : Claim7 := { stood := { row := cardDiffsUptoRow, standIns := [], harness := (true, "f6fe5ce5f308e36e737792270679f72de2631fbcc395b18ad2aa29e9c6e0e472"), looks := false }, kinds := [], alts := [], laidByText := true, laidKinds := [.data, .pinned], laidTests := true, laidLooks := .later }
def CardDiffsUptoCardSaid : Prop := Claim7.holds Tryz.pinned (.plain (OpenSpec.upto cardDiffsSpec)) cardDiffsUptoCard

/-- THE SECOND FORM's CARD OF 'kinfolklaw10.PaperReads'. -/
def paperReadsUptoCard : Claim7 := { stood := { row := paperReadsUptoRow, standIns := [], harness := (true, "f6fe5ce5f308e36e737792270679f72de2631fbcc395b18ad2aa29e9c6e0e472"), looks := false }, kinds := [], alts := [], laidByText := true, laidKinds := [.data, .pinned], laidTests := true, laidLooks := .later }
def PaperReadsUptoCardSaid : Prop := Claim7.holds Tryz.pinned (.plain (OpenSpec.upto paperReadsSpec)) paperReadsUptoCard

/-- THE SECOND FORM's CARD OF 'kinfolklaw10.PaperRows'. -/
def paperRowsUptoCard : Claim7 := { stood := { row := paperRowsUptoRow, standIns := [], harness := (true, "f6fe5ce5f308e36e737792270679f72de2631fbcc395b18ad2aa29e9c6e0e472"), looks := false }, kinds := [], alts := [], laidByText := true, laidKinds := [.data, .pinned], laidTests := true, laidLooks := .later }
def PaperRowsUptoCardSaid : Prop := Claim7.holds Tryz.pinned (.plain (OpenSpec.upto paperRowsSpec)) paperRowsUptoCard

/-- THE SECOND FORM's CARD OF 'kinfolklaw10.PaperCards'. -/
def paperCardsUptoCard : Claim7 := { stood := { row := paperCardsUptoRow, standIns := [], harness := (true, "f6fe5ce5f308e36e737792270679f72de2631fbcc395b18ad2aa29e9c6e0e472"), looks := false }, kinds := [], alts := [], laidByText := true, laidKinds := [.data, .pinned], laidTests := true, laidLooks := .later }
def PaperCardsUptoCardSaid : Prop := Claim7.holds Tryz.pinned (.plain (OpenSpec.upto paperCardsSpec)) paperCardsUptoCard

/-- THE SECOND FORM's CARD OF 'kinfolklaw10.PaperPatches'. -/
def paperPatchesUptoCard : Claim7 := { stood := { row := paperPatchesUptoRow, standIns := [], harness := (true, "f6fe5ce5f308e36e737792270679f72de2631fbcc395b18ad2aa29e9c6e0e472"), looks := false }, kinds := [], alts := [], laidByText := true, laidKinds := [.data, .pinned], laidTests := true, laidLooks := .later }
def PaperPatchesUptoCardSaid : Prop := Claim7.holds Tryz.pinned (.plain (OpenSpec.upto paperPatchesSpec)) paperPatchesUptoCard

/-- THE SECOND FORM's CARD OF 'kinfolklaw10.PaperTotal'. -/
def paperTotalUptoCard : Claim7 := { stood := { row := paperTotalUptoRow, standIns := [], harness := (true, "f6fe5ce5f308e36e737792270679f72de2631fbcc395b18ad2aa29e9c6e0e472"), looks := false }, kinds := [], alts := [], laidByText := true, laidKinds := [.data, .pinned], laidTests := true, laidLooks := .later }
def PaperTotalUptoCardSaid : Prop := Claim7.holds Tryz.pinned (.plain (OpenSpec.upto paperTotalSpec)) paperTotalUptoCard
end Rows
end Go.Proofs.YteiikkpajcggfaaGreatDoor
