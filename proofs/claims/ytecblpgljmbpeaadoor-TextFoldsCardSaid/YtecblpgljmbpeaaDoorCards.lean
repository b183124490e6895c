/-
  DERIVED. GIVEN WITH THE SEED: THE CARDS: each row of YtecblpgljmbpeaaDoorRows.lean that lists a variable, with what it lists TIED to the program's text (the seventh form; the later family's looks); each row that meets fmt, with fmt's text TOLD by the authors' own Lean function (tested against real Go, not proved from fmt's source: count such statements apart). THE CARD IS WHAT COUNTS. Prove the row's statement (the work); the ties are given (YtecblpgljmbpeaaDoorTie.lean); close each card by the builder's one call (the guide's Derived/Test/ToyasCard.lean, 'card_holds'). Laid BY PROGRAM, IN A SANDBOX (cutbox-door.mjs). By AI agents, Wed Nov 11 2026. No macro, syntax, notation, axiom, sorry.
-/
import Derived.Test.YtecblpgljmbpeaaDoorRows
import GoSem.ClaimSeven
namespace Go.Proofs.YtecblpgljmbpeaaDoor
namespace Rows

/-- THE TIED CARD OF 'kinfolklaw08.TextChecks'. -/
def textChecksCard : Claim7 := { stood := { row := textChecksRow, standIns := [], harness := (true, "f9e3aa5fe36a5b2df745af1d1205d58b3d7b4a71378a84652eb0a47d01e4cdf0"), looks := false }, kinds := [], alts := [], laidByText := true, laidKinds := [.data, .pinned], laidTests := true, laidLooks := .later }
def TextChecksCardSaid : Prop := Claim7.holds Tryd.pinned (.plain (OpenSpec.ofChange textChecksSpec)) textChecksCard

/-- THE TIED CARD OF 'kinfolklaw08.TextJoins'. -/
def textJoinsCard : Claim7 := { stood := { row := textJoinsRow, standIns := [], harness := (true, "f9e3aa5fe36a5b2df745af1d1205d58b3d7b4a71378a84652eb0a47d01e4cdf0"), looks := false }, kinds := [], alts := [], laidByText := true, laidKinds := [.data, .pinned], laidTests := true, laidLooks := .later }
def TextJoinsCardSaid : Prop := Claim7.holds Tryd.pinned (.plain (OpenSpec.ofChange textJoinsSpec)) textJoinsCard

/-- THE TIED CARD OF 'kinfolklaw08.TextFolds'. -/
def textFoldsCard : Claim7 := { stood := { row := textFoldsRow, standIns := [], harness := (true, "f9e3aa5fe36a5b2df745af1d1205d58b3d7b4a71378a84652eb0a47d01e4cdf0"), looks := false }, kinds := [], alts := [], laidByText := true, laidKinds := [.data, .pinned], laidTests := true, laidLooks := .later }
def TextFoldsCardSaid : Prop := Claim7.holds Tryd.pinned (.plain (OpenSpec.ofChange textFoldsSpec)) textFoldsCard

/-- THE TIED CARD OF 'kinfolklaw08.TextQuotes'. -/
def textQuotesCard : Claim7 := { stood := { row := textQuotesRow, standIns := [], harness := (true, "f9e3aa5fe36a5b2df745af1d1205d58b3d7b4a71378a84652eb0a47d01e4cdf0"), looks := false }, kinds := [], alts := [], laidByText := true, laidKinds := [.data, .pinned], laidTests := true, laidLooks := .later }
def TextQuotesCardSaid : Prop := Claim7.holds Tryd.pinned (.plain (OpenSpec.ofChange textQuotesSpec)) textQuotesCard

/-- THE SECOND FORM's CARD OF 'kinfolklaw08.TextChecks'. -/
def textChecksUptoCard : Claim7 := { stood := { row := textChecksUptoRow, standIns := [], harness := (true, "f9e3aa5fe36a5b2df745af1d1205d58b3d7b4a71378a84652eb0a47d01e4cdf0"), looks := false }, kinds := [], alts := [], laidByText := true, laidKinds := [.data, .pinned], laidTests := true, laidLooks := .later }
def TextChecksUptoCardSaid : Prop := Claim7.holds Tryd.pinned (.plain (OpenSpec.upto textChecksSpec)) textChecksUptoCard

/-- THE SECOND FORM's CARD OF 'kinfolklaw08.TextJoins'. -/
def textJoinsUptoCard : Claim7 := { stood := { row := textJoinsUptoRow, standIns := [], harness := (true, "f9e3aa5fe36a5b2df745af1d1205d58b3d7b4a71378a84652eb0a47d01e4cdf0"), looks := false }, kinds := [], alts := [], laidByText := true, laidKinds := [.data, .pinned], laidTests := true, laidLooks := .later }
def TextJoinsUptoCardSaid : Prop := Claim7.holds Tryd.pinned (.plain (OpenSpec.upto textJoinsSpec)) textJoinsUptoCard

/-- THE SECOND FORM's CARD OF 'kinfolklaw08.TextFolds'. -/
def textFoldsUptoCard : Claim7 := { stood := { row := textFoldsUptoRow, standIns := [], harness := (true, "f9e3aa5fe36a5b2df745af1d1205d58b3d7b4a71378a84652eb0a47d01e4cdf0"), looks := false }, kinds := [], alts := [], laidByText := true, laidKinds := [.data, .pinned], laidTests := true, laidLooks := .later }
def TextFoldsUptoCardSaid : Prop := Claim7.holds Tryd.pinned (.plain (OpenSpec.upto textFoldsSpec)) textFoldsUptoCard

/-- THE SECOND FORM's CARD OF 'kinfolklaw08.TextQuotes'. -/
def textQuotesUptoCard : Claim7 := { stood := { row := textQuotesUptoRow, standIns := [], harness := (true, "f9e3aa5fe36a5b2df745af1d1205d58b3d7b4a71378a84652eb0a47d01e4cdf0"), looks := false }, kinds := [], alts := [], laidByText := true, laidKinds := [.data, .pinned], laidTests := true, laidLooks := .later }
def TextQuotesUptoCardSaid : Prop := Claim7.holds Tryd.pinned (.plain (OpenSpec.upto textQuotesSpec)) textQuotesUptoCard
end Rows
end Go.Proofs.YtecblpgljmbpeaaDoor
