/-
  DERIVED. GIVEN WITH THE SEED: THE CARDS: each row of YteiikkpajcggfaaDoorRows.lean that lists a variable, with what it lists TIED to the program's text (the seventh form; the later family's looks); each row that meets fmt, with fmt's text TOLD by the authors' own Lean function (tested against real Go, not proved from fmt's source: count such statements apart). THE CARD IS WHAT COUNTS. Prove the row's statement (the work); the ties are given (YteiikkpajcggfaaDoorTie.lean); close each card by the builder's one call (the guide's Derived/Test/ToyasCard.lean, 'card_holds'). Laid BY PROGRAM, IN A SANDBOX (cutbox-door.mjs). By AI agents, Wed Nov 11 2026. No macro, syntax, notation, axiom, sorry.
-/
import Derived.Test.YteiikkpajcggfaaDoorRows
import GoSem.ClaimSeven
namespace Go.Proofs.YteiikkpajcggfaaDoor
namespace Rows

/-- THE TIED CARD OF 'kinfolklaw09.CardMakes'. -/
def cardMakesCard : Claim7 := { stood := { row := cardMakesRow, standIns := [], harness := (true, "2a702eaef3a91e87120c58f7e61dae6268f014d6766496c6943f6e423820b207"), looks := false }, kinds := [], alts := [], laidByText := true, laidKinds := [.data, .pinned], laidTests := true, laidLooks := .later }
def CardMakesCardSaid : Prop := Claim7.holds Tryd.pinned (.plain (OpenSpec.ofChange cardMakesSpec)) cardMakesCard

/-- THE TIED CARD OF 'kinfolklaw09.CardTells'. -/
def cardTellsCard : Claim7 := { stood := { row := cardTellsRow, standIns := [], harness := (true, "2a702eaef3a91e87120c58f7e61dae6268f014d6766496c6943f6e423820b207"), looks := false }, kinds := [], alts := [], laidByText := true, laidKinds := [.data, .pinned], laidTests := true, laidLooks := .later }
def CardTellsCardSaid : Prop := Claim7.holds Tryd.pinned (.plain (OpenSpec.ofChange cardTellsSpec)) cardTellsCard

/-- THE TIED CARD OF 'kinfolklaw09.CardOrders'. -/
def cardOrdersCard : Claim7 := { stood := { row := cardOrdersRow, standIns := [], harness := (true, "2a702eaef3a91e87120c58f7e61dae6268f014d6766496c6943f6e423820b207"), looks := false }, kinds := [], alts := [], laidByText := true, laidKinds := [.data, .pinned], laidTests := true, laidLooks := .later }
def CardOrdersCardSaid : Prop := Claim7.holds Tryd.pinned (.plain (OpenSpec.ofChange cardOrdersSpec)) cardOrdersCard

/-- THE SECOND FORM's CARD OF 'kinfolklaw09.CardMakes'. -/
def cardMakesUptoCard : Claim7 := { stood := { row := cardMakesUptoRow, standIns := [], harness := (true, "2a702eaef3a91e87120c58f7e61dae6268f014d6766496c6943f6e423820b207"), looks := false }, kinds := [], alts := [], laidByText := true, laidKinds := [.data, .pinned], laidTests := true, laidLooks := .later }
def CardMakesUptoCardSaid : Prop := Claim7.holds Tryd.pinned (.plain (OpenSpec.upto cardMakesSpec)) cardMakesUptoCard

/-- THE SECOND FORM's CARD OF 'kinfolklaw09.CardTells'. -/
def cardTellsUptoCard : Claim7 := { stood := { row := cardTellsUptoRow, standIns := [], harness := (true, "2a702eaef3a91e87120c58f7e61dae6268f014d6766496c6943f6e423820b207"), looks := false }, kinds := [], alts := [], laidByText := true, laidKinds := [.data, .pinned], laidTests := true, laidLooks := .later }
def CardTellsUptoCardSaid : Prop := Claim7.holds Tryd.pinned (.plain (OpenSpec.upto cardTellsSpec)) cardTellsUptoCard

/-- THE SECOND FORM's CARD OF 'kinfolklaw09.CardOrders'. -/
def cardOrdersUptoCard : Claim7 := { stood := { row := cardOrdersUptoRow, standIns := [], harness := (true, "2a702eaef3a91e87120c58f7e61dae6268f014d6766496c6943f6e423820b207"), looks := false }, kinds := [], alts := [], laidByText := true, laidKinds := [.data, .pinned], laidTests := true, laidLooks := .later }
def CardOrdersUptoCardSaid : Prop := Claim7.holds Tryd.pinned (.plain (OpenSpec.upto cardOrdersSpec)) cardOrdersUptoCard
end Rows
end Go.Proofs.YteiikkpajcggfaaDoor
