/-
  DERIVED. GIVEN WITH THE SEED: THE CARDS: each row of YtdlabapfcghfmaaDoorRows.lean that lists a variable, with what it lists TIED to the program's text (the seventh form; the later family's looks); each row that meets fmt, with fmt's text TOLD by the authors' own Lean function (tested against real Go, not proved from fmt's source: count such statements apart). THE CARD IS WHAT COUNTS. Prove the row's statement (the work); the ties are given (YtdlabapfcghfmaaDoorTie.lean); close each card by the builder's one call (the guide's Derived/Test/ToyasCard.lean, 'card_holds'). Laid BY PROGRAM, IN A SANDBOX (cutbox-door.mjs). By AI agents, Wed Nov 11 2026. No macro, syntax, notation, axiom, sorry.
-/
import Derived.Test.YtdlabapfcghfmaaDoorRows
import GoSem.ClaimSeven
namespace Go.Proofs.YtdlabapfcghfmaaDoor
namespace Rows

/-- THE TIED CARD OF 'stemmalaw8.ObjectOrder'. -/
def objectOrderCard : Claim7 := { stood := { row := objectOrderRow, standIns := [], harness := (true, "3de56e44ca8b736af901e67b6edbe1ea52279f7cfba1392395718469f8c0b3e5"), looks := false }, kinds := [], alts := [], laidByText := true, laidKinds := [.data, .data, .data, .data, .pinned], laidTests := true, laidLooks := .later }
def ObjectOrderCardSaid : Prop := Claim7.holds Tryd.pinned (.plain (OpenSpec.ofChange objectOrderSpec)) objectOrderCard

/-- THE TIED CARD OF 'stemmalaw8.ObjectNames'. -/
def objectNamesCard : Claim7 := { stood := { row := objectNamesRow, standIns := [], harness := (true, "3de56e44ca8b736af901e67b6edbe1ea52279f7cfba1392395718469f8c0b3e5"), looks := false }, kinds := [], alts := [], laidByText := true, laidKinds := [.data, .data, .data, .data, .pinned], laidTests := true, laidLooks := .later }
def ObjectNamesCardSaid : Prop := Claim7.holds Tryd.pinned (.plain (OpenSpec.ofChange objectNamesSpec)) objectNamesCard

/-- THE TIED CARD OF 'stemmalaw8.ObjectPrints'. -/
def objectPrintsCard : Claim7 := { stood := { row := objectPrintsRow, standIns := [], harness := (true, "3de56e44ca8b736af901e67b6edbe1ea52279f7cfba1392395718469f8c0b3e5"), looks := false }, kinds := [], alts := [], laidByText := true, laidKinds := [.data, .data, .data, .data, .pinned], laidTests := true, laidLooks := .later }
def ObjectPrintsCardSaid : Prop := Claim7.holds Tryd.pinned (.plain (OpenSpec.ofChange objectPrintsSpec)) objectPrintsCard

/-- THE SECOND FORM's CARD OF 'stemmalaw8.ObjectOrder'. -/
def objectOrderUptoCard : Claim7 := { stood := { row := objectOrderUptoRow, standIns := [], harness := (true, "3de56e44ca8b736af901e67b6edbe1ea52279f7cfba1392395718469f8c0b3e5"), looks := false }, kinds := [], alts := [], laidByText := true, laidKinds := [.data, .data, .data, .data, .pinned], laidTests := true, laidLooks := .later }
def ObjectOrderUptoCardSaid : Prop := Claim7.holds Tryd.pinned (.plain (OpenSpec.upto objectOrderSpec)) objectOrderUptoCard

/-- THE SECOND FORM's CARD OF 'stemmalaw8.ObjectNames'. -/
def objectNamesUptoCard : Claim7 := { stood := { row := objectNamesUptoRow, standIns := [], harness := (true, "3de56e44ca8b736af901e67b6edbe1ea52279f7cfba1392395718469f8c0b3e5"), looks := false }, kinds := [], alts := [], laidByText := true, laidKinds := [.data, .data, .data, .data, .pinned], laidTests := true, laidLooks := .later }
def ObjectNamesUptoCardSaid : Prop := Claim7.holds Tryd.pinned (.plain (OpenSpec.upto objectNamesSpec)) objectNamesUptoCard

/-- THE SECOND FORM's CARD OF 'stemmalaw8.ObjectPrints'. -/
def objectPrintsUptoCard : Claim7 := { stood := { row := objectPrintsUptoRow, standIns := [], harness := (true, "3de56e44ca8b736af901e67b6edbe1ea52279f7cfba1392395718469f8c0b3e5"), looks := false }, kinds := [], alts := [], laidByText := true, laidKinds := [.data, .data, .data, .data, .pinned], laidTests := true, laidLooks := .later }
def ObjectPrintsUptoCardSaid : Prop := Claim7.holds Tryd.pinned (.plain (OpenSpec.upto objectPrintsSpec)) objectPrintsUptoCard
end Rows
end Go.Proofs.YtdlabapfcghfmaaDoor
