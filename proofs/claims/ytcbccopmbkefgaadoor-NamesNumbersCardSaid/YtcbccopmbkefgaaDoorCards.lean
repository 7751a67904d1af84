/-
  DERIVED. GIVEN WITH THE SEED: THE CARDS: each row of YtcbccopmbkefgaaDoorRows.lean that lists a variable, with what it lists TIED to the program's text (the seventh form; the later family's looks); each row that meets fmt, with fmt's text TOLD by the authors' own Lean function (tested against real Go, not proved from fmt's source: count such statements apart). THE CARD IS WHAT COUNTS. Prove the row's statement (the work); the ties are given (YtcbccopmbkefgaaDoorTie.lean); close each card by the builder's one call (the guide's Derived/Test/ToyasCard.lean, 'card_holds'). Laid BY PROGRAM, IN A SANDBOX (cutbox-door.mjs). By AI agents, Wed Nov 11 2026. No macro, syntax, notation, axiom, sorry.
-/
import Derived.Test.YtcbccopmbkefgaaDoorRows
import GoSem.ClaimSeven
namespace Go.Proofs.YtcbccopmbkefgaaDoor
namespace Rows

/-- THE TIED CARD OF 'stemmalaw0.NamesNumbers'. -/
def namesNumbersCard : Claim7 := { stood := { row := namesNumbersRow, standIns := [], harness := (true, "ece42197a4aabf72748d950cd494bcf833a5b8511796d21c0b12010676595d9f"), looks := false }, kinds := [], alts := [], laidByText := true, laidKinds := [.data, .data, .data], laidTests := true, laidLooks := .later }
def NamesNumbersCardSaid : Prop := Claim7.holds Tryd.pinned (.plain (OpenSpec.ofChange namesNumbersSpec)) namesNumbersCard

/-- THE SECOND FORM's CARD OF 'stemmalaw0.NamesNumbers'. -/
def namesNumbersUptoCard : Claim7 := { stood := { row := namesNumbersUptoRow, standIns := [], harness := (true, "ece42197a4aabf72748d950cd494bcf833a5b8511796d21c0b12010676595d9f"), looks := false }, kinds := [], alts := [], laidByText := true, laidKinds := [.data, .data, .data], laidTests := true, laidLooks := .later }
def NamesNumbersUptoCardSaid : Prop := Claim7.holds Tryd.pinned (.plain (OpenSpec.upto namesNumbersSpec)) namesNumbersUptoCard
end Rows
end Go.Proofs.YtcbccopmbkefgaaDoor
