/-
  DERIVED. GIVEN WITH THE SEED: THE CARDS: each row of YtihanglnjghcfaaGreatDoorRows.lean that lists a variable, with what it lists TIED to the program's text (the seventh form; the later family's looks); each row that meets fmt, with fmt's text TOLD by the authors' own Lean function (tested against real Go, not proved from fmt's source: count such statements apart). THE CARD IS WHAT COUNTS. Prove the row's statement (the work); the ties are given (YtihanglnjghcfaaGreatDoorTie.lean); close each card by the builder's one call (the guide's Derived/Test/ToyasCard.lean, 'card_holds'). Laid BY PROGRAM, IN A SANDBOX (cutbox-door.mjs). By AI agents, Wed Nov 11 2026. No macro, syntax, notation, axiom, sorry.
-/
import Derived.Test.YtihanglnjghcfaaGreatDoorRows
import GoSem.ClaimSeven
namespace Go.Proofs.YtihanglnjghcfaaGreatDoor
namespace Rows

/-- THE TIED CARD OF 'stemmalaw16.GraphWalks'. -/
def graphWalksCard : Claim7 := { stood := { row := graphWalksRow, standIns := [], harness := (true, "55575e36d5264eb34321b76685ea6c93513b03c6b66c5e50bb6d3db080eb8388"), looks := true }, kinds := [], alts := [], laidByText := true, laidKinds := [.data, .pinned], laidTests := true, laidLooks := .later }
def GraphWalksCardSaid : Prop := Claim7.holds Tryz.pinned (.plain (OpenSpec.ofChange graphWalksSpec)) graphWalksCard

/-- THE TIED CARD OF 'stemmalaw16.GraphOnce'. -/
def graphOnceCard : Claim7 := { stood := { row := graphOnceRow, standIns := [], harness := (true, "55575e36d5264eb34321b76685ea6c93513b03c6b66c5e50bb6d3db080eb8388"), looks := true }, kinds := [], alts := [], laidByText := true, laidKinds := [.data, .pinned], laidTests := true, laidLooks := .later }
def GraphOnceCardSaid : Prop := Claim7.holds Tryz.pinned (.plain (OpenSpec.ofChange graphOnceSpec)) graphOnceCard

/-- THE TIED CARD OF 'stemmalaw16.GraphTags'. -/
def graphTagsCard : Claim7 := { stood := { row := graphTagsRow, standIns := [], harness := (true, "55575e36d5264eb34321b76685ea6c93513b03c6b66c5e50bb6d3db080eb8388"), looks := true }, kinds := [], alts := [], laidByText := true, laidKinds := [.data, .pinned], laidTests := true, laidLooks := .later }
def GraphTagsCardSaid : Prop := Claim7.holds Tryz.pinned (.plain (OpenSpec.ofChange graphTagsSpec)) graphTagsCard

/-- THE TIED CARD OF 'stemmalaw16.GraphAges'. -/
def graphAgesCard : Claim7 := { stood := { row := graphAgesRow, standIns := [], harness := (true, "55575e36d5264eb34321b76685ea6c93513b03c6b66c5e50bb6d3db080eb8388"), looks := true }, kinds := [], alts := [], laidByText := true, laidKinds := [.data, .pinned], laidTests := true, laidLooks := .later }
def GraphAgesCardSaid : Prop := Claim7.holds Tryz.pinned (.plain (OpenSpec.ofChange graphAgesSpec)) graphAgesCard

/-- THE TIED CARD OF 'stemmalaw16.GraphCuts'. -/
def graphCutsCard : Claim7 := { stood := { row := graphCutsRow, standIns := [], harness := (true, "55575e36d5264eb34321b76685ea6c93513b03c6b66c5e50bb6d3db080eb8388"), looks := true }, kinds := [], alts := [], laidByText := true, laidKinds := [.data, .pinned], laidTests := true, laidLooks := .later }
def GraphCutsCardSaid : Prop := Claim7.holds Tryz.pinned (.plain (OpenSpec.ofChange graphCutsSpec)) graphCutsCard

/-- THE TIED CARD OF 'stemmalaw16.GraphClosed'. -/
def graphClosedCard : Claim7 := { stood := { row := graphClosedRow, standIns := [], harness := (true, "55575e36d5264eb34321b76685ea6c93513b03c6b66c5e50bb6d3db080eb8388"), looks := true }, kinds := [], alts := [], laidByText := true, laidKinds := [.data, .pinned], laidTests := true, laidLooks := .later }
def GraphClosedCardSaid : Prop := Claim7.holds Tryz.pinned (.plain (OpenSpec.ofChange graphClosedSpec)) graphClosedCard

/-- THE TIED CARD OF 'stemmalaw16.GraphLines'. -/
def graphLinesCard : Claim7 := { stood := { row := graphLinesRow, standIns := [], harness := (true, "55575e36d5264eb34321b76685ea6c93513b03c6b66c5e50bb6d3db080eb8388"), looks := true }, kinds := [], alts := [], laidByText := true, laidKinds := [.data, .pinned], laidTests := true, laidLooks := .later }
def GraphLinesCardSaid : Prop := Claim7.holds Tryz.pinned (.plain (OpenSpec.ofChange graphLinesSpec)) graphLinesCard

/-- THE SECOND FORM's CARD OF 'stemmalaw16.GraphWalks'. -/
def graphWalksUptoCard : Claim7 := { stood := { row := graphWalksUptoRow, standIns := [], harness := (true, "55575e36d5264eb34321b76685ea6c93513b03c6b66c5e50bb6d3db080eb8388"), looks := true }, kinds := [], alts := [], laidByText := true, laidKinds := [.data, .pinned], laidTests := true, laidLooks := .later }
def GraphWalksUptoCardSaid : Prop := Claim7.holds Tryz.pinned (.plain (OpenSpec.upto graphWalksSpec)) graphWalksUptoCard

/-- THE SECOND FORM's CARD OF 'stemmalaw16.GraphOnce'. -/
def graphOnceUptoCard : Claim7 := { stood := { row := graphOnceUptoRow, standIns := [], harness := (true, "55575e36d5264eb34321b76685ea6c93513b03c6b66c5e50bb6d3db080eb8388"), looks := true }, kinds := [], alts := [], laidByText := true, laidKinds := [.data, .pinned], laidTests := true, laidLooks := .later }
def GraphOnceUptoCardSaid : Prop := Claim7.holds Tryz.pinned (.plain (OpenSpec.upto graphOnceSpec)) graphOnceUptoCard

/-- THE SECOND FORM's CARD OF 'stemmalaw16.GraphTags'. -/
def graphTagsUptoCard : Claim7 := { stood := { row := graphTagsUptoRow, standIns := [], harness := (true, "55575e36d5264eb34321b76685ea6c93513b03c6b66c5e50bb6d3db080eb8388"), looks := true }, kinds := [], alts := [], laidByText := true, laidKinds := [.data, .pinned], laidTests := true, laidLooks := .later }
def GraphTagsUptoCardSaid : Prop := Claim7.holds Tryz.pinned (.plain (OpenSpec.upto graphTagsSpec)) graphTagsUptoCard

/-- THE SECOND FORM's CARD OF 'stemmalaw16.GraphAges'. -/
def graphAgesUptoCard : Claim7 := { stood := { row := graphAgesUptoRow, standIns := [], harness := (true, "55575e36d5264eb34321b76685ea6c93513b03c6b66c5e50bb6d3db080eb8388"), looks := true }, kinds := [], alts := [], laidByText := true, laidKinds := [.data, .pinned], laidTests := true, laidLooks := .later }
def GraphAgesUptoCardSaid : Prop := Claim7.holds Tryz.pinned (.plain (OpenSpec.upto graphAgesSpec)) graphAgesUptoCard

/-- THE SECOND FORM's CARD OF 'stemmalaw16.GraphCuts'. -/
def graphCutsUptoCard : Claim7 := { stood := { row := graphCutsUptoRow, standIns := [], harness := (true, "55575e36d5264eb34321b76685ea6c93513b03c6b66c5e50bb6d3db080eb8388"), looks := true }, kinds := [], alts := [], laidByText := true, laidKinds := [.data, .pinned], laidTests := true, laidLooks := .later }
def GraphCutsUptoCardSaid : Prop := Claim7.holds Tryz.pinned (.plain (OpenSpec.upto graphCutsSpec)) graphCutsUptoCard

/-- THE SECOND FORM's CARD OF 'stemmalaw16.GraphClosed'. -/
def graphClosedUptoCard : Claim7 := { stood := { row := graphClosedUptoRow, standIns := [], harness := (true, "55575e36d5264eb34321b76685ea6c93513b03c6b66c5e50bb6d3db080eb8388"), looks := true }, kinds := [], alts := [], laidByText := true, laidKinds := [.data, .pinned], laidTests := true, laidLooks := .later }
def GraphClosedUptoCardSaid : Prop := Claim7.holds Tryz.pinned (.plain (OpenSpec.upto graphClosedSpec)) graphClosedUptoCard

/-- THE SECOND FORM's CARD OF 'stemmalaw16.GraphLines'. -/
def graphLinesUptoCard : Claim7 := { stood := { row := graphLinesUptoRow, standIns := [], harness := (true, "55575e36d5264eb34321b76685ea6c93513b03c6b66c5e50bb6d3db080eb8388"), looks := true }, kinds := [], alts := [], laidByText := true, laidKinds := [.data, .pinned], laidTests := true, laidLooks := .later }
def GraphLinesUptoCardSaid : Prop := Claim7.holds Tryz.pinned (.plain (OpenSpec.upto graphLinesSpec)) graphLinesUptoCard
end Rows
end Go.Proofs.YtihanglnjghcfaaGreatDoor
