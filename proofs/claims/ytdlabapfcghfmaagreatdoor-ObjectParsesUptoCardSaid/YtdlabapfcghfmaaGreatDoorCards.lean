/-
  DERIVED. GIVEN WITH THE SEED: THE CARDS: each row of YtdlabapfcghfmaaGreatDoorRows.lean that lists a variable, with what it lists TIED to the program's text (the seventh form; the later family's looks); each row that meets fmt, with fmt's text TOLD by the authors' own Lean function (tested against real Go, not proved from fmt's source: count such statements apart). THE CARD IS WHAT COUNTS. Prove the row's statement (the work); the ties are given (YtdlabapfcghfmaaGreatDoorTie.lean); close each card by the builder's one call (the guide's Derived/Test/ToyasCard.lean, 'card_holds'). Laid BY PROGRAM, IN A SANDBOX (cutbox-door.mjs). By AI agents, Wed Nov 11 2026. No macro, syntax, notation, axiom, sorry.
-/
import Derived.Test.YtdlabapfcghfmaaGreatDoorRows
import GoSem.ClaimSeven
namespace Go.Proofs.YtdlabapfcghfmaaGreatDoor
namespace Rows

/-- THE TIED CARD OF 'stemmalaw8.ObjectTrees'. -/
def objectTreesCard : Claim7 := { stood := { row := objectTreesRow, standIns := [], harness := (true, "ae08c05b59d469d247ac957207bc17975dab9dd0588f873b07b625bfdf61e1a8"), looks := true }, kinds := [], alts := [], laidByText := true, laidKinds := [.data, .data, .data, .data, .pinned], laidTests := true, laidLooks := .later }
def ObjectTreesCardSaid : Prop := Claim7.holds Tryz.pinned (.plain (OpenSpec.ofChange objectTreesSpec)) objectTreesCard

/-- THE TIED CARD OF 'stemmalaw8.ObjectGit'. -/
def objectGitCard : Claim7 := { stood := { row := objectGitRow, standIns := [], harness := (true, "ae08c05b59d469d247ac957207bc17975dab9dd0588f873b07b625bfdf61e1a8"), looks := true }, kinds := [], alts := [], laidByText := true, laidKinds := [.data, .data, .data, .data, .pinned], laidTests := true, laidLooks := .later }
def ObjectGitCardSaid : Prop := Claim7.holds Tryz.pinned (.plain (OpenSpec.ofChange objectGitSpec)) objectGitCard

/-- THE TIED CARD OF 'stemmalaw8.ObjectBack'. -/
def objectBackCard : Claim7 := { stood := { row := objectBackRow, standIns := [], harness := (true, "ae08c05b59d469d247ac957207bc17975dab9dd0588f873b07b625bfdf61e1a8"), looks := true }, kinds := [], alts := [], laidByText := true, laidKinds := [.data, .data, .data, .data, .pinned], laidTests := true, laidLooks := .later }
def ObjectBackCardSaid : Prop := Claim7.holds Tryz.pinned (.plain (OpenSpec.ofChange objectBackSpec)) objectBackCard

/-- THE TIED CARD OF 'stemmalaw8.ObjectLent'. -/
def objectLentCard : Claim7 := { stood := { row := objectLentRow, standIns := [], harness := (true, "ae08c05b59d469d247ac957207bc17975dab9dd0588f873b07b625bfdf61e1a8"), looks := true }, kinds := [], alts := [], laidByText := true, laidKinds := [.data, .data, .data, .data, .pinned], laidTests := true, laidLooks := .later }
def ObjectLentCardSaid : Prop := Claim7.holds Tryz.pinned (.plain (OpenSpec.ofChange objectLentSpec)) objectLentCard

/-- THE TIED CARD OF 'stemmalaw8.ObjectParses'. -/
def objectParsesCard : Claim7 := { stood := { row := objectParsesRow, standIns := [], harness := (true, "ae08c05b59d469d247ac957207bc17975dab9dd0588f873b07b625bfdf61e1a8"), looks := true }, kinds := [], alts := [], laidByText := true, laidKinds := [.data, .data, .data, .data, .pinned], laidTests := true, laidLooks := .later }
def ObjectParsesCardSaid : Prop := Claim7.holds Tryz.pinned (.plain (OpenSpec.ofChange objectParsesSpec)) objectParsesCard

/-- THE SECOND FORM's CARD OF 'stemmalaw8.ObjectTrees'. -/
def objectTreesUptoCard : Claim7 := { stood := { row := objectTreesUptoRow, standIns := [], harness := (true, "ae08c05b59d469d247ac957207bc17975dab9dd0588f873b07b625bfdf61e1a8"), looks := true }, kinds := [], alts := [], laidByText := true, laidKinds := [.data, .data, .data, .data, .pinned], laidTests := true, laidLooks := .later }
def ObjectTreesUptoCardSaid : Prop := Claim7.holds Tryz.pinned (.plain (OpenSpec.upto objectTreesSpec)) objectTreesUptoCard

/-- THE SECOND FORM's CARD OF 'stemmalaw8.ObjectGit'. -/
def objectGitUptoCard : Claim7 := { stood := { row := objectGitUptoRow, standIns := [], harness := (true, "ae08c05b59d469d247ac957207bc17975dab9dd0588f873b07b625bfdf61e1a8"), looks := true }, kinds := [], alts := [], laidByText := true, laidKinds := [.data, .data, .data, .data, .pinned], laidTests := true, laidLooks := .later }
def ObjectGitUptoCardSaid : Prop := Claim7.holds Tryz.pinned (.plain (OpenSpec.upto objectGitSpec)) objectGitUptoCard

/-- THE SECOND FORM's CARD OF 'stemmalaw8.ObjectBack'. -/
def objectBackUptoCard : Claim7 := { stood := { row := objectBackUptoRow, standIns := [], harness := (true, "ae08c05b59d469d247ac957207bc17975dab9dd0588f873b07b625bfdf61e1a8"), looks := true }, kinds := [], alts := [], laidByText := true, laidKinds := [.data, .data, .data, .data, .pinned], laidTests := true, laidLooks := .later }
def ObjectBackUptoCardSaid : Prop := Claim7.holds Tryz.pinned (.plain (OpenSpec.upto objectBackSpec)) objectBackUptoCard

/-- THE SECOND FORM's CARD OF 'stemmalaw8.ObjectLent'. -/
def objectLentUptoCard : Claim7 := { stood := { row := objectLentUptoRow, standIns := [], harness := (true, "ae08c05b59d469d247ac957207bc17975dab9dd0588f873b07b625bfdf61e1a8"), looks := true }, kinds := [], alts := [], laidByText := true, laidKinds := [.data, .data, .data, .data, .pinned], laidTests := true, laidLooks := .later }
def ObjectLentUptoCardSaid : Prop := Claim7.holds Tryz.pinned (.plain (OpenSpec.upto objectLentSpec)) objectLentUptoCard

/-- THE SECOND FORM's CARD OF 'stemmalaw8.ObjectParses'. -/
def objectParsesUptoCard : Claim7 := { stood := { row := objectParsesUptoRow, standIns := [], harness := (true, "ae08c05b59d469d247ac957207bc17975dab9dd0588f873b07b625bfdf61e1a8"), looks := true }, kinds := [], alts := [], laidByText := true, laidKinds := [.data, .data, .data, .data, .pinned], laidTests := true, laidLooks := .later }
def ObjectParsesUptoCardSaid : Prop := Claim7.holds Tryz.pinned (.plain (OpenSpec.upto objectParsesSpec)) objectParsesUptoCard
end Rows
end Go.Proofs.YtdlabapfcghfmaaGreatDoor
