/-
  No cell of these rows narrows 'for every input' (looked for: loops, veiled, ifaces, maps, wideKeys, modest, calm, conditions, laid).
  DERIVED. THE GIVEN ROWS OF THIS SEAT. 6 by the template 'for every input the law returns true; each argument reads behind the call as it read before'; 0 by the template 'total and deterministic' (their statements: YtmoaabjiokjjlaaTotals.lean).
  GIVEN WITH THE SEED: the statements are not yours to turn. If you find one false, say at which input.
  Laid BY PROGRAM, IN A SANDBOX (cutbox-rows.mjs): the forced cells as the released guide's own fill.sh prints them over the translation 7a37cd8b068c75ea… (all of the seat's roots in one cut). By AI agents, Wed Nov 11 2026. No macro, syntax, notation, axiom, sorry.
-/
import Derived.Test.YtmoaabjiokjjlaaChecked
import GoSem.Claim
import GoSem.ClaimJoined
import GoSem.ClaimMapViews
import Derived.JoinedTies
import Derived.KernelRfl
namespace Go.Proofs.Ytmoaabjiokjjlaa
/- THE CELL 'sum', in the pinned program and in every row, IS THE sha256 OF THE DUMP (.gsa) THAT YtmoaabjiokjjlaaProg.lean LOADS. Nothing in Lean hashes anything: it is a label: what it is worth is what the hold of that sum in a sandbox is worth. -/
noncomputable def Try.pinned : Pinned := { name := "ytmoaabjiokjjlaa", sum := "7a37cd8b068c75eaaceb33f16f18719598f71e46bbe5000eb7d0778a4c672c0c", checked := Try.checked }
namespace Rows
def none {H : Type} : Left H := { results := [], args := [] }

/-- 'stemmalaw1.FsOrder': WHATEVER THE INPUT: true; the input reads as it did. -/
def fsOrderSpec : ChangeSpec := { name := "fsOrder", fn := fun _ => fun
  | [d1, d2, d3, d4] => { results := [.lit (.bool true)], args := [d1, d2, d3, d4] }
  | _ => none }
def fsOrderRow : OpenClaim := { program := "ytmoaabjiokjjlaa", sum := "7a37cd8b068c75eaaceb33f16f18719598f71e46bbe5000eb7d0778a4c672c0c", func := "stemma/stemmalaw1.FsOrder", spec := "fsOrder", inPlace := ["internal/bytealg.IndexByteString", "maps.clone"], unfollowed := true, recurses := true, apart := false }
def FsOrderSaid : Prop := fsOrderRow.holds Try.pinned (OpenSpec.ofChange fsOrderSpec)

/-- ITS FALSE NEIGHBOUR: 'it returns false'. Refute it at one input. -/
def fsOrderWrong : ChangeSpec := { name := "fsOrder", fn := fun _ => fun
  | [d1, d2, d3, d4] => { results := [.lit (.bool false)], args := [d1, d2, d3, d4] }
  | _ => none }
def FsOrderWrongFalsely : Prop := fsOrderRow.holds Try.pinned (OpenSpec.ofChange fsOrderWrong)

/-- 'stemmalaw1.FsRoom': WHATEVER THE INPUT: true; the input reads as it did. -/
def fsRoomSpec : ChangeSpec := { name := "fsRoom", fn := fun _ => fun
  | [d1, d2] => { results := [.lit (.bool true)], args := [d1, d2] }
  | _ => none }
def fsRoomRow : OpenClaim := { program := "ytmoaabjiokjjlaa", sum := "7a37cd8b068c75eaaceb33f16f18719598f71e46bbe5000eb7d0778a4c672c0c", func := "stemma/stemmalaw1.FsRoom", spec := "fsRoom", inPlace := ["internal/bytealg.IndexByteString", "maps.clone"], unfollowed := true, recurses := true, apart := false }
def FsRoomSaid : Prop := fsRoomRow.holds Try.pinned (OpenSpec.ofChange fsRoomSpec)

/-- ITS FALSE NEIGHBOUR: 'it returns false'. Refute it at one input. -/
def fsRoomWrong : ChangeSpec := { name := "fsRoom", fn := fun _ => fun
  | [d1, d2] => { results := [.lit (.bool false)], args := [d1, d2] }
  | _ => none }
def FsRoomWrongFalsely : Prop := fsRoomRow.holds Try.pinned (OpenSpec.ofChange fsRoomWrong)

/-- 'stemmalaw1.FsRenames': WHATEVER THE INPUT: true; the input reads as it did. -/
def fsRenamesSpec : ChangeSpec := { name := "fsRenames", fn := fun _ => fun
  | [d1, d2, d3, d4, d5] => { results := [.lit (.bool true)], args := [d1, d2, d3, d4, d5] }
  | _ => none }
def fsRenamesRow : OpenClaim := { program := "ytmoaabjiokjjlaa", sum := "7a37cd8b068c75eaaceb33f16f18719598f71e46bbe5000eb7d0778a4c672c0c", func := "stemma/stemmalaw1.FsRenames", spec := "fsRenames", inPlace := ["internal/bytealg.IndexByteString", "maps.clone"], unfollowed := true, recurses := true, apart := false }
def FsRenamesSaid : Prop := fsRenamesRow.holds Try.pinned (OpenSpec.ofChange fsRenamesSpec)

/-- ITS FALSE NEIGHBOUR: 'it returns false'. Refute it at one input. -/
def fsRenamesWrong : ChangeSpec := { name := "fsRenames", fn := fun _ => fun
  | [d1, d2, d3, d4, d5] => { results := [.lit (.bool false)], args := [d1, d2, d3, d4, d5] }
  | _ => none }
def FsRenamesWrongFalsely : Prop := fsRenamesRow.holds Try.pinned (OpenSpec.ofChange fsRenamesWrong)

/-- 'stemmalaw1.FsLasts': WHATEVER THE INPUT: true; the input reads as it did. -/
def fsLastsSpec : ChangeSpec := { name := "fsLasts", fn := fun _ => fun
  | [d1, d2, d3, d4] => { results := [.lit (.bool true)], args := [d1, d2, d3, d4] }
  | _ => none }
def fsLastsRow : OpenClaim := { program := "ytmoaabjiokjjlaa", sum := "7a37cd8b068c75eaaceb33f16f18719598f71e46bbe5000eb7d0778a4c672c0c", func := "stemma/stemmalaw1.FsLasts", spec := "fsLasts", inPlace := ["internal/bytealg.IndexByteString", "maps.clone"], unfollowed := true, recurses := true, apart := false }
def FsLastsSaid : Prop := fsLastsRow.holds Try.pinned (OpenSpec.ofChange fsLastsSpec)

/-- ITS FALSE NEIGHBOUR: 'it returns false'. Refute it at one input. -/
def fsLastsWrong : ChangeSpec := { name := "fsLasts", fn := fun _ => fun
  | [d1, d2, d3, d4] => { results := [.lit (.bool false)], args := [d1, d2, d3, d4] }
  | _ => none }
def FsLastsWrongFalsely : Prop := fsLastsRow.holds Try.pinned (OpenSpec.ofChange fsLastsWrong)

/-- 'stemmalaw1.FsApart': WHATEVER THE INPUT: true; the input reads as it did. -/
def fsApartSpec : ChangeSpec := { name := "fsApart", fn := fun _ => fun
  | [d1, d2] => { results := [.lit (.bool true)], args := [d1, d2] }
  | _ => none }
def fsApartRow : OpenClaim := { program := "ytmoaabjiokjjlaa", sum := "7a37cd8b068c75eaaceb33f16f18719598f71e46bbe5000eb7d0778a4c672c0c", func := "stemma/stemmalaw1.FsApart", spec := "fsApart", inPlace := ["internal/bytealg.IndexByteString", "maps.clone"], unfollowed := true, recurses := true, apart := false }
def FsApartSaid : Prop := fsApartRow.holds Try.pinned (OpenSpec.ofChange fsApartSpec)

/-- ITS FALSE NEIGHBOUR: 'it returns false'. Refute it at one input. -/
def fsApartWrong : ChangeSpec := { name := "fsApart", fn := fun _ => fun
  | [d1, d2] => { results := [.lit (.bool false)], args := [d1, d2] }
  | _ => none }
def FsApartWrongFalsely : Prop := fsApartRow.holds Try.pinned (OpenSpec.ofChange fsApartWrong)

/-- 'stemmalaw1.FsPlays': WHATEVER THE INPUT: true; the input reads as it did. -/
def fsPlaysSpec : ChangeSpec := { name := "fsPlays", fn := fun _ => fun
  | [d1, d2] => { results := [.lit (.bool true)], args := [d1, d2] }
  | _ => none }
def fsPlaysRow : OpenClaim := { program := "ytmoaabjiokjjlaa", sum := "7a37cd8b068c75eaaceb33f16f18719598f71e46bbe5000eb7d0778a4c672c0c", func := "stemma/stemmalaw1.FsPlays", spec := "fsPlays", inPlace := ["internal/bytealg.IndexByteString", "maps.clone"], unfollowed := true, recurses := true, apart := false }
def FsPlaysSaid : Prop := fsPlaysRow.holds Try.pinned (OpenSpec.ofChange fsPlaysSpec)

/-- ITS FALSE NEIGHBOUR: 'it returns false'. Refute it at one input. -/
def fsPlaysWrong : ChangeSpec := { name := "fsPlays", fn := fun _ => fun
  | [d1, d2] => { results := [.lit (.bool false)], args := [d1, d2] }
  | _ => none }
def FsPlaysWrongFalsely : Prop := fsPlaysRow.holds Try.pinned (OpenSpec.ofChange fsPlaysWrong)

/- THE SECOND FORM. 'bulk': how many values and letters a reading holds, each counted each time it is reached (what is shared counts as often as it is met; a slice's spare places count too). A statement '..UptoSaid' is the law's where the arguments, and the package variables that the reading takes, are together of bulk at most 1048576: NARROWER than '..Said'. Prove '..Said' where nothing that the law and all that it calls make is longer than what came in: it says more and counts as full. Else prove '..UptoSaid'. A law counts once. -/
mutual
def uptoBulk {H : Type} : DataW H → Nat
  | .lit (.string bytes) => bytes.length + 1
  | .lit _ => 1
  | .nil => 1
  | .ptr d => uptoBulk d + 1
  | .slice elems spare => uptoBulkAll elems + uptoBulkAll spare + 1
  | .agg parts => uptoBulkAll parts + 1
  | .iface _ d => uptoBulk d + 1
  | .map entries => uptoBulkEntries entries + 1
  | .held _ => 1
def uptoBulkAll {H : Type} : List (DataW H) → Nat
  | [] => 0
  | d :: r => uptoBulk d + uptoBulkAll r
def uptoBulkEntries {H : Type} : List (Lit × DataW H) → Nat
  | [] => 0
  | x :: r => uptoBulkEntry x + uptoBulkEntries r
def uptoBulkEntry {H : Type} : Lit × DataW H → Nat
  | (.string bytes, d) => bytes.length + uptoBulk d + 1
  | (_, d) => uptoBulk d + 1
 end
def uptoSmall : (H : Type) → List (DataW H) → Bool := fun _ ds => decide (uptoBulkAll ds ≤ 1048576)
def OpenSpec.upto (s : _root_.Go.ChangeSpec) : _root_.Go.OpenSpec := { _root_.Go.OpenSpec.ofChange s with cond := some uptoSmall }

/-- 'stemmalaw1.FsOrder', WHERE WHAT IT READS IS OF BULK AT MOST 1048576: true; the input reads as it did. -/
def fsOrderUptoRow : OpenClaim := { program := "ytmoaabjiokjjlaa", sum := "7a37cd8b068c75eaaceb33f16f18719598f71e46bbe5000eb7d0778a4c672c0c", func := "stemma/stemmalaw1.FsOrder", spec := "fsOrder", inPlace := ["internal/bytealg.IndexByteString", "maps.clone"], unfollowed := true, recurses := true, apart := false, narrowed := true }
def FsOrderUptoSaid : Prop := fsOrderUptoRow.holds Try.pinned (OpenSpec.upto fsOrderSpec)

/-- 'stemmalaw1.FsRoom', WHERE WHAT IT READS IS OF BULK AT MOST 1048576: true; the input reads as it did. -/
def fsRoomUptoRow : OpenClaim := { program := "ytmoaabjiokjjlaa", sum := "7a37cd8b068c75eaaceb33f16f18719598f71e46bbe5000eb7d0778a4c672c0c", func := "stemma/stemmalaw1.FsRoom", spec := "fsRoom", inPlace := ["internal/bytealg.IndexByteString", "maps.clone"], unfollowed := true, recurses := true, apart := false, narrowed := true }
def FsRoomUptoSaid : Prop := fsRoomUptoRow.holds Try.pinned (OpenSpec.upto fsRoomSpec)

/-- 'stemmalaw1.FsRenames', WHERE WHAT IT READS IS OF BULK AT MOST 1048576: true; the input reads as it did. -/
def fsRenamesUptoRow : OpenClaim := { program := "ytmoaabjiokjjlaa", sum := "7a37cd8b068c75eaaceb33f16f18719598f71e46bbe5000eb7d0778a4c672c0c", func := "stemma/stemmalaw1.FsRenames", spec := "fsRenames", inPlace := ["internal/bytealg.IndexByteString", "maps.clone"], unfollowed := true, recurses := true, apart := false, narrowed := true }
def FsRenamesUptoSaid : Prop := fsRenamesUptoRow.holds Try.pinned (OpenSpec.upto fsRenamesSpec)

/-- 'stemmalaw1.FsLasts', WHERE WHAT IT READS IS OF BULK AT MOST 1048576: true; the input reads as it did. -/
def fsLastsUptoRow : OpenClaim := { program := "ytmoaabjiokjjlaa", sum := "7a37cd8b068c75eaaceb33f16f18719598f71e46bbe5000eb7d0778a4c672c0c", func := "stemma/stemmalaw1.FsLasts", spec := "fsLasts", inPlace := ["internal/bytealg.IndexByteString", "maps.clone"], unfollowed := true, recurses := true, apart := false, narrowed := true }
def FsLastsUptoSaid : Prop := fsLastsUptoRow.holds Try.pinned (OpenSpec.upto fsLastsSpec)

/-- 'stemmalaw1.FsApart', WHERE WHAT IT READS IS OF BULK AT MOST 1048576: true; the input reads as it did. -/
def fsApartUptoRow : OpenClaim := { program := "ytmoaabjiokjjlaa", sum := "7a37cd8b068c75eaaceb33f16f18719598f71e46bbe5000eb7d0778a4c672c0c", func := "stemma/stemmalaw1.FsApart", spec := "fsApart", inPlace := ["internal/bytealg.IndexByteString", "maps.clone"], unfollowed := true, recurses := true, apart := false, narrowed := true }
def FsApartUptoSaid : Prop := fsApartUptoRow.holds Try.pinned (OpenSpec.upto fsApartSpec)

/-- 'stemmalaw1.FsPlays', WHERE WHAT IT READS IS OF BULK AT MOST 1048576: true; the input reads as it did. -/
def fsPlaysUptoRow : OpenClaim := { program := "ytmoaabjiokjjlaa", sum := "7a37cd8b068c75eaaceb33f16f18719598f71e46bbe5000eb7d0778a4c672c0c", func := "stemma/stemmalaw1.FsPlays", spec := "fsPlays", inPlace := ["internal/bytealg.IndexByteString", "maps.clone"], unfollowed := true, recurses := true, apart := false, narrowed := true }
def FsPlaysUptoSaid : Prop := fsPlaysUptoRow.holds Try.pinned (OpenSpec.upto fsPlaysSpec)

end Rows
end Go.Proofs.Ytmoaabjiokjjlaa
