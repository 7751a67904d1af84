/-
  NARROWER THAN 'FOR EVERY INPUT', by the rows' own cells (each row's printed sentence says how): GraphWalks: laid · GraphOnce: laid · GraphTags: laid · GraphAges: laid · GraphCuts: laid · GraphClosed: laid · GraphLines: laid.
  DERIVED. THE GIVEN ROWS OF THIS SEAT. 7 by the template 'for every input the law returns true; each argument reads behind the call as it read before'; 0 by the template 'total and deterministic' (their statements: YtihanglnjghcfaaGreatDoorTotals.lean).
  GIVEN WITH THE SEED: the statements are not yours to turn. If you find one false, say at which input.
  Laid BY PROGRAM, IN A SANDBOX (cutbox-rows.mjs): the forced cells as the released guide's own fill.sh prints them over the translation 6eab582d82eb9079… (all of the seat's roots in one cut). By AI agents, Wed Nov 11 2026. No macro, syntax, notation, axiom, sorry.
-/
import Derived.Test.YtihanglnjghcfaaGreatDoorChecked
import GoSem.PinnedTables
import GoSem.Claim
import GoSem.ClaimJoined
import GoSem.ClaimMapViews
import Derived.JoinedTies
import Derived.KernelRfl
namespace Go.Proofs.YtihanglnjghcfaaGreatDoor
/- THE CELL 'sum', in the pinned program and in every row, IS THE sha256 OF THE DUMP (.gsa) THAT YtihanglnjghcfaaGreatDoorProg.lean LOADS. Nothing in Lean hashes anything: it is a label: what it is worth is what the hold of that sum in a sandbox is worth. -/
noncomputable def Tryz.pinned : Pinned := { name := "ytihanglnjghcfaagreatdoor", sum := "6eab582d82eb90797dc0a9acde877736922275408f917c36b2883d85f2ca639c", checked := Tryz.checked }
namespace Rows
def none {H : Type} : Left H := { results := [], args := [] }

/- WHAT THE LISTED PACKAGE-LEVEL VARIABLES READ AS WHEN THE CALL BEGINS. Each datum BY PROGRAM (the guide's laid-datum.mjs) off the statement by which the dump's own 'gosem.cut.vars' lays the variable. In a bare row this is a premise. The card (YtihanglnjghcfaaGreatDoorCards.lean) ties it to the program's text. -/
def laid_unicode_utf8_acceptRanges {H : Type} : DataW H := .agg [.agg [.lit (.int .u8 128), .lit (.int .u8 191)], .agg [.lit (.int .u8 160), .lit (.int .u8 191)], .agg [.lit (.int .u8 128), .lit (.int .u8 159)], .agg [.lit (.int .u8 144), .lit (.int .u8 191)], .agg [.lit (.int .u8 128), .lit (.int .u8 143)], .agg [.lit (.int .u8 0), .lit (.int .u8 0)], .agg [.lit (.int .u8 0), .lit (.int .u8 0)], .agg [.lit (.int .u8 0), .lit (.int .u8 0)], .agg [.lit (.int .u8 0), .lit (.int .u8 0)], .agg [.lit (.int .u8 0), .lit (.int .u8 0)], .agg [.lit (.int .u8 0), .lit (.int .u8 0)], .agg [.lit (.int .u8 0), .lit (.int .u8 0)], .agg [.lit (.int .u8 0), .lit (.int .u8 0)], .agg [.lit (.int .u8 0), .lit (.int .u8 0)], .agg [.lit (.int .u8 0), .lit (.int .u8 0)], .agg [.lit (.int .u8 0), .lit (.int .u8 0)]]
/-- One of Go's own tables, pinned by name: the form's constant. -/
def laid_unicode_utf8_first : DataW Unit := Go.Pinned.utf8First

/-- 'stemmalaw16.GraphWalks': WHATEVER THE INPUT: true; the input reads as it did. -/
def graphWalksSpec : ChangeSpec := { name := "graphWalks", fn := fun _ => fun
  | [d1, d2, d3, d4, d5] => { results := [.lit (.bool true)], args := [d1, d2, d3, d4, d5] }
  | _ => none }
def graphWalksRow : OpenClaim := { program := "ytihanglnjghcfaagreatdoor", sum := "6eab582d82eb90797dc0a9acde877736922275408f917c36b2883d85f2ca639c", func := "stemma/stemmalaw16.GraphWalks", spec := "graphWalks", inPlace := ["internal/bytealg.IndexByte", "internal/bytealg.IndexByteString", "internal/bytealg.IndexString"], unfollowed := true, recurses := true, named := ["unicode/utf8.first", "unicode/utf8.acceptRanges", "internal/bytealg.MaxLen"], apart := false, laid := [("unicode/utf8.acceptRanges", laid_unicode_utf8_acceptRanges), ("unicode/utf8.first", laid_unicode_utf8_first)] }
def GraphWalksSaid : Prop := graphWalksRow.holds Tryz.pinned (OpenSpec.ofChange graphWalksSpec)

/-- ITS FALSE NEIGHBOUR: 'it returns false'. Refute it at one input. -/
def graphWalksWrong : ChangeSpec := { name := "graphWalks", fn := fun _ => fun
  | [d1, d2, d3, d4, d5] => { results := [.lit (.bool false)], args := [d1, d2, d3, d4, d5] }
  | _ => none }
def GraphWalksWrongFalsely : Prop := graphWalksRow.holds Tryz.pinned (OpenSpec.ofChange graphWalksWrong)

/-- 'stemmalaw16.GraphOnce': WHATEVER THE INPUT: true; the input reads as it did. -/
def graphOnceSpec : ChangeSpec := { name := "graphOnce", fn := fun _ => fun
  | [d1, d2] => { results := [.lit (.bool true)], args := [d1, d2] }
  | _ => none }
def graphOnceRow : OpenClaim := { program := "ytihanglnjghcfaagreatdoor", sum := "6eab582d82eb90797dc0a9acde877736922275408f917c36b2883d85f2ca639c", func := "stemma/stemmalaw16.GraphOnce", spec := "graphOnce", inPlace := ["internal/bytealg.IndexByte", "internal/bytealg.IndexByteString", "internal/bytealg.IndexString"], unfollowed := true, recurses := true, named := ["unicode/utf8.first", "unicode/utf8.acceptRanges", "internal/bytealg.MaxLen"], apart := false, laid := [("unicode/utf8.acceptRanges", laid_unicode_utf8_acceptRanges), ("unicode/utf8.first", laid_unicode_utf8_first)] }
def GraphOnceSaid : Prop := graphOnceRow.holds Tryz.pinned (OpenSpec.ofChange graphOnceSpec)

/-- ITS FALSE NEIGHBOUR: 'it returns false'. Refute it at one input. -/
def graphOnceWrong : ChangeSpec := { name := "graphOnce", fn := fun _ => fun
  | [d1, d2] => { results := [.lit (.bool false)], args := [d1, d2] }
  | _ => none }
def GraphOnceWrongFalsely : Prop := graphOnceRow.holds Tryz.pinned (OpenSpec.ofChange graphOnceWrong)

/-- 'stemmalaw16.GraphTags': WHATEVER THE INPUT: true; the input reads as it did. -/
def graphTagsSpec : ChangeSpec := { name := "graphTags", fn := fun _ => fun
  | [d] => { results := [.lit (.bool true)], args := [d] }
  | _ => none }
def graphTagsRow : OpenClaim := { program := "ytihanglnjghcfaagreatdoor", sum := "6eab582d82eb90797dc0a9acde877736922275408f917c36b2883d85f2ca639c", func := "stemma/stemmalaw16.GraphTags", spec := "graphTags", inPlace := ["internal/bytealg.IndexByte", "internal/bytealg.IndexByteString", "internal/bytealg.IndexString"], unfollowed := true, recurses := true, named := ["unicode/utf8.first", "unicode/utf8.acceptRanges", "internal/bytealg.MaxLen"], apart := false, laid := [("unicode/utf8.acceptRanges", laid_unicode_utf8_acceptRanges), ("unicode/utf8.first", laid_unicode_utf8_first)] }
def GraphTagsSaid : Prop := graphTagsRow.holds Tryz.pinned (OpenSpec.ofChange graphTagsSpec)

/-- ITS FALSE NEIGHBOUR: 'it returns false'. Refute it at one input. -/
def graphTagsWrong : ChangeSpec := { name := "graphTags", fn := fun _ => fun
  | [d] => { results := [.lit (.bool false)], args := [d] }
  | _ => none }
def GraphTagsWrongFalsely : Prop := graphTagsRow.holds Tryz.pinned (OpenSpec.ofChange graphTagsWrong)

/-- 'stemmalaw16.GraphAges': WHATEVER THE INPUT: true; the input reads as it did. -/
def graphAgesSpec : ChangeSpec := { name := "graphAges", fn := fun _ => fun
  | [d1, d2, d3, d4, d5] => { results := [.lit (.bool true)], args := [d1, d2, d3, d4, d5] }
  | _ => none }
def graphAgesRow : OpenClaim := { program := "ytihanglnjghcfaagreatdoor", sum := "6eab582d82eb90797dc0a9acde877736922275408f917c36b2883d85f2ca639c", func := "stemma/stemmalaw16.GraphAges", spec := "graphAges", inPlace := ["internal/bytealg.IndexByte", "internal/bytealg.IndexByteString", "internal/bytealg.IndexString"], unfollowed := true, recurses := true, named := ["unicode/utf8.first", "unicode/utf8.acceptRanges", "internal/bytealg.MaxLen"], apart := false, laid := [("unicode/utf8.acceptRanges", laid_unicode_utf8_acceptRanges), ("unicode/utf8.first", laid_unicode_utf8_first)] }
def GraphAgesSaid : Prop := graphAgesRow.holds Tryz.pinned (OpenSpec.ofChange graphAgesSpec)

/-- ITS FALSE NEIGHBOUR: 'it returns false'. Refute it at one input. -/
def graphAgesWrong : ChangeSpec := { name := "graphAges", fn := fun _ => fun
  | [d1, d2, d3, d4, d5] => { results := [.lit (.bool false)], args := [d1, d2, d3, d4, d5] }
  | _ => none }
def GraphAgesWrongFalsely : Prop := graphAgesRow.holds Tryz.pinned (OpenSpec.ofChange graphAgesWrong)

/-- 'stemmalaw16.GraphCuts': WHATEVER THE INPUT: true; the input reads as it did. -/
def graphCutsSpec : ChangeSpec := { name := "graphCuts", fn := fun _ => fun
  | [d1, d2, d3, d4] => { results := [.lit (.bool true)], args := [d1, d2, d3, d4] }
  | _ => none }
def graphCutsRow : OpenClaim := { program := "ytihanglnjghcfaagreatdoor", sum := "6eab582d82eb90797dc0a9acde877736922275408f917c36b2883d85f2ca639c", func := "stemma/stemmalaw16.GraphCuts", spec := "graphCuts", inPlace := ["internal/bytealg.IndexByte", "internal/bytealg.IndexByteString", "internal/bytealg.IndexString"], unfollowed := true, recurses := true, named := ["unicode/utf8.first", "unicode/utf8.acceptRanges", "internal/bytealg.MaxLen"], apart := false, laid := [("unicode/utf8.acceptRanges", laid_unicode_utf8_acceptRanges), ("unicode/utf8.first", laid_unicode_utf8_first)] }
def GraphCutsSaid : Prop := graphCutsRow.holds Tryz.pinned (OpenSpec.ofChange graphCutsSpec)

/-- ITS FALSE NEIGHBOUR: 'it returns false'. Refute it at one input. -/
def graphCutsWrong : ChangeSpec := { name := "graphCuts", fn := fun _ => fun
  | [d1, d2, d3, d4] => { results := [.lit (.bool false)], args := [d1, d2, d3, d4] }
  | _ => none }
def GraphCutsWrongFalsely : Prop := graphCutsRow.holds Tryz.pinned (OpenSpec.ofChange graphCutsWrong)

/-- 'stemmalaw16.GraphClosed': WHATEVER THE INPUT: true; the input reads as it did. -/
def graphClosedSpec : ChangeSpec := { name := "graphClosed", fn := fun _ => fun
  | [d1, d2, d3] => { results := [.lit (.bool true)], args := [d1, d2, d3] }
  | _ => none }
def graphClosedRow : OpenClaim := { program := "ytihanglnjghcfaagreatdoor", sum := "6eab582d82eb90797dc0a9acde877736922275408f917c36b2883d85f2ca639c", func := "stemma/stemmalaw16.GraphClosed", spec := "graphClosed", inPlace := ["internal/bytealg.IndexByte", "internal/bytealg.IndexByteString", "internal/bytealg.IndexString"], unfollowed := true, recurses := true, named := ["unicode/utf8.first", "unicode/utf8.acceptRanges", "internal/bytealg.MaxLen"], apart := false, laid := [("unicode/utf8.acceptRanges", laid_unicode_utf8_acceptRanges), ("unicode/utf8.first", laid_unicode_utf8_first)] }
def GraphClosedSaid : Prop := graphClosedRow.holds Tryz.pinned (OpenSpec.ofChange graphClosedSpec)

/-- ITS FALSE NEIGHBOUR: 'it returns false'. Refute it at one input. -/
def graphClosedWrong : ChangeSpec := { name := "graphClosed", fn := fun _ => fun
  | [d1, d2, d3] => { results := [.lit (.bool false)], args := [d1, d2, d3] }
  | _ => none }
def GraphClosedWrongFalsely : Prop := graphClosedRow.holds Tryz.pinned (OpenSpec.ofChange graphClosedWrong)

/-- 'stemmalaw16.GraphLines': WHATEVER THE INPUT: true; the input reads as it did. -/
def graphLinesSpec : ChangeSpec := { name := "graphLines", fn := fun _ => fun
  | [d1, d2, d3] => { results := [.lit (.bool true)], args := [d1, d2, d3] }
  | _ => none }
def graphLinesRow : OpenClaim := { program := "ytihanglnjghcfaagreatdoor", sum := "6eab582d82eb90797dc0a9acde877736922275408f917c36b2883d85f2ca639c", func := "stemma/stemmalaw16.GraphLines", spec := "graphLines", inPlace := ["internal/bytealg.IndexByte", "internal/bytealg.IndexByteString", "internal/bytealg.IndexString"], unfollowed := true, recurses := true, named := ["unicode/utf8.first", "unicode/utf8.acceptRanges", "internal/bytealg.MaxLen"], apart := false, laid := [("unicode/utf8.acceptRanges", laid_unicode_utf8_acceptRanges), ("unicode/utf8.first", laid_unicode_utf8_first)] }
def GraphLinesSaid : Prop := graphLinesRow.holds Tryz.pinned (OpenSpec.ofChange graphLinesSpec)

/-- ITS FALSE NEIGHBOUR: 'it returns false'. Refute it at one input. -/
def graphLinesWrong : ChangeSpec := { name := "graphLines", fn := fun _ => fun
  | [d1, d2, d3] => { results := [.lit (.bool false)], args := [d1, d2, d3] }
  | _ => none }
def GraphLinesWrongFalsely : Prop := graphLinesRow.holds Tryz.pinned (OpenSpec.ofChange graphLinesWrong)

/- THE SECOND FORM. 'bulk': how many values and letters a reading holds, each counted each time it is reached (what is shared counts as often as it is met; a slice's spare places count too). A statement '..UptoSaid' is the law's where the arguments, and the package variables that the reading takes, are together of bulk at most 1048576: NARROWER than '..Said'. Prove '..Said' where nothing that the law and all that it calls make is longer than what came in: it says more and counts as full. Else prove '..UptoSaid'. A law counts once. -/
mutual
def uptoBulk {H : Type} : DataW H → Nat
  | .lit (.string bytes) => bytes.length + 1
  | .lit _ => 1
  | .nil => 1
  | .ptr d => uptoBulk d + 1
  | .slice elems spare => uptoBulkAll elems + uptoBulkAll spare + 1
  | .agg parts => uptoBulkAll parts + 1
  | .iface _ d => uptoBulk d + 1
  | .map entries => uptoBulkEntries entries + 1
  | .held _ => 1
def uptoBulkAll {H : Type} : List (DataW H) → Nat
  | [] => 0
  | d :: r => uptoBulk d + uptoBulkAll r
def uptoBulkEntries {H : Type} : List (Lit × DataW H) → Nat
  | [] => 0
  | x :: r => uptoBulkEntry x + uptoBulkEntries r
def uptoBulkEntry {H : Type} : Lit × DataW H → Nat
  | (.string bytes, d) => bytes.length + uptoBulk d + 1
  | (_, d) => uptoBulk d + 1
 end
def uptoSmall : (H : Type) → List (DataW H) → Bool := fun _ ds => decide (uptoBulkAll ds ≤ 1048576)
def OpenSpec.upto (s : _root_.Go.ChangeSpec) : _root_.Go.OpenSpec := { _root_.Go.OpenSpec.ofChange s with cond := some uptoSmall }

/-- 'stemmalaw16.GraphWalks', WHERE WHAT IT READS IS OF BULK AT MOST 1048576: true; the input reads as it did. -/
def graphWalksUptoRow : OpenClaim := { program := "ytihanglnjghcfaagreatdoor", sum := "6eab582d82eb90797dc0a9acde877736922275408f917c36b2883d85f2ca639c", func := "stemma/stemmalaw16.GraphWalks", spec := "graphWalks", inPlace := ["internal/bytealg.IndexByte", "internal/bytealg.IndexByteString", "internal/bytealg.IndexString"], unfollowed := true, recurses := true, named := ["unicode/utf8.first", "unicode/utf8.acceptRanges", "internal/bytealg.MaxLen"], apart := false, laid := [("unicode/utf8.acceptRanges", laid_unicode_utf8_acceptRanges), ("unicode/utf8.first", laid_unicode_utf8_first)], narrowed := true }
def GraphWalksUptoSaid : Prop := graphWalksUptoRow.holds Tryz.pinned (OpenSpec.upto graphWalksSpec)

/-- 'stemmalaw16.GraphOnce', WHERE WHAT IT READS IS OF BULK AT MOST 1048576: true; the input reads as it did. -/
def graphOnceUptoRow : OpenClaim := { program := "ytihanglnjghcfaagreatdoor", sum := "6eab582d82eb90797dc0a9acde877736922275408f917c36b2883d85f2ca639c", func := "stemma/stemmalaw16.GraphOnce", spec := "graphOnce", inPlace := ["internal/bytealg.IndexByte", "internal/bytealg.IndexByteString", "internal/bytealg.IndexString"], unfollowed := true, recurses := true, named := ["unicode/utf8.first", "unicode/utf8.acceptRanges", "internal/bytealg.MaxLen"], apart := false, laid := [("unicode/utf8.acceptRanges", laid_unicode_utf8_acceptRanges), ("unicode/utf8.first", laid_unicode_utf8_first)], narrowed := true }
def GraphOnceUptoSaid : Prop := graphOnceUptoRow.holds Tryz.pinned (OpenSpec.upto graphOnceSpec)

/-- 'stemmalaw16.GraphTags', WHERE WHAT IT READS IS OF BULK AT MOST 1048576: true; the input reads as it did. -/
def graphTagsUptoRow : OpenClaim := { program := "ytihanglnjghcfaagreatdoor", sum := "6eab582d82eb90797dc0a9acde877736922275408f917c36b2883d85f2ca639c", func := "stemma/stemmalaw16.GraphTags", spec := "graphTags", inPlace := ["internal/bytealg.IndexByte", "internal/bytealg.IndexByteString", "internal/bytealg.IndexString"], unfollowed := true, recurses := true, named := ["unicode/utf8.first", "unicode/utf8.acceptRanges", "internal/bytealg.MaxLen"], apart := false, laid := [("unicode/utf8.acceptRanges", laid_unicode_utf8_acceptRanges), ("unicode/utf8.first", laid_unicode_utf8_first)], narrowed := true }
def GraphTagsUptoSaid : Prop := graphTagsUptoRow.holds Tryz.pinned (OpenSpec.upto graphTagsSpec)

/-- 'stemmalaw16.GraphAges', WHERE WHAT IT READS IS OF BULK AT MOST 1048576: true; the input reads as it did. -/
def graphAgesUptoRow : OpenClaim := { program := "ytihanglnjghcfaagreatdoor", sum := "6eab582d82eb90797dc0a9acde877736922275408f917c36b2883d85f2ca639c", func := "stemma/stemmalaw16.GraphAges", spec := "graphAges", inPlace := ["internal/bytealg.IndexByte", "internal/bytealg.IndexByteString", "internal/bytealg.IndexString"], unfollowed := true, recurses := true, named := ["unicode/utf8.first", "unicode/utf8.acceptRanges", "internal/bytealg.MaxLen"], apart := false, laid := [("unicode/utf8.acceptRanges", laid_unicode_utf8_acceptRanges), ("unicode/utf8.first", laid_unicode_utf8_first)], narrowed := true }
def GraphAgesUptoSaid : Prop := graphAgesUptoRow.holds Tryz.pinned (OpenSpec.upto graphAgesSpec)

/-- 'stemmalaw16.GraphCuts', WHERE WHAT IT READS IS OF BULK AT MOST 1048576: true; the input reads as it did. -/
def graphCutsUptoRow : OpenClaim := { program := "ytihanglnjghcfaagreatdoor", sum := "6eab582d82eb90797dc0a9acde877736922275408f917c36b2883d85f2ca639c", func := "stemma/stemmalaw16.GraphCuts", spec := "graphCuts", inPlace := ["internal/bytealg.IndexByte", "internal/bytealg.IndexByteString", "internal/bytealg.IndexString"], unfollowed := true, recurses := true, named := ["unicode/utf8.first", "unicode/utf8.acceptRanges", "internal/bytealg.MaxLen"], apart := false, laid := [("unicode/utf8.acceptRanges", laid_unicode_utf8_acceptRanges), ("unicode/utf8.first", laid_unicode_utf8_first)], narrowed := true }
def GraphCutsUptoSaid : Prop := graphCutsUptoRow.holds Tryz.pinned (OpenSpec.upto graphCutsSpec)

/-- 'stemmalaw16.GraphClosed', WHERE WHAT IT READS IS OF BULK AT MOST 1048576: true; the input reads as it did. -/
def graphClosedUptoRow : OpenClaim := { program := "ytihanglnjghcfaagreatdoor", sum := "6eab582d82eb90797dc0a9acde877736922275408f917c36b2883d85f2ca639c", func := "stemma/stemmalaw16.GraphClosed", spec := "graphClosed", inPlace := ["internal/bytealg.IndexByte", "internal/bytealg.IndexByteString", "internal/bytealg.IndexString"], unfollowed := true, recurses := true, named := ["unicode/utf8.first", "unicode/utf8.acceptRanges", "internal/bytealg.MaxLen"], apart := false, laid := [("unicode/utf8.acceptRanges", laid_unicode_utf8_acceptRanges), ("unicode/utf8.first", laid_unicode_utf8_first)], narrowed := true }
def GraphClosedUptoSaid : Prop := graphClosedUptoRow.holds Tryz.pinned (OpenSpec.upto graphClosedSpec)

/-- 'stemmalaw16.GraphLines', WHERE WHAT IT READS IS OF BULK AT MOST 1048576: true; the input reads as it did. -/
def graphLinesUptoRow : OpenClaim := { program := "ytihanglnjghcfaagreatdoor", sum := "6eab582d82eb90797dc0a9acde877736922275408f917c36b2883d85f2ca639c", func := "stemma/stemmalaw16.GraphLines", spec := "graphLines", inPlace := ["internal/bytealg.IndexByte", "internal/bytealg.IndexByteString", "internal/bytealg.IndexString"], unfollowed := true, recurses := true, named := ["unicode/utf8.first", "unicode/utf8.acceptRanges", "internal/bytealg.MaxLen"], apart := false, laid := [("unicode/utf8.acceptRanges", laid_unicode_utf8_acceptRanges), ("unicode/utf8.first", laid_unicode_utf8_first)], narrowed := true }
def GraphLinesUptoSaid : Prop := graphLinesUptoRow.holds Tryz.pinned (OpenSpec.upto graphLinesSpec)

end Rows
end Go.Proofs.YtihanglnjghcfaaGreatDoor
