/-
  No cell of these rows narrows 'for every input' (looked for: loops, veiled, ifaces, maps, wideKeys, modest, calm, conditions, laid).
  DERIVED. THE GIVEN ROWS OF THIS SEAT. 12 by the template 'for every input the law returns true; each argument reads behind the call as it read before'; 0 by the template 'total and deterministic' (their statements: YtoeipgbnjcgbjaaTotals.lean).
  GIVEN WITH THE SEED: the statements are not yours to turn. If you find one false, say at which input.
  Laid BY PROGRAM, IN A SANDBOX (cutbox-rows.mjs): the forced cells as the released guide's own fill.sh prints them over the translation 3ec21c0ac6e5d620… (all of the seat's roots in one cut). By AI agents, Wed Nov 11 2026. No macro, syntax, notation, axiom, sorry.
-/
import Derived.Test.YtoeipgbnjcgbjaaChecked
import GoSem.Claim
import GoSem.ClaimJoined
import GoSem.ClaimMapViews
import Derived.JoinedTies
import Derived.KernelRfl
namespace Go.Proofs.Ytoeipgbnjcgbjaa
/- THE CELL 'sum', in the pinned program and in every row, IS THE sha256 OF THE DUMP (.gsa) THAT YtoeipgbnjcgbjaaProg.lean LOADS. Nothing in Lean hashes anything: it is a label: what it is worth is what the hold of that sum in a sandbox is worth. -/
noncomputable def Try.pinned : Pinned := { name := "ytoeipgbnjcgbjaa", sum := "3ec21c0ac6e5d620559ac7ff6a278d553f329f057a8b1475f73e38887f800cec", checked := Try.checked }
namespace Rows
def none {H : Type} : Left H := { results := [], args := [] }

/-- 'stemmalaw18.SegmentBytes': WHATEVER THE INPUT: true; the input reads as it did. -/
def segmentBytesSpec : ChangeSpec := { name := "segmentBytes", fn := fun _ => fun
  | [d1, d2] => { results := [.lit (.bool true)], args := [d1, d2] }
  | _ => none }
def segmentBytesRow : OpenClaim := { program := "ytoeipgbnjcgbjaa", sum := "3ec21c0ac6e5d620559ac7ff6a278d553f329f057a8b1475f73e38887f800cec", func := "stemma/stemmalaw18.SegmentBytes", spec := "segmentBytes", unfollowed := true, recurses := true, apart := false }
def SegmentBytesSaid : Prop := segmentBytesRow.holds Try.pinned (OpenSpec.ofChange segmentBytesSpec)

/-- ITS FALSE NEIGHBOUR: 'it returns false'. Refute it at one input. -/
def segmentBytesWrong : ChangeSpec := { name := "segmentBytes", fn := fun _ => fun
  | [d1, d2] => { results := [.lit (.bool false)], args := [d1, d2] }
  | _ => none }
def SegmentBytesWrongFalsely : Prop := segmentBytesRow.holds Try.pinned (OpenSpec.ofChange segmentBytesWrong)

/-- 'stemmalaw18.StreamWindow': WHATEVER THE INPUT: true; the input reads as it did. -/
def streamWindowSpec : ChangeSpec := { name := "streamWindow", fn := fun _ => fun
  | [d1, d2] => { results := [.lit (.bool true)], args := [d1, d2] }
  | _ => none }
def streamWindowRow : OpenClaim := { program := "ytoeipgbnjcgbjaa", sum := "3ec21c0ac6e5d620559ac7ff6a278d553f329f057a8b1475f73e38887f800cec", func := "stemma/stemmalaw18.StreamWindow", spec := "streamWindow", unfollowed := true, recurses := true, apart := false }
def StreamWindowSaid : Prop := streamWindowRow.holds Try.pinned (OpenSpec.ofChange streamWindowSpec)

/-- ITS FALSE NEIGHBOUR: 'it returns false'. Refute it at one input. -/
def streamWindowWrong : ChangeSpec := { name := "streamWindow", fn := fun _ => fun
  | [d1, d2] => { results := [.lit (.bool false)], args := [d1, d2] }
  | _ => none }
def StreamWindowWrongFalsely : Prop := streamWindowRow.holds Try.pinned (OpenSpec.ofChange streamWindowWrong)

/-- 'stemmalaw18.StreamStrange': WHATEVER THE INPUT: true; the input reads as it did. -/
def streamStrangeSpec : ChangeSpec := { name := "streamStrange", fn := fun _ => fun
  | [d1, d2, d3] => { results := [.lit (.bool true)], args := [d1, d2, d3] }
  | _ => none }
def streamStrangeRow : OpenClaim := { program := "ytoeipgbnjcgbjaa", sum := "3ec21c0ac6e5d620559ac7ff6a278d553f329f057a8b1475f73e38887f800cec", func := "stemma/stemmalaw18.StreamStrange", spec := "streamStrange", unfollowed := true, recurses := true, apart := false }
def StreamStrangeSaid : Prop := streamStrangeRow.holds Try.pinned (OpenSpec.ofChange streamStrangeSpec)

/-- ITS FALSE NEIGHBOUR: 'it returns false'. Refute it at one input. -/
def streamStrangeWrong : ChangeSpec := { name := "streamStrange", fn := fun _ => fun
  | [d1, d2, d3] => { results := [.lit (.bool false)], args := [d1, d2, d3] }
  | _ => none }
def StreamStrangeWrongFalsely : Prop := streamStrangeRow.holds Try.pinned (OpenSpec.ofChange streamStrangeWrong)

/-- 'stemmalaw18.StreamOrder': WHATEVER THE INPUT: true; the input reads as it did. -/
def streamOrderSpec : ChangeSpec := { name := "streamOrder", fn := fun _ => fun
  | [d] => { results := [.lit (.bool true)], args := [d] }
  | _ => none }
def streamOrderRow : OpenClaim := { program := "ytoeipgbnjcgbjaa", sum := "3ec21c0ac6e5d620559ac7ff6a278d553f329f057a8b1475f73e38887f800cec", func := "stemma/stemmalaw18.StreamOrder", spec := "streamOrder", unfollowed := true, recurses := true, apart := false }
def StreamOrderSaid : Prop := streamOrderRow.holds Try.pinned (OpenSpec.ofChange streamOrderSpec)

/-- ITS FALSE NEIGHBOUR: 'it returns false'. Refute it at one input. -/
def streamOrderWrong : ChangeSpec := { name := "streamOrder", fn := fun _ => fun
  | [d] => { results := [.lit (.bool false)], args := [d] }
  | _ => none }
def StreamOrderWrongFalsely : Prop := streamOrderRow.holds Try.pinned (OpenSpec.ofChange streamOrderWrong)

/-- 'stemmalaw18.StreamPlays': WHATEVER THE INPUT: true; the input reads as it did. -/
def streamPlaysSpec : ChangeSpec := { name := "streamPlays", fn := fun _ => fun
  | [d1, d2] => { results := [.lit (.bool true)], args := [d1, d2] }
  | _ => none }
def streamPlaysRow : OpenClaim := { program := "ytoeipgbnjcgbjaa", sum := "3ec21c0ac6e5d620559ac7ff6a278d553f329f057a8b1475f73e38887f800cec", func := "stemma/stemmalaw18.StreamPlays", spec := "streamPlays", unfollowed := true, recurses := true, apart := false }
def StreamPlaysSaid : Prop := streamPlaysRow.holds Try.pinned (OpenSpec.ofChange streamPlaysSpec)

/-- ITS FALSE NEIGHBOUR: 'it returns false'. Refute it at one input. -/
def streamPlaysWrong : ChangeSpec := { name := "streamPlays", fn := fun _ => fun
  | [d1, d2] => { results := [.lit (.bool false)], args := [d1, d2] }
  | _ => none }
def StreamPlaysWrongFalsely : Prop := streamPlaysRow.holds Try.pinned (OpenSpec.ofChange streamPlaysWrong)

/-- 'stemmalaw18.StreamEnds': WHATEVER THE INPUT: true; the input reads as it did. -/
def streamEndsSpec : ChangeSpec := { name := "streamEnds", fn := fun _ => fun
  | [d1, d2, d3, d4] => { results := [.lit (.bool true)], args := [d1, d2, d3, d4] }
  | _ => none }
def streamEndsRow : OpenClaim := { program := "ytoeipgbnjcgbjaa", sum := "3ec21c0ac6e5d620559ac7ff6a278d553f329f057a8b1475f73e38887f800cec", func := "stemma/stemmalaw18.StreamEnds", spec := "streamEnds", unfollowed := true, recurses := true, apart := false }
def StreamEndsSaid : Prop := streamEndsRow.holds Try.pinned (OpenSpec.ofChange streamEndsSpec)

/-- ITS FALSE NEIGHBOUR: 'it returns false'. Refute it at one input. -/
def streamEndsWrong : ChangeSpec := { name := "streamEnds", fn := fun _ => fun
  | [d1, d2, d3, d4] => { results := [.lit (.bool false)], args := [d1, d2, d3, d4] }
  | _ => none }
def StreamEndsWrongFalsely : Prop := streamEndsRow.holds Try.pinned (OpenSpec.ofChange streamEndsWrong)

/-- 'stemmalaw6.InflateFixed': WHATEVER THE INPUT: true; the input reads as it did. -/
def inflateFixedSpec : ChangeSpec := { name := "inflateFixed", fn := fun _ => fun
  | [d] => { results := [.lit (.bool true)], args := [d] }
  | _ => none }
def inflateFixedRow : OpenClaim := { program := "ytoeipgbnjcgbjaa", sum := "3ec21c0ac6e5d620559ac7ff6a278d553f329f057a8b1475f73e38887f800cec", func := "stemma/stemmalaw6.InflateFixed", spec := "inflateFixed", unfollowed := true, recurses := true, apart := false }
def InflateFixedSaid : Prop := inflateFixedRow.holds Try.pinned (OpenSpec.ofChange inflateFixedSpec)

/-- ITS FALSE NEIGHBOUR: 'it returns false'. Refute it at one input. -/
def inflateFixedWrong : ChangeSpec := { name := "inflateFixed", fn := fun _ => fun
  | [d] => { results := [.lit (.bool false)], args := [d] }
  | _ => none }
def InflateFixedWrongFalsely : Prop := inflateFixedRow.holds Try.pinned (OpenSpec.ofChange inflateFixedWrong)

/-- 'stemmalaw6.InflateMatches': WHATEVER THE INPUT: true; the input reads as it did. -/
def inflateMatchesSpec : ChangeSpec := { name := "inflateMatches", fn := fun _ => fun
  | [d1, d2, d3] => { results := [.lit (.bool true)], args := [d1, d2, d3] }
  | _ => none }
def inflateMatchesRow : OpenClaim := { program := "ytoeipgbnjcgbjaa", sum := "3ec21c0ac6e5d620559ac7ff6a278d553f329f057a8b1475f73e38887f800cec", func := "stemma/stemmalaw6.InflateMatches", spec := "inflateMatches", unfollowed := true, recurses := true, apart := false }
def InflateMatchesSaid : Prop := inflateMatchesRow.holds Try.pinned (OpenSpec.ofChange inflateMatchesSpec)

/-- ITS FALSE NEIGHBOUR: 'it returns false'. Refute it at one input. -/
def inflateMatchesWrong : ChangeSpec := { name := "inflateMatches", fn := fun _ => fun
  | [d1, d2, d3] => { results := [.lit (.bool false)], args := [d1, d2, d3] }
  | _ => none }
def InflateMatchesWrongFalsely : Prop := inflateMatchesRow.holds Try.pinned (OpenSpec.ofChange inflateMatchesWrong)

/-- 'stemmalaw6.InflateBlocks': WHATEVER THE INPUT: true; the input reads as it did. -/
def inflateBlocksSpec : ChangeSpec := { name := "inflateBlocks", fn := fun _ => fun
  | [d1, d2] => { results := [.lit (.bool true)], args := [d1, d2] }
  | _ => none }
def inflateBlocksRow : OpenClaim := { program := "ytoeipgbnjcgbjaa", sum := "3ec21c0ac6e5d620559ac7ff6a278d553f329f057a8b1475f73e38887f800cec", func := "stemma/stemmalaw6.InflateBlocks", spec := "inflateBlocks", unfollowed := true, recurses := true, apart := false }
def InflateBlocksSaid : Prop := inflateBlocksRow.holds Try.pinned (OpenSpec.ofChange inflateBlocksSpec)

/-- ITS FALSE NEIGHBOUR: 'it returns false'. Refute it at one input. -/
def inflateBlocksWrong : ChangeSpec := { name := "inflateBlocks", fn := fun _ => fun
  | [d1, d2] => { results := [.lit (.bool false)], args := [d1, d2] }
  | _ => none }
def InflateBlocksWrongFalsely : Prop := inflateBlocksRow.holds Try.pinned (OpenSpec.ofChange inflateBlocksWrong)

/-- 'stemmalaw6.InflateRaw': WHATEVER THE INPUT: true; the input reads as it did. -/
def inflateRawSpec : ChangeSpec := { name := "inflateRaw", fn := fun _ => fun
  | [d1, d2] => { results := [.lit (.bool true)], args := [d1, d2] }
  | _ => none }
def inflateRawRow : OpenClaim := { program := "ytoeipgbnjcgbjaa", sum := "3ec21c0ac6e5d620559ac7ff6a278d553f329f057a8b1475f73e38887f800cec", func := "stemma/stemmalaw6.InflateRaw", spec := "inflateRaw", unfollowed := true, recurses := true, apart := false }
def InflateRawSaid : Prop := inflateRawRow.holds Try.pinned (OpenSpec.ofChange inflateRawSpec)

/-- ITS FALSE NEIGHBOUR: 'it returns false'. Refute it at one input. -/
def inflateRawWrong : ChangeSpec := { name := "inflateRaw", fn := fun _ => fun
  | [d1, d2] => { results := [.lit (.bool false)], args := [d1, d2] }
  | _ => none }
def InflateRawWrongFalsely : Prop := inflateRawRow.holds Try.pinned (OpenSpec.ofChange inflateRawWrong)

/-- 'stemmalaw6.InflateZlib': WHATEVER THE INPUT: true; the input reads as it did. -/
def inflateZlibSpec : ChangeSpec := { name := "inflateZlib", fn := fun _ => fun
  | [d1, d2] => { results := [.lit (.bool true)], args := [d1, d2] }
  | _ => none }
def inflateZlibRow : OpenClaim := { program := "ytoeipgbnjcgbjaa", sum := "3ec21c0ac6e5d620559ac7ff6a278d553f329f057a8b1475f73e38887f800cec", func := "stemma/stemmalaw6.InflateZlib", spec := "inflateZlib", unfollowed := true, recurses := true, apart := false }
def InflateZlibSaid : Prop := inflateZlibRow.holds Try.pinned (OpenSpec.ofChange inflateZlibSpec)

/-- ITS FALSE NEIGHBOUR: 'it returns false'. Refute it at one input. -/
def inflateZlibWrong : ChangeSpec := { name := "inflateZlib", fn := fun _ => fun
  | [d1, d2] => { results := [.lit (.bool false)], args := [d1, d2] }
  | _ => none }
def InflateZlibWrongFalsely : Prop := inflateZlibRow.holds Try.pinned (OpenSpec.ofChange inflateZlibWrong)

/-- 'stemmalaw6.InflateBound': WHATEVER THE INPUT: true; the input reads as it did. -/
def inflateBoundSpec : ChangeSpec := { name := "inflateBound", fn := fun _ => fun
  | [d1, d2] => { results := [.lit (.bool true)], args := [d1, d2] }
  | _ => none }
def inflateBoundRow : OpenClaim := { program := "ytoeipgbnjcgbjaa", sum := "3ec21c0ac6e5d620559ac7ff6a278d553f329f057a8b1475f73e38887f800cec", func := "stemma/stemmalaw6.InflateBound", spec := "inflateBound", unfollowed := true, recurses := true, apart := false }
def InflateBoundSaid : Prop := inflateBoundRow.holds Try.pinned (OpenSpec.ofChange inflateBoundSpec)

/-- ITS FALSE NEIGHBOUR: 'it returns false'. Refute it at one input. -/
def inflateBoundWrong : ChangeSpec := { name := "inflateBound", fn := fun _ => fun
  | [d1, d2] => { results := [.lit (.bool false)], args := [d1, d2] }
  | _ => none }
def InflateBoundWrongFalsely : Prop := inflateBoundRow.holds Try.pinned (OpenSpec.ofChange inflateBoundWrong)

/- THE SECOND FORM. 'bulk': how many values and letters a reading holds, each counted each time it is reached (what is shared counts as often as it is met; a slice's spare places count too). A statement '..UptoSaid' is the law's where the arguments, and the package variables that the reading takes, are together of bulk at most 1048576: NARROWER than '..Said'. Prove '..Said' where nothing that the law and all that it calls make is longer than what came in: it says more and counts as full. Else prove '..UptoSaid'. A law counts once. -/
mutual
def uptoBulk {H : Type} : DataW H → Nat
  | .lit (.string bytes) => bytes.length + 1
  | .lit _ => 1
  | .nil => 1
  | .ptr d => uptoBulk d + 1
  | .slice elems spare => uptoBulkAll elems + uptoBulkAll spare + 1
  | .agg parts => uptoBulkAll parts + 1
  | .iface _ d => uptoBulk d + 1
  | .map entries => uptoBulkEntries entries + 1
  | .held _ => 1
def uptoBulkAll {H : Type} : List (DataW H) → Nat
  | [] => 0
  | d :: r => uptoBulk d + uptoBulkAll r
def uptoBulkEntries {H : Type} : List (Lit × DataW H) → Nat
  | [] => 0
  | x :: r => uptoBulkEntry x + uptoBulkEntries r
def uptoBulkEntry {H : Type} : Lit × DataW H → Nat
  | (.string bytes, d) => bytes.length + uptoBulk d + 1
  | (_, d) => uptoBulk d + 1
 end
def uptoSmall : (H : Type) → List (DataW H) → Bool := fun _ ds => decide (uptoBulkAll ds ≤ 1048576)
def OpenSpec.upto (s : _root_.Go.ChangeSpec) : _root_.Go.OpenSpec := { _root_.Go.OpenSpec.ofChange s with cond := some uptoSmall }

/-- 'stemmalaw18.SegmentBytes', WHERE WHAT IT READS IS OF BULK AT MOST 1048576: true; the input reads as it did. -/
def segmentBytesUptoRow : OpenClaim := { program := "ytoeipgbnjcgbjaa", sum := "3ec21c0ac6e5d620559ac7ff6a278d553f329f057a8b1475f73e38887f800cec", func := "stemma/stemmalaw18.SegmentBytes", spec := "segmentBytes", unfollowed := true, recurses := true, apart := false, narrowed := true }
def SegmentBytesUptoSaid : Prop := segmentBytesUptoRow.holds Try.pinned (OpenSpec.upto segmentBytesSpec)

/-- 'stemmalaw18.StreamWindow', WHERE WHAT IT READS IS OF BULK AT MOST 1048576: true; the input reads as it did. -/
def streamWindowUptoRow : OpenClaim := { program := "ytoeipgbnjcgbjaa", sum := "3ec21c0ac6e5d620559ac7ff6a278d553f329f057a8b1475f73e38887f800cec", func := "stemma/stemmalaw18.StreamWindow", spec := "streamWindow", unfollowed := true, recurses := true, apart := false, narrowed := true }
def StreamWindowUptoSaid : Prop := streamWindowUptoRow.holds Try.pinned (OpenSpec.upto streamWindowSpec)

/-- 'stemmalaw18.StreamStrange', WHERE WHAT IT READS IS OF BULK AT MOST 1048576: true; the input reads as it did. -/
def streamStrangeUptoRow : OpenClaim := { program := "ytoeipgbnjcgbjaa", sum := "3ec21c0ac6e5d620559ac7ff6a278d553f329f057a8b1475f73e38887f800cec", func := "stemma/stemmalaw18.StreamStrange", spec := "streamStrange", unfollowed := true, recurses := true, apart := false, narrowed := true }
def StreamStrangeUptoSaid : Prop := streamStrangeUptoRow.holds Try.pinned (OpenSpec.upto streamStrangeSpec)

/-- 'stemmalaw18.StreamOrder', WHERE WHAT IT READS IS OF BULK AT MOST 1048576: true; the input reads as it did. -/
def streamOrderUptoRow : OpenClaim := { program := "ytoeipgbnjcgbjaa", sum := "3ec21c0ac6e5d620559ac7ff6a278d553f329f057a8b1475f73e38887f800cec", func := "stemma/stemmalaw18.StreamOrder", spec := "streamOrder", unfollowed := true, recurses := true, apart := false, narrowed := true }
def StreamOrderUptoSaid : Prop := streamOrderUptoRow.holds Try.pinned (OpenSpec.upto streamOrderSpec)

/-- 'stemmalaw18.StreamPlays', WHERE WHAT IT READS IS OF BULK AT MOST 1048576: true; the input reads as it did. -/
def streamPlaysUptoRow : OpenClaim := { program := "ytoeipgbnjcgbjaa", sum := "3ec21c0ac6e5d620559ac7ff6a278d553f329f057a8b1475f73e38887f800cec", func := "stemma/stemmalaw18.StreamPlays", spec := "streamPlays", unfollowed := true, recurses := true, apart := false, narrowed := true }
def StreamPlaysUptoSaid : Prop := streamPlaysUptoRow.holds Try.pinned (OpenSpec.upto streamPlaysSpec)

/-- 'stemmalaw18.StreamEnds', WHERE WHAT IT READS IS OF BULK AT MOST 1048576: true; the input reads as it did. -/
def streamEndsUptoRow : OpenClaim := { program := "ytoeipgbnjcgbjaa", sum := "3ec21c0ac6e5d620559ac7ff6a278d553f329f057a8b1475f73e38887f800cec", func := "stemma/stemmalaw18.StreamEnds", spec := "streamEnds", unfollowed := true, recurses := true, apart := false, narrowed := true }
def StreamEndsUptoSaid : Prop := streamEndsUptoRow.holds Try.pinned (OpenSpec.upto streamEndsSpec)

/-- 'stemmalaw6.InflateFixed', WHERE WHAT IT READS IS OF BULK AT MOST 1048576: true; the input reads as it did. -/
def inflateFixedUptoRow : OpenClaim := { program := "ytoeipgbnjcgbjaa", sum := "3ec21c0ac6e5d620559ac7ff6a278d553f329f057a8b1475f73e38887f800cec", func := "stemma/stemmalaw6.InflateFixed", spec := "inflateFixed", unfollowed := true, recurses := true, apart := false, narrowed := true }
def InflateFixedUptoSaid : Prop := inflateFixedUptoRow.holds Try.pinned (OpenSpec.upto inflateFixedSpec)

/-- 'stemmalaw6.InflateMatches', WHERE WHAT IT READS IS OF BULK AT MOST 1048576: true; the input reads as it did. -/
def inflateMatchesUptoRow : OpenClaim := { program := "ytoeipgbnjcgbjaa", sum := "3ec21c0ac6e5d620559ac7ff6a278d553f329f057a8b1475f73e38887f800cec", func := "stemma/stemmalaw6.InflateMatches", spec := "inflateMatches", unfollowed := true, recurses := true, apart := false, narrowed := true }
def InflateMatchesUptoSaid : Prop := inflateMatchesUptoRow.holds Try.pinned (OpenSpec.upto inflateMatchesSpec)

/-- 'stemmalaw6.InflateBlocks', WHERE WHAT IT READS IS OF BULK AT MOST 1048576: true; the input reads as it did. -/
def inflateBlocksUptoRow : OpenClaim := { program := "ytoeipgbnjcgbjaa", sum := "3ec21c0ac6e5d620559ac7ff6a278d553f329f057a8b1475f73e38887f800cec", func := "stemma/stemmalaw6.InflateBlocks", spec := "inflateBlocks", unfollowed := true, recurses := true, apart := false, narrowed := true }
def InflateBlocksUptoSaid : Prop := inflateBlocksUptoRow.holds Try.pinned (OpenSpec.upto inflateBlocksSpec)

/-- 'stemmalaw6.InflateRaw', WHERE WHAT IT READS IS OF BULK AT MOST 1048576: true; the input reads as it did. -/
def inflateRawUptoRow : OpenClaim := { program := "ytoeipgbnjcgbjaa", sum := "3ec21c0ac6e5d620559ac7ff6a278d553f329f057a8b1475f73e38887f800cec", func := "stemma/stemmalaw6.InflateRaw", spec := "inflateRaw", unfollowed := true, recurses := true, apart := false, narrowed := true }
def InflateRawUptoSaid : Prop := inflateRawUptoRow.holds Try.pinned (OpenSpec.upto inflateRawSpec)

/-- 'stemmalaw6.InflateZlib', WHERE WHAT IT READS IS OF BULK AT MOST 1048576: true; the input reads as it did. -/
def inflateZlibUptoRow : OpenClaim := { program := "ytoeipgbnjcgbjaa", sum := "3ec21c0ac6e5d620559ac7ff6a278d553f329f057a8b1475f73e38887f800cec", func := "stemma/stemmalaw6.InflateZlib", spec := "inflateZlib", unfollowed := true, recurses := true, apart := false, narrowed := true }
def InflateZlibUptoSaid : Prop := inflateZlibUptoRow.holds Try.pinned (OpenSpec.upto inflateZlibSpec)

/-- 'stemmalaw6.InflateBound', WHERE WHAT IT READS IS OF BULK AT MOST 1048576: true; the input reads as it did. -/
def inflateBoundUptoRow : OpenClaim := { program := "ytoeipgbnjcgbjaa", sum := "3ec21c0ac6e5d620559ac7ff6a278d553f329f057a8b1475f73e38887f800cec", func := "stemma/stemmalaw6.InflateBound", spec := "inflateBound", unfollowed := true, recurses := true, apart := false, narrowed := true }
def InflateBoundUptoSaid : Prop := inflateBoundUptoRow.holds Try.pinned (OpenSpec.upto inflateBoundSpec)

end Rows
end Go.Proofs.Ytoeipgbnjcgbjaa
