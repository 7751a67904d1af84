/- Parse, the program's and the document's, of whatever bytes; a block that holds a segment. -/
import Derived.Test.YtoeipgbnjcgbjaaSeg6
import Derived.Test.YtoeipgbnjcgbjaaSeg7
namespace Go.Proofs.Ytoeipgbnjcgbjaa
open Go.RowKit
set_option linter.unusedVariables false

/-- What bytes are as a segment; nothing where they are none. -/
def parseX (b : List Int) : Sg := if parseB b then parseS b else ⟨0, 0, 0, 0, []⟩
theorem parse_all (A : Option Addr) (n c : Nat) (bs : List Int) (w : World) (hI : Ints .u8 w A bs) (hn : bs.length = n) (hb : Bytes bs) (hc : n ≤ c) (hcm : c ≤ 9223372036854775807) (hsz : n ≤ 140737488355000) :
    Calls Try.prog 15 #[.slice A n c] w fun e w' => ∃ A' c', e = .returned (.tuple #[segV (parseX bs) A' c', .bool (parseB bs)]) ∧ Ints .u8 w' A' (parseX bs).data ∧ Below w.heap.size w w' := by
  cases h : parseB bs
  · refine (parse_no A n c bs w hI hn hb hc hcm hsz h).mono ?_
    rintro e w' ⟨rfl, hbl⟩
    refine ⟨none, 0, ?_, ?_, hbl⟩
    · simp [parseX, h, segV, zeroSeg]
    · simp [parseX, h]; exact Ints.nil
  · refine (parse_yes A n c bs w hI hn hb hc hcm h).mono ?_
    rintro e w' ⟨A', rfl, ho, hbl⟩
    refine ⟨A', (parseS bs).data.length, ?_, ?_, hbl⟩
    · simp [parseX, h]
    · simp [parseX, h]; exact ho.ints
theorem refParse_all (s : ByteArray) (w : World) (hsz : s.size ≤ 140737488351300) :
    Calls Try.prog 16 #[.string s] w fun e w' => ∃ A' c', e = .returned (.tuple #[segV (parseX (bytesOf s)) A' c', .bool (parseB (bytesOf s))]) ∧ Ints .u8 w' A' (parseX (bytesOf s)).data ∧ Below w.heap.size w w' := by
  cases h : parseB (bytesOf s)
  · refine (refParse_no s w hsz h).mono ?_
    rintro e w' ⟨rfl, hbl⟩
    refine ⟨none, 0, ?_, ?_, hbl⟩
    · simp [parseX, h, segV, zeroSeg]
    · simp [parseX, h]; exact Ints.nil
  · refine (refParse_yes s w hsz h).mono ?_
    rintro e w' ⟨A', c', rfl, ho, hbl⟩
    refine ⟨A', c', ?_, ?_, hbl⟩
    · simp [parseX, h]
    · simp [parseX, h]; exact ho.ints
/-- A block that holds a segment. -/
theorem cel_seg (w : World) (s : Sg) (A : Option Addr) (c : Nat) : Cel (w.alloc (.cells #[.int .i64 s.t, .int .i64 s.id, .int .i64 s.seq, .int .i64 s.ack, .slice A s.data.length c] 24)) w.heap.size 24 5 (fun i => (#[.int .i64 s.t, .int .i64 s.id, .int .i64 s.seq, .int .i64 s.ack, .slice A s.data.length c] : Array Value).getD i undef) :=
  Cel.new w 24 #[.int .i64 s.t, .int .i64 s.id, .int .i64 s.seq, .int .i64 s.ack, .slice A s.data.length c] _ (fun i hi => getD_some hi)

end Go.Proofs.Ytoeipgbnjcgbjaa
