/- CRC of package sum. -/
import Derived.Test.YtoeipgbnjcgbjaaSumStr
namespace Go.Proofs.Ytoeipgbnjcgbjaa
open Go.RowKit
set_option linter.unusedVariables false

set_option maxRecDepth 100000 in
theorem crc_any (A : Option Addr) (n c : Nat) (xs : List Int) (w : World) (hI : Ints .u8 w A xs) (hn : xs.length = n) (hb : Bytes xs) (hsz : n ≤ 140737488351300) (ho : Bytes (crcOut xs)) :
    Calls Try.prog 47 #[.slice A n c] w fun e w' => e = .returned (.int .u32 (num4L (crcOut xs))) ∧ Below w.heap.size w w' := by
  go_enter Try.func47, Try.ntmps47
  go_wp2_with fail
  refine (whole_crc A n c xs w hI hn hb (by omega)).mono ?_
  rintro e w3 ⟨A3, c3, rfl, ho3, hb3⟩
  go_wp2_with fail
  refine (number_any A3 _ c3 (crcOut xs) w3 ho3.ints rfl (by simp [crcOut, be4]) ho).mono ?_
  rintro e w4 ⟨rfl, nq, rfl⟩
  go_wp2
  go_ret
  exact ⟨rfl, Below.drewN hb3 nq⟩
end Go.Proofs.Ytoeipgbnjcgbjaa
