/- SHA1, CRC, Adler. -/
import Derived.Test.YtcbccopmbkefgaaSumWhole
namespace Go.Proofs.Ytcbccopmbkefgaa
open Go.RowKit
set_option linter.unusedVariables false

set_option maxRecDepth 100000 in
theorem sha1_any (A : Option Addr) (n c : Nat) (xs : List Int) (w : World) (hI : Ints .u8 w A xs) (hn : xs.length = n) (hb : Bytes xs) (hsz : n ≤ 140737488351300) :
    Calls Try.prog 26 #[.slice A n c] w (AskPost w (shaAll xs)) := by
  go_enter Try.func26, Try.ntmps26
  go_wp2_with fail
  refine (whole_sha A n c xs w hI hn hb hsz).mono ?_
  rintro e w3 ⟨A3, c3, rfl, ho3, hb3⟩
  go_wp2
  go_ret
  exact ⟨A3, c3, rfl, ho3, hb3⟩

def num4L (l : List Int) : Int := num4 (l.getD 0 0) (l.getD 1 0) (l.getD 2 0) (l.getD 3 0)
set_option maxRecDepth 100000 in
theorem crc_any (A : Option Addr) (n c : Nat) (xs : List Int) (w : World) (hI : Ints .u8 w A xs) (hn : xs.length = n) (hb : Bytes xs) (hsz : n ≤ 140737488351300) (ho : Bytes (crcOut xs)) :
    Calls Try.prog 28 #[.slice A n c] w fun e w' => e = .returned (.int .u32 (num4L (crcOut xs))) ∧ Below w.heap.size w w' := by
  go_enter Try.func28, Try.ntmps28
  go_wp2_with fail
  refine (whole_crc A n c xs w hI hn hb (by omega)).mono ?_
  rintro e w3 ⟨A3, c3, rfl, ho3, hb3⟩
  go_wp2_with fail
  refine (number_any A3 _ c3 (crcOut xs) w3 ho3.ints rfl (by simp [crcOut, be4]) ho).mono ?_
  rintro e w4 ⟨rfl, nq, rfl⟩
  go_wp2
  go_ret
  exact ⟨rfl, Below.drewN hb3 nq⟩
set_option maxRecDepth 100000 in
theorem adler_any (A : Option Addr) (n c : Nat) (xs : List Int) (w : World) (hI : Ints .u8 w A xs) (hn : xs.length = n) (hb : Bytes xs) (hsz : n ≤ 140737488351300) (ho : Bytes (adOut xs)) :
    Calls Try.prog 30 #[.slice A n c] w fun e w' => e = .returned (.int .u32 (num4L (adOut xs))) ∧ Below w.heap.size w w' := by
  go_enter Try.func30, Try.ntmps30
  go_wp2_with fail
  refine (whole_adler A n c xs w hI hn hb (by omega)).mono ?_
  rintro e w3 ⟨A3, c3, rfl, ho3, hb3⟩
  go_wp2_with fail
  refine (number_any A3 _ c3 (adOut xs) w3 ho3.ints rfl (by simp [adOut, be4]) ho).mono ?_
  rintro e w4 ⟨rfl, nq, rfl⟩
  go_wp2
  go_ret
  exact ⟨rfl, Below.drewN hb3 nq⟩
end Go.Proofs.Ytcbccopmbkefgaa
