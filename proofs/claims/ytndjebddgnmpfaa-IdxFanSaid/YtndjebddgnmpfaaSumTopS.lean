/- SHA1 of package sum. -/
import Derived.Test.YtndjebddgnmpfaaSumStr
namespace Go.Proofs.Ytndjebddgnmpfaa
open Go.RowKit
set_option linter.unusedVariables false

set_option maxRecDepth 100000 in
theorem sha1_any (A : Option Addr) (n c : Nat) (xs : List Int) (w : World) (hI : Ints .u8 w A xs) (hn : xs.length = n) (hb : Bytes xs) (hsz : n ≤ 140737488351300) :
    Calls Try.prog 29 #[.slice A n c] w (AskPost w (shaAll xs)) := by
  go_enter Try.func29, Try.ntmps29
  go_wp2_with fail
  refine (whole_sha A n c xs w hI hn hb hsz).mono ?_
  rintro e w3 ⟨A3, c3, rfl, ho3, hb3⟩
  go_wp2
  go_ret
  exact ⟨A3, c3, rfl, ho3, hb3⟩
end Go.Proofs.Ytndjebddgnmpfaa
