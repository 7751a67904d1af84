/- The document's turning of a word. -/
import Derived.Test.YtdlabapfcghfmaaGreatDoorSumA
namespace Go.Proofs.YtdlabapfcghfmaaGreatDoor
open Go.RowKit
set_option linter.unusedVariables false

set_option maxRecDepth 100000 in
theorem rol_any (x n : Int) (w : World) (h0 : 0 ≤ x) (h1 : x < 4294967296) (hn : n = 1 ∨ n = 5 ∨ n = 30) :
    Calls Tryz.prog 69 #[.int .u32 x, .int .i64 n] w fun e w' => e = .returned (.int .u32 (rotN n x)) ∧ ∃ nq, w' = w.drewN nq := by
  rcases hn with rfl | rfl | rfl
  all_goals
    go_enter Tryz.func69, Tryz.ntmps69
    go_wp2
    go_quiet (fail)
    go_wp2
    go_ret
    exact ⟨rfl, _, rfl⟩
end Go.Proofs.YtdlabapfcghfmaaGreatDoor
