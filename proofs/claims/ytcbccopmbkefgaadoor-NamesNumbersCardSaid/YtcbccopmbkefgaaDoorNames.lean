/- The walk of NamesNumbers. -/
import Derived.Test.YtcbccopmbkefgaaDoorProg
import Derived.WalkKit
import Derived.WalkSpells
import Derived.Outline
import Derived.Lib.Hide
import Derived.Deep.QuietTactic
import Derived.BigQuiet
namespace Go.Proofs.YtcbccopmbkefgaaDoor
open Go.RowKit
set_option linter.unusedVariables false

set_option maxRecDepth 100000 in
theorem itoa_70 (w : World) : Calls Tryd.prog 5 #[.int .i64 70] w fun e w' => e = .returned (.string ⟨#[101, 114, 114, 111, 114, 32, 55, 48]⟩) ∧ w = w' := by
  go_enter Tryd.func5, Tryd.ntmps5
  go_wp2
  go_ret
  exact ⟨rfl, rfl⟩
set_option maxRecDepth 100000 in
theorem itoa_0 (w : World) : Calls Tryd.prog 5 #[.int .i64 0] w fun e w' => e = .returned (.string ⟨#[101, 114, 114, 111, 114, 32, 48]⟩) ∧ w = w' := by
  go_enter Tryd.func5, Tryd.ntmps5
  go_wp2
  go_ret
  exact ⟨rfl, rfl⟩
def pairsB (cs : Array Value) : Bool := (List.range 54).all fun i => match cs[i * 2]?, cs[i * 2 + 1]? with | some (.int .i64 a), some (.int .i64 b) => a == b | _, _ => false
theorem pairsB_at (cs : Array Value) (h : pairsB cs = true) (i : Nat) (hi : i < 54) : ∃ n, cs[i * 2]? = some (.int .i64 n) ∧ cs[i * 2 + 1]? = some (.int .i64 n) := by
  have := List.all_eq_true.1 h i (List.mem_range.2 hi)
  split at this
  · rename_i a b h1 h2
    exact ⟨a, h1, by rw [h2, eq_of_beq this]⟩
  · cases this
def AllPost (w : World) (e : Ending) (w' : World) : Prop := ∃ cs : Array Value, e = .returned (.slice (some ⟨w.heap.size, 0, none⟩) 54 54) ∧ w' = w.alloc (.cells cs 25) ∧ pairsB cs = true
set_option maxRecDepth 100000 in
set_option maxHeartbeats 4000000 in
theorem all_any (w : World) : Calls Tryd.prog 4 #[] w (AllPost w) := by
  go_enter Tryd.func4, Tryd.ntmps4
  go_wp2
  go_ret
  exact ⟨_, rfl, rfl, by decide +kernel⟩
end Go.Proofs.YtcbccopmbkefgaaDoor
