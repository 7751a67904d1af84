/- New. -/
import Derived.Test.YtdlabapfcghfmaaGreatDoorSumStr
namespace Go.Proofs.YtdlabapfcghfmaaGreatDoor
open Go.RowKit
set_option linter.unusedVariables false

set_option maxRecDepth 100000 in
theorem new_bad (kind : Int) (w : World) (h : kind < 1 ∨ 3 < kind) : Calls Tryz.prog 25 #[.int .i64 kind] w fun e w' => e = .returned (.tuple #[.pointer none, .int .i64 1]) ∧ w = w' := by
  by_cases h1 : kind < 1
  · go_enter Tryz.func25, Tryz.ntmps25
    go_wp2
    go_ret2
    exact ⟨rfl, rfl⟩
  · have h3 : 3 < kind := by omega
    go_enter Tryz.func25, Tryz.ntmps25
    go_wp2
    go_ret2
    exact ⟨rfl, rfl⟩
def tabOf (kind : Int) (i : Nat) : Int := if kind = 2 then (crcTab i : Nat) else 0
set_option maxRecDepth 100000 in
theorem new_ok (kind : Int) (w : World) (h1 : 1 ≤ kind) (h3 : kind ≤ 3) : Calls Tryz.prog 25 #[.int .i64 kind] w fun e w' => e = .returned (.tuple #[.pointer (some ⟨w.heap.size, 0, none⟩), .int .i64 0]) ∧ SumRep w.heap.size w' (.slice none 0 0) kind h0 [] 0 (tabOf kind) 4294967295 1 0 ∧ Below w.heap.size w w' := by
  have g1 : ¬ kind < 1 := by omega
  have g2 : ¬ 3 < kind := by omega
  by_cases h2 : kind = 2
  · subst h2
    go_enter Tryz.func25, Tryz.ntmps25
    go_wp2_with fail
    refine (begun_crc w).mono ?_
    rintro e w1 ⟨rfl, hs1, hb1⟩
    go_wp2
    go_ret2
    exact ⟨rfl, hs1, hb1⟩
  · have ht : tabOf kind = fun _ => 0 := by funext i; exact if_neg h2
    rw [ht]
    go_enter Tryz.func25, Tryz.ntmps25
    go_wp2_with fail
    refine (begun_any kind w h2).mono ?_
    rintro e w1 ⟨rfl, hs1, hb1⟩
    go_wp2
    go_ret2
    exact ⟨rfl, hs1, hb1⟩
end Go.Proofs.YtdlabapfcghfmaaGreatDoor
