/- The walk of NamesNumbers. -/
import Derived.Test.YtcbccopmbkefgaaDoorNames
namespace Go.Proofs.YtcbccopmbkefgaaDoor
open Go.RowKit
set_option linter.unusedVariables false

set_option maxRecDepth 100000 in
set_option maxHeartbeats 1000000 in
theorem namesNumbers_walk (w : World) : Calls Tryd.prog 3 #[] w fun e w' => e = .returned (.bool true) ∧ Below w.heap.size w w' := by
  go_enter Tryd.func3, Tryd.ntmps3
  go_wp2_with fail
  refine (all_any w).mono ?_
  rintro e w1 ⟨cs, rfl, rfl, hp⟩
  have hc : ∀ j, (w.alloc (.cells cs 25)).cell? ⟨w.heap.size, j, none⟩ = cs[j]? := fun j => by
    unfold World.cell?; rw [heap_alloc_new]; rfl
  have hB := (Below.refl w.heap.size w).alloc (Nat.le_refl _) (.cells cs 25)
  have HP := Lib.hid hp
  clear hp
  go_wp2_with fail
  generalize w.alloc (.cells cs 25) = w1 at *
  go_loopw [2] (fun i wr => ∃ k n : Nat, k ≤ 54 ∧ i = .int .i64 k ∧ wr = w1.drewN n) (fun i _ => 54 - (intOf i).toNat)
  case atStart => exact ⟨0, 0, by omega, rfl, rfl⟩
  case round =>
    obtain ⟨k, n, hk, rfl, rfl⟩ := hrel
    by_cases hlt : k < 54
    · obtain ⟨v, h1, h2⟩ := pairsB_at cs HP.out k hlt
      have c1 := (hc (k * 2)).trans h1
      have c2 := (hc (k * 2 + 1)).trans h2
      have hkI : (k : Int) < 54 := by omega
      clear h1 h2 hc
      go_wp2
      go_quiet (fail)
      go_wp2
      go_roundw
      case rel => exact ⟨k + 1, _, by omega, by go_num, rfl⟩
      case measure => simp [intOf]; omega
    · go_wp2_with (first
        | (have ht := hx70; go_at_call 5; refine (itoa_0 _).mono ?_; rintro e w' ⟨rfl, rfl⟩)
        | (go_at_call 5; refine (itoa_70 _).mono ?_; rintro e w' ⟨rfl, rfl⟩; have hx70 := trivial))
      go_ret
      exact ⟨rfl, ⟨hB.os, hB.tape, hB.output, hB.size, hB.block⟩⟩
end Go.Proofs.YtcbccopmbkefgaaDoor
