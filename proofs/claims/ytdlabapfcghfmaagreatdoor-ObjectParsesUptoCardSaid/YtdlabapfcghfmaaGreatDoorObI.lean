/- object.names, Name, Kind. -/
import Derived.Test.YtdlabapfcghfmaaGreatDoorOid
import Derived.Test.YtdlabapfcghfmaaGreatDoorSumNew
namespace Go.Proofs.YtdlabapfcghfmaaGreatDoor
open Go.RowKit
set_option linter.unusedVariables false
set_option linter.unusedSimpArgs false

def namesV : Value := .agg #[.string ⟨#[]⟩, .string ⟨#[99, 111, 109, 109, 105, 116]⟩, .string ⟨#[116, 114, 101, 101]⟩, .string ⟨#[98, 108, 111, 98]⟩, .string ⟨#[116, 97, 103]⟩]
set_option maxRecDepth 100000 in
theorem names_any (w : World) : Calls Tryz.prog 67 #[] w fun e w' => e = .returned namesV ∧ Below w.heap.size w w' := by
  go_enter Tryz.func67, Tryz.ntmps67
  go_wp2
  have hc := Cel.new w 121 #[.string ⟨#[]⟩, .string ⟨#[99, 111, 109, 109, 105, 116]⟩, .string ⟨#[116, 114, 101, 101]⟩, .string ⟨#[98, 108, 111, 98]⟩, .string ⟨#[116, 97, 103]⟩] (fun i => (#[.string ⟨#[]⟩, .string ⟨#[99, 111, 109, 109, 105, 116]⟩, .string ⟨#[116, 114, 101, 101]⟩, .string ⟨#[98, 108, 111, 98]⟩, .string ⟨#[116, 97, 103]⟩] : Array Value).getD i undef) (fun i hi => by
    have : i = 0 ∨ i = 1 ∨ i = 2 ∨ i = 3 ∨ i = 4 := by simp at hi; omega
    rcases this with rfl | rfl | rfl | rfl | rfl <;> rfl)
  exact bodyPost_ret (v := namesV) (results_cel rfl _ rfl hc Tryz.underlying121 rfl (by kernel_rfl) (Nat.le_refl 5) (fun j hj => by
    have : j = 0 ∨ j = 1 ∨ j = 2 ∨ j = 3 ∨ j = 4 := by simp at hj; omega
    rcases this with rfl | rfl | rfl | rfl | rfl <;> rfl)) rfl ⟨rfl, (Below.refl _ _).alloc (Nat.le_refl _) _⟩
theorem name_ix0 (w : World) : (Instr.index 121 namesV (.int .i64 ((0 : Nat) : Int))).run Tryz.prog w = .ok (.string (strOfNums (nameL ((0 : Nat) : Int)))) w := by kernel_rfl
theorem name_ix1 (w : World) : (Instr.index 121 namesV (.int .i64 ((1 : Nat) : Int))).run Tryz.prog w = .ok (.string (strOfNums (nameL ((1 : Nat) : Int)))) w := by kernel_rfl
theorem name_ix2 (w : World) : (Instr.index 121 namesV (.int .i64 ((2 : Nat) : Int))).run Tryz.prog w = .ok (.string (strOfNums (nameL ((2 : Nat) : Int)))) w := by kernel_rfl
theorem name_ix3 (w : World) : (Instr.index 121 namesV (.int .i64 ((3 : Nat) : Int))).run Tryz.prog w = .ok (.string (strOfNums (nameL ((3 : Nat) : Int)))) w := by kernel_rfl
theorem name_ix4 (w : World) : (Instr.index 121 namesV (.int .i64 ((4 : Nat) : Int))).run Tryz.prog w = .ok (.string (strOfNums (nameL ((4 : Nat) : Int)))) w := by kernel_rfl
theorem name_ix (k : Nat) (hk : k < 5) (w : World) : (Instr.index 121 namesV (.int .i64 (k : Int))).run Tryz.prog w = .ok (.string (strOfNums (nameL k))) w := by
  have : k = 0 ∨ k = 1 ∨ k = 2 ∨ k = 3 ∨ k = 4 := by omega
  rcases this with rfl | rfl | rfl | rfl | rfl
  · exact name_ix0 w
  · exact name_ix1 w
  · exact name_ix2 w
  · exact name_ix3 w
  · exact name_ix4 w
set_option maxRecDepth 100000 in
theorem name_any (k : Int) (w : World) : Calls Tryz.prog 53 #[.int .i64 k] w fun e w' => e = .returned (.string (strOfNums (nameL k))) ∧ Below w.heap.size w w' := by
  by_cases h0 : k < 0
  · have d0 : decide (k < 0) = true := decide_eq_true h0
    have hn : nameL k = [] := by
      unfold nameL
      repeat' split
      all_goals first | rfl | omega
    rw [hn]
    go_enter Tryz.func53, Tryz.ntmps53
    go_wp2
    go_ret
    exact ⟨rfl, Below.refl _ _⟩
  · have d0 : decide (k < 0) = false := decide_eq_false h0
    by_cases h4 : 4 < k
    · have d4 : decide (4 < k) = true := decide_eq_true h4
      have hn : nameL k = [] := by
        unfold nameL
        repeat' split
        all_goals first | rfl | omega
      rw [hn]
      go_enter Tryz.func53, Tryz.ntmps53
      go_wp2
      go_ret
      exact ⟨rfl, Below.refl _ _⟩
    · have d4 : decide (4 < k) = false := decide_eq_false h4
      obtain ⟨n, rfl⟩ : ∃ n : Nat, k = n := ⟨k.toNat, by omega⟩
      have hx := fun w' => name_ix n (by omega) w'
      have hnm := fun w' => names_any w'
      generalize namesV = V at *
      go_enter Tryz.func53, Tryz.ntmps53
      go_wp2_with (refine (hnm _).mono ?_; rintro e w1 ⟨rfl, hb1⟩)
      go_ret
      exact ⟨rfl, hb1⟩
end Go.Proofs.YtdlabapfcghfmaaGreatDoor
