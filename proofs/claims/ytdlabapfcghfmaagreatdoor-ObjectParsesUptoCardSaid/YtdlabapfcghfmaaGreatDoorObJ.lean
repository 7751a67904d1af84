/- object.Kind, Header, ID. -/
import Derived.Test.YtdlabapfcghfmaaGreatDoorObI
import Derived.Test.YtdlabapfcghfmaaGreatDoorShelfO
namespace Go.Proofs.YtdlabapfcghfmaaGreatDoor
open Go.RowKit
set_option linter.unusedVariables false
set_option linter.unusedSimpArgs false

def isName (s : ByteArray) (k : Nat) : Bool := (strOfNums (nameL (k : Int))).toList == s.toList
/-- The kind that a name is. -/
def kindN (s : ByteArray) : Nat := if isName s 1 then 1 else if isName s 2 then 2 else if isName s 3 then 3 else if isName s 4 then 4 else 0
theorem kindN_at (s : ByteArray) (k : Nat) (h1 : 1 ≤ k) (h4 : k ≤ 4) (hb : ∀ j, 1 ≤ j → j < k → isName s j = false) (h : isName s k = true) : kindN s = k := by
  unfold kindN
  have : k = 1 ∨ k = 2 ∨ k = 3 ∨ k = 4 := by omega
  rcases this with rfl | rfl | rfl | rfl
  · rw [if_pos h]
  · rw [if_neg (by rw [hb 1 (by omega) (by omega)]; decide), if_pos h]
  · rw [if_neg (by rw [hb 1 (by omega) (by omega)]; decide), if_neg (by rw [hb 2 (by omega) (by omega)]; decide), if_pos h]
  · rw [if_neg (by rw [hb 1 (by omega) (by omega)]; decide), if_neg (by rw [hb 2 (by omega) (by omega)]; decide), if_neg (by rw [hb 3 (by omega) (by omega)]; decide), if_pos h]
theorem kindN_no (s : ByteArray) (hb : ∀ j, 1 ≤ j → j < 5 → isName s j = false) : kindN s = 0 := by
  unfold kindN
  rw [if_neg (by rw [hb 1 (by omega) (by omega)]; decide), if_neg (by rw [hb 2 (by omega) (by omega)]; decide), if_neg (by rw [hb 3 (by omega) (by omega)]; decide), if_neg (by rw [hb 4 (by omega) (by omega)]; decide)]
def KindPost (s : ByteArray) (w : World) (e : Ending) (w' : World) : Prop := e = .returned (.tuple #[.int .i64 ((kindN s : Nat) : Int), .bool (decide (0 < kindN s))]) ∧ Below w.heap.size w w'
set_option maxRecDepth 100000 in
theorem kind_any (s : ByteArray) (w : World) : Calls Tryz.prog 37 #[.string s] w (KindPost s w) := by
  have hnm := names_any w
  have hx := fun (k : Nat) (hk : k < 5) w' => name_ix k hk w'
  generalize namesV = V at *
  have HX := Lib.hid hx
  clear hx
  go_enter Tryz.func37, Tryz.ntmps37
  go_wp2_with (refine hnm.mono ?_; rintro e w1 ⟨rfl, hb1⟩)
  have HB := Lib.hid hb1
  clear hb1 hnm
  go_loopw [4, 5, 7] (fun _ _ v wr => ∃ k : Nat, v = .int .i64 (k : Int) ∧ k ≤ 5 ∧ wr = w1 ∧ ∀ j, 1 ≤ j → j < k → isName s j = false) (fun _ _ v _ => 5 - (intOf v).toNat)
  case atStart => exact ⟨0, rfl, by omega, rfl, fun j h1 h2 => by omega⟩
  case round =>
    obtain ⟨k, rfl, hk, rfl, hno⟩ := hrel
    have HN := Lib.hid hno
    clear hno
    by_cases hk5 : k < 5
    · have d0 : decide ((k : Int) < 5) = true := decide_eq_true (by omega)
      have hix := fun w' => HX.out k hk5 w'
      by_cases h0 : 0 < k
      · have d1 : decide ((0 : Int) < (k : Int)) = true := decide_eq_true (by omega)
        cases hn : isName s k
        · have hn' : ((strOfNums (nameL (k : Int))).toList == s.toList) = false := hn
          have HS : Hid (∀ j, 1 ≤ j → j < k + 1 → isName s j = false) := Lib.hid (fun j h1 h2 => by
            by_cases hj : j = k
            · rw [hj]; exact hn
            · exact HN.out j h1 (by omega))
          clear hn
          go_wp2
          go_roundw
          case rel => exact ⟨k + 1, by go_num, by omega, by first | rfl | trivial, HS.out⟩
          case measure => simp [intOf]; omega
        · have hn' : ((strOfNums (nameL (k : Int))).toList == s.toList) = true := hn
          have HS := Lib.hid (kindN_at s k h0 (by omega) HN.out hn)
          clear hn
          go_wp2
          go_ret2
          unfold KindPost
          rw [HS.out]
          exact ⟨by rw [decide_eq_true h0]; rfl, HB.out⟩
      · obtain rfl : k = 0 := by omega
        have HS : Hid (∀ j, 1 ≤ j → j < 0 + 1 → isName s j = false) := Lib.hid (fun j h1 h2 => by omega)
        have d1 : decide ((0 : Int) < ((0 : Nat) : Int)) = false := by decide
        clear hix
        have hix : ∀ w', (Instr.index 121 V (.int .i64 0)).run Tryz.prog w' = .ok (.string (strOfNums (nameL 0))) w' := fun w' => HX.out 0 (by omega) w'
        go_wp2
        go_roundw
        case rel => exact ⟨1, by go_num, by omega, by first | rfl | trivial, HS.out⟩
        case measure => simp [intOf]
    · obtain rfl : k = 5 := by omega
      have d0 : decide (((5 : Nat) : Int) < 5) = false := by decide
      have HS := Lib.hid (kindN_no s HN.out)
      go_wp2
      go_ret2
      unfold KindPost
      rw [HS.out]
      exact ⟨rfl, HB.out⟩
end Go.Proofs.YtdlabapfcghfmaaGreatDoor
