/- What is told of a kind's name, of headers, IDs and hashes: the document's side, and any size. -/
import Derived.Test.YtdlabapfcghfmaaGreatDoorObU
namespace Go.Proofs.YtdlabapfcghfmaaGreatDoor
open Go.RowKit
set_option linter.unusedVariables false
set_option linter.unusedSimpArgs false

theorem digL_pow : ∀ (k n : Nat), n < 10 ^ (k + 1) → (digL n).length ≤ k + 1
  | 0, n, h => by
    rw [digL_small (by simp at h; omega)]
    simp
  | k + 1, n, h => by
    by_cases h9 : n ≤ 9
    · rw [digL_small h9]; simp
    · rw [digL_big (by omega), List.length_append]
      have := digL_pow k (n / 10) (by rw [Nat.pow_succ] at h; omega)
      simp
      omega
theorem digL_19 (n : Nat) (h : n < 9223372036854775808) : (digL n).length ≤ 19 := digL_pow 18 n (by omega)
theorem headL_19 (k : Int) (n : Nat) (h : n < 9223372036854775808) : (headL k n).length ≤ 27 := by
  unfold headL
  simp only [List.length_append, List.length_cons, List.length_nil]
  have := nameL_len k
  have := digL_19 n h
  omega
set_option maxRecDepth 100000 in
theorem kindR_any (s : ByteArray) (w : World) : Calls Tryz.prog 91 #[.string s] w (KindPost s w) := by
  have HNM := Lib.hid (fun (k : Int) w => rname_any k w)
  go_enter Tryz.func91, Tryz.ntmps91
  go_wp2
  go_loopw [4] (fun v wr => ∃ k : Nat, v = .int .i64 (k : Int) ∧ 1 ≤ k ∧ k ≤ 5 ∧ Below w.heap.size w wr ∧ ∀ j, 1 ≤ j → j < k → isName s j = false) (fun v _ => 5 - (intOf v).toNat)
  case atStart => exact ⟨1, rfl, by omega, by omega, Below.refl _ _, fun j h1 h2 => by omega⟩
  case round =>
    obtain ⟨k, rfl, hk1, hk, hB, hno⟩ := hrel
    have HN := Lib.hid hno
    have HB := Lib.hid hB
    clear hno hB
    by_cases hk5 : k < 5
    · have d0 : decide ((k : Int) ≤ 4) = true := decide_eq_true (by omega)
      cases hn : isName s k
      · have hn' : ((strOfNums (nameL (k : Int))).toList == s.toList) = false := hn
        have HS : Hid (∀ j, 1 ≤ j → j < k + 1 → isName s j = false) := Lib.hid (fun j h1 h2 => by
          by_cases hj : j = k
          · rw [hj]; exact hn
          · exact HN.out j h1 (by omega))
        clear hn
        go_wp2_with (refine (HNM.out (k : Int) wr).mono ?_; rintro e w1 ⟨rfl, hb1⟩)
        go_roundw
        case rel => exact ⟨k + 1, by go_num, by omega, by omega, HB.out.trans (hb1.mono HB.out.size), HS.out⟩
        case measure => simp [intOf]; omega
      · have hn' : ((strOfNums (nameL (k : Int))).toList == s.toList) = true := hn
        have HS := Lib.hid (kindN_at s k hk1 (by omega) HN.out hn)
        clear hn
        go_wp2_with (refine (HNM.out (k : Int) wr).mono ?_; rintro e w1 ⟨rfl, hb1⟩)
        go_ret2
        unfold KindPost
        rw [HS.out]
        exact ⟨by rw [decide_eq_true (show 0 < k by omega)]; rfl, HB.out.trans (hb1.mono HB.out.size)⟩
    · obtain rfl : k = 5 := by omega
      have d0 : decide (((5 : Nat) : Int) ≤ 4) = false := by decide
      have HS := Lib.hid (kindN_no s HN.out)
      go_wp2
      go_ret2
      unfold KindPost
      rw [HS.out]
      exact ⟨rfl, HB.out⟩
end Go.Proofs.YtdlabapfcghfmaaGreatDoor
