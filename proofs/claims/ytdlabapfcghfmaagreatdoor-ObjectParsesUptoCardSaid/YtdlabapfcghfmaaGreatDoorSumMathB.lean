/- Plain laws on the sums: four bytes and a word. -/
import Derived.Test.YtdlabapfcghfmaaGreatDoorSumMath
namespace Go.Proofs.YtdlabapfcghfmaaGreatDoor
open Go.RowKit
set_option linter.unusedVariables false

theorem or_add (x y : Int) (k : Nat) (hx : 0 ≤ x) (hy : 0 ≤ y) (hy2 : y < ((2 ^ k : Nat) : Int)) (hs : x * ((2 ^ k : Nat) : Int) + y < 4294967296) : bits .or .u32 (x * ((2 ^ k : Nat) : Int)) y = x * ((2 ^ k : Nat) : Int) + y := by
  obtain ⟨n, rfl⟩ := Int.eq_ofNat_of_zero_le hx
  obtain ⟨m, rfl⟩ := Int.eq_ofNat_of_zero_le hy
  have e : (n : Int) * ((2 ^ k : Nat) : Int) = ((2 ^ k * n : Nat) : Int) := by rw [Int.natCast_mul, Int.mul_comm]
  rw [e] at hs ⊢
  have h1 : 2 ^ k * n < 4294967296 := by omega
  have h2 : m < 2 ^ k := by omega
  rw [u32_or_nat _ _ h1 (by omega), ← Nat.two_pow_add_eq_or_of_lt h2]
  omega
theorem num4_eq (a b c d : Int) (ha : 0 ≤ a ∧ a < 256) (hb : 0 ≤ b ∧ b < 256) (hc : 0 ≤ c ∧ c < 256) (hd : 0 ≤ d ∧ d < 256) : num4 a b c d = a * 16777216 + b * 65536 + c * 256 + d := by
  unfold num4
  have h1 := or_add a (b * 65536) 24 ha.1 (by omega) (by omega) (by omega)
  rw [show ((2 ^ 24 : Nat) : Int) = 16777216 by decide] at h1
  rw [h1]
  have h2 := or_add (a * 256 + b) (c * 256) 16 (by omega) (by omega) (by omega) (by omega)
  rw [show ((2 ^ 16 : Nat) : Int) = 65536 by decide, show (a * 256 + b) * 65536 = a * 16777216 + b * 65536 by omega] at h2
  rw [h2]
  have h3 := or_add (a * 65536 + b * 256 + c) d 8 (by omega) (by omega) (by omega) (by omega)
  rw [show ((2 ^ 8 : Nat) : Int) = 256 by decide, show (a * 65536 + b * 256 + c) * 256 = a * 16777216 + b * 65536 + c * 256 by omega] at h3
  rw [h3]
theorem be4_ok (n : Int) (h0 : 0 ≤ n) (h1 : n < 4294967296) : Bytes (be4 n) := fun x hx => by
  simp only [be4, List.mem_cons, List.not_mem_nil, or_false] at hx
  rcases hx with rfl | rfl | rfl | rfl <;> omega
theorem num4L_be4 (n : Int) (h0 : 0 ≤ n) (h1 : n < 4294967296) : num4L (be4 n) = n := by
  show num4 (n / 16777216) (n / 65536 % 256) (n / 256 % 256) (n % 256) = n
  rw [num4_eq _ _ _ _ (by omega) (by omega) (by omega) (by omega)]
  omega
theorem crcOut_num (xs : List Int) (hx : Bytes xs) : Bytes (crcOut xs) ∧ num4L (crcOut xs) = 4294967295 - (crcTo 4294967295 xs : Nat) := by
  have := crcTo_lt 4294967295 xs (by decide) hx
  exact ⟨be4_ok _ (by omega) (by omega), num4L_be4 _ (by omega) (by omega)⟩
theorem adOut_num (xs : List Int) : Bytes (adOut xs) ∧ num4L (adOut xs) = (adTo (1, 0) xs).2 * 65536 + (adTo (1, 0) xs).1 := by
  obtain ⟨h1, h2, h3, h4⟩ := adTo_ok (1, 0) xs ⟨by decide, by decide, by decide, by decide⟩
  exact ⟨be4_ok _ (by omega) (by omega), num4L_be4 _ (by omega) (by omega)⟩
end Go.Proofs.YtdlabapfcghfmaaGreatDoor
