/- Plain laws on the sums: a CRC by the table is a CRC by bits. -/
import Derived.Test.YtdlabapfcghfmaaGreatDoorSumPlain
namespace Go.Proofs.YtdlabapfcghfmaaGreatDoor
open Go.RowKit
set_option linter.unusedVariables false

theorem xor_half (a b : Nat) : (a ^^^ b) / 2 = (a / 2) ^^^ (b / 2) := by
  apply Nat.eq_of_testBit_eq
  intro i
  simp [Nat.testBit_div_two, Nat.testBit_xor]
theorem xor_odd (a b : Nat) : (a ^^^ b) % 2 = (a % 2 + b % 2) % 2 := by
  have h := Nat.testBit_xor a b 0
  simp only [Nat.testBit_zero] at h
  have e : ∀ n : Nat, n % 2 = 0 ∨ n % 2 = 1 := fun n => by omega
  rcases e a with ha | ha <;> rcases e b with hb | hb <;> rcases e (a ^^^ b) with hc | hc <;> simp_all
theorem crcBit_xor (a b : Nat) : crcBit (a ^^^ b) = crcBit a ^^^ crcBit b := by
  have h1 := xor_half a b
  have h2 := xor_odd a b
  have e : ∀ n : Nat, n % 2 = 0 ∨ n % 2 = 1 := fun n => by omega
  unfold crcBit
  rw [h1, h2]
  rcases e a with ha | ha <;> rcases e b with hb | hb <;> rw [ha, hb] <;> simp
  · ac_rfl
  · ac_rfl
  · rw [show (a / 2 ^^^ 3988292384 ^^^ (b / 2 ^^^ 3988292384)) = (a / 2 ^^^ b / 2) ^^^ (3988292384 ^^^ 3988292384) by ac_rfl, Nat.xor_self, Nat.xor_zero]
theorem crcN_xor (n a b : Nat) : crcN n (a ^^^ b) = crcN n a ^^^ crcN n b := by
  induction n with
  | zero => rfl
  | succ n ih => rw [crcN, ih, crcBit_xor]; rfl
theorem crcBit_even (k : Nat) : crcBit (2 * k) = k := by unfold crcBit; rw [if_neg (by omega)]; omega
theorem crcN_high (m : Nat) : crcN 8 (256 * m) = m := by
  have e : 256 * m = 2 * (2 * (2 * (2 * (2 * (2 * (2 * (2 * m))))))) := by omega
  rw [e]
  simp only [crcN, crcBit_even]
theorem split_xor (c : Nat) : c = (c % 256) ^^^ (256 * (c / 256)) := by
  apply Nat.eq_of_testBit_eq
  intro i
  rw [Nat.testBit_xor, show c % 256 = c % 2 ^ 8 from rfl, show 256 * (c / 256) = 2 ^ 8 * (c / 2 ^ 8) from rfl, Nat.testBit_mod_two_pow, Nat.testBit_two_pow_mul, Nat.testBit_div_two_pow]
  by_cases h : i < 8
  · simp [h, show ¬ 8 ≤ i by omega]
  · simp [h, show 8 ≤ i by omega]
theorem crcStep_bits (c x : Nat) : crcStep c x = rcStep c x := by
  unfold crcStep rcStep crcTab
  have h : c ^^^ x = (c % 256 ^^^ x) ^^^ (256 * (c / 256)) := by
    conv => lhs; rw [split_xor c]
    ac_rfl
  rw [h, crcN_xor 8 (c % 256 ^^^ x) (256 * (c / 256)), crcN_high]
  ac_rfl
theorem crcTo_bits (c : Nat) (xs : List Int) : crcTo c xs = rcTo c xs := by
  unfold crcTo rcTo
  induction xs generalizing c with
  | nil => rfl
  | cons x xs ih => rw [List.foldl_cons, List.foldl_cons, crcStep_bits, ih]
end Go.Proofs.YtdlabapfcghfmaaGreatDoor
