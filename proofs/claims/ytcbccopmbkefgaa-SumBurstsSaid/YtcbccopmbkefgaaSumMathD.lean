/- Plain laws on the CRC: what the turning of bits does to it; a burst within 32 bits changes it. -/
import Derived.Test.YtcbccopmbkefgaaSumMathC
namespace Go.Proofs.Ytcbccopmbkefgaa
open Go.RowKit
set_option linter.unusedVariables false

theorem crcN_add (a b c : Nat) : crcN (a + b) c = crcN a (crcN b c) := by
  induction a with
  | zero => rw [Nat.zero_add]; rfl
  | succ a ih => rw [show a + 1 + b = (a + b) + 1 by omega, crcN, ih]; rfl
theorem crcN_pow (r : Nat) : crcN r (2 ^ r) = 1 := by
  induction r with
  | zero => rfl
  | succ r ih => rw [crcN_add r 1, show crcN 1 (2 ^ (r + 1)) = crcBit (2 ^ (r + 1)) from rfl, Nat.pow_succ, Nat.mul_comm, crcBit_even, ih]
theorem crcBit_ne (c : Nat) (h : c < 4294967296) (hc : c ≠ 0) : crcBit c ≠ 0 := by
  unfold crcBit
  split
  · intro h0
    have h1 := congrArg (fun n => n.testBit 31) h0
    simp only [Nat.testBit_xor, Nat.zero_testBit] at h1
    have h2 : (c / 2).testBit 31 = false := Nat.testBit_lt_two_pow (by omega)
    rw [h2] at h1
    revert h1
    decide
  · omega
theorem crcN_ne (n c : Nat) (h : c < 4294967296) (hc : c ≠ 0) : crcN n c ≠ 0 := by
  induction n with
  | zero => exact hc
  | succ n ih => exact crcBit_ne _ (crcN_lt n c h) ih
theorem rcTo_err (xs : List Int) : ∀ (c e : Nat), rcTo (c ^^^ e) xs = rcTo c xs ^^^ crcN (8 * xs.length) e := by
  induction xs with
  | nil => intro c e; rfl
  | cons x xs ih =>
    intro c e
    show rcTo (rcStep (c ^^^ e) x.toNat) xs = rcTo (rcStep c x.toNat) xs ^^^ crcN (8 * (xs.length + 1)) e
    have h : rcStep (c ^^^ e) x.toNat = rcStep c x.toNat ^^^ crcN 8 e := by
      unfold rcStep
      rw [← crcN_xor]
      congr 1
      ac_rfl
    rw [h, ih, show 8 * (xs.length + 1) = 8 * xs.length + 8 by omega, crcN_add]
theorem rcTo_set (xs : List Int) : ∀ (j : Nat) (c y : Nat), j < xs.length → rcTo c (xs.set j (((xs.getD j 0).toNat ^^^ y : Nat) : Int)) = rcTo c xs ^^^ crcN (8 * (xs.length - j)) y := by
  induction xs with
  | nil => intro j c y h; simp at h
  | cons x xs ih =>
    intro j c y h
    cases j with
    | zero =>
      show rcTo (rcStep c (((x.toNat ^^^ y : Nat) : Int)).toNat) xs = rcTo (rcStep c x.toNat) xs ^^^ crcN (8 * (xs.length + 1)) y
      have h : rcStep c (((x.toNat ^^^ y : Nat) : Int)).toNat = rcStep c x.toNat ^^^ crcN 8 y := by
        unfold rcStep
        rw [Int.toNat_natCast, ← crcN_xor]
        congr 1
        ac_rfl
      rw [h, rcTo_err, show 8 * (xs.length + 1) = 8 * xs.length + 8 by omega, crcN_add]
    | succ j =>
      have := ih j (rcStep c x.toNat) y (by simpa using h)
      rw [show 8 * ((x :: xs).length - (j + 1)) = 8 * (xs.length - j) by simp]
      exact this
/-- A bit turned. -/
def flip (xs : List Int) (t : Nat) : List Int := xs.set (t / 8) (((xs.getD (t / 8) 0).toNat ^^^ 2 ^ (t % 8) : Nat) : Int)
theorem flip_len (xs : List Int) (t : Nat) : (flip xs t).length = xs.length := by simp [flip]
theorem flip_ok (xs : List Int) (t : Nat) (h : Bytes xs) (ht : t < 8 * xs.length) : Bytes (flip xs t) := by
  intro x hx
  have hj : t / 8 < xs.length := by omega
  rcases List.mem_or_eq_of_mem_set hx with hx | rfl
  · exact h x hx
  · have := h.at_ (t / 8) hj
    have h1 : (xs.getD (t / 8) 0).toNat ^^^ 2 ^ (t % 8) < 2 ^ 8 := Nat.xor_lt_two_pow (by omega) (Nat.pow_lt_pow_right (by decide) (by omega))
    omega
theorem rcTo_flip (xs : List Int) (c t : Nat) (h : t < 8 * xs.length) : rcTo c (flip xs t) = rcTo c xs ^^^ crcN (8 * xs.length - t) 1 := by
  unfold flip
  rw [rcTo_set xs (t / 8) c _ (by omega), show 8 * (xs.length - t / 8) = (8 * xs.length - t) + t % 8 by omega, crcN_add, crcN_pow]
/-- The first k bits of a burst turned, from bit F on. -/
def burstTo (xs : List Int) (F b : Nat) : Nat → List Int
  | 0 => xs
  | k + 1 => if b / 2 ^ k % 2 = 1 then flip (burstTo xs F b k) (F + k) else burstTo xs F b k
theorem burstTo_len (xs : List Int) (F b k : Nat) : (burstTo xs F b k).length = xs.length := by
  induction k with
  | zero => rfl
  | succ k ih => rw [burstTo]; split; rw [flip_len, ih]; exact ih
theorem burstTo_ok (xs : List Int) (F b k : Nat) (h : Bytes xs) (hk : F + k ≤ 8 * xs.length) : Bytes (burstTo xs F b k) := by
  induction k with
  | zero => exact h
  | succ k ih =>
    rw [burstTo]
    split
    · exact flip_ok _ _ (ih (by omega)) (by rw [burstTo_len]; omega)
    · exact ih (by omega)
theorem burst_split (b k : Nat) : b % 2 ^ (k + 1) = if b / 2 ^ k % 2 = 1 then (b % 2 ^ k) ^^^ 2 ^ k else b % 2 ^ k := by
  have h := Nat.mod_pow_succ (b := 2) (x := b) (k := k)
  have hl : b % 2 ^ k < 2 ^ k := Nat.mod_lt _ (Nat.two_pow_pos k)
  split
  · rename_i h1
    rw [h, h1, Nat.mul_one]
    have := Nat.two_pow_add_eq_or_of_lt hl 1
    rw [Nat.mul_one] at this
    rw [Nat.add_comm, this]
    apply Nat.eq_of_testBit_eq
    intro i
    rw [Nat.testBit_or, Nat.testBit_xor, Nat.testBit_two_pow, Nat.testBit_mod_two_pow]
    by_cases hi : k = i
    · subst hi; simp
    · simp [hi]
  · rename_i h1
    rw [h, show b / 2 ^ k % 2 = 0 by omega, Nat.mul_zero, Nat.add_zero]
theorem rcTo_burst (xs : List Int) (F b c k : Nat) (hk : F + k ≤ 8 * xs.length) : rcTo c (burstTo xs F b k) = rcTo c xs ^^^ crcN (8 * xs.length - F) (b % 2 ^ k) := by
  induction k with
  | zero => simp [burstTo, Nat.mod_one]; rw [show crcN (8 * xs.length - F) 0 = 0 from by induction (8 * xs.length - F) with | zero => rfl | succ n ih => rw [crcN, ih]; rfl]; simp
  | succ k ih =>
    rw [burstTo, burst_split]
    split
    · rw [rcTo_flip _ _ _ (by rw [burstTo_len]; omega), ih (by omega), burstTo_len, crcN_xor, Nat.xor_assoc]
      congr 2
      rw [show 8 * xs.length - F = (8 * xs.length - (F + k)) + k by omega, crcN_add, crcN_pow]
    · exact ih (by omega)
theorem crc_burst (xs : List Int) (F b : Nat) (hb : b < 4294967296) (h0 : b ≠ 0) (hk : F + 32 ≤ 8 * xs.length) : crcTo 4294967295 (burstTo xs F b 32) ≠ crcTo 4294967295 xs := by
  rw [crcTo_bits, crcTo_bits, rcTo_burst xs F b _ 32 hk, Nat.mod_eq_of_lt (by omega)]
  intro h
  have hn := crcN_ne (8 * xs.length - F) b hb h0
  apply hn
  have := congrArg (fun n => rcTo 4294967295 xs ^^^ n) h
  simpa [← Nat.xor_assoc] using this
end Go.Proofs.Ytcbccopmbkefgaa
