/- Bits of an int that is not negative. No program's function is named here. -/
import Derived.Test.YtndjebddgnmpfaaLib
import Derived.Laws.BitsAllLaws
namespace Go.Proofs.Ytndjebddgnmpfaa
open Go.RowKit
set_option linter.unusedVariables false

theorem ofInt_i64 (a : Nat) (ha : a < 18446744073709551616) : (BitVec.ofInt 64 (a : Int)).toNat = a := by
  rw [BitVec.ofInt_natCast, BitVec.toNat_ofNat]; exact Nat.mod_eq_of_lt (by omega)
theorem i64_or_nat (a b : Nat) (ha : a < 9223372036854775808) (hb : b < 9223372036854775808) : bits .or .i64 (a : Int) (b : Int) = ((a ||| b : Nat) : Int) := by
  have hx : a ||| b < 2 ^ 63 := Nat.or_lt_two_pow (by omega) (by omega)
  show IntKind.i64.wrap ((BitVec.ofInt 64 (a : Int) ||| BitVec.ofInt 64 (b : Int)).toNat : Int) = _
  rw [BitVec.toNat_or, ofInt_i64 a (by omega), ofInt_i64 b (by omega)]
  exact IntWalk.i64_in _ (by omega)
theorem i64_and_nat (a b : Nat) (ha : a < 9223372036854775808) (hb : b < 9223372036854775808) : bits .and .i64 (a : Int) (b : Int) = ((a &&& b : Nat) : Int) := by
  have hx : a &&& b < 2 ^ 63 := Nat.and_lt_two_pow _ (by omega)
  show IntKind.i64.wrap ((BitVec.ofInt 64 (a : Int) &&& BitVec.ofInt 64 (b : Int)).toNat : Int) = _
  rw [BitVec.toNat_and, ofInt_i64 a (by omega), ofInt_i64 b (by omega)]
  exact IntWalk.i64_in _ (by omega)
theorem i64_or_add (x y : Int) (k : Nat) (hx : 0 ≤ x) (hy : 0 ≤ y) (hy2 : y < ((2 ^ k : Nat) : Int)) (hs : x * ((2 ^ k : Nat) : Int) + y < 9223372036854775808) : bits .or .i64 (x * ((2 ^ k : Nat) : Int)) y = x * ((2 ^ k : Nat) : Int) + y := by
  obtain ⟨n, rfl⟩ := Int.eq_ofNat_of_zero_le hx
  obtain ⟨m, rfl⟩ := Int.eq_ofNat_of_zero_le hy
  have h1 : n * 2 ^ k + m < 9223372036854775808 := by
    rw [← Int.natCast_mul, ← Int.natCast_add] at hs
    exact Int.ofNat_lt.1 hs
  rw [← Int.natCast_mul, i64_or_nat _ _ (by omega) (by omega), Nat.mul_comm, ← Nat.two_pow_add_eq_or_of_lt (by omega : m < 2 ^ k)]
  exact Int.natCast_add _ _
/-- Four bytes, the highest first, as an int. -/
theorem i64_num4 (a b c d : Int) (ha : 0 ≤ a ∧ a < 256) (hb : 0 ≤ b ∧ b < 256) (hc : 0 ≤ c ∧ c < 256) (hd : 0 ≤ d ∧ d < 256) :
    bits .or .i64 (bits .or .i64 (bits .or .i64 (a * 16777216) (b * 65536)) (c * 256)) d = a * 16777216 + b * 65536 + c * 256 + d := by
  have e1 : bits .or .i64 (a * 16777216) (b * 65536) = a * 16777216 + b * 65536 := i64_or_add a (b * 65536) 24 ha.1 (by omega) (by omega) (by omega)
  have e2 : bits .or .i64 ((a * 256 + b) * 65536) (c * 256) = (a * 256 + b) * 65536 + c * 256 := i64_or_add (a * 256 + b) (c * 256) 16 (by omega) (by omega) (by omega) (by omega)
  have e3 : bits .or .i64 ((a * 65536 + b * 256 + c) * 256) d = (a * 65536 + b * 256 + c) * 256 + d := i64_or_add (a * 65536 + b * 256 + c) d 8 (by omega) hd.1 (by omega) (by omega)
  rw [e1, show a * 16777216 + b * 65536 = (a * 256 + b) * 65536 by omega, e2, show (a * 256 + b) * 65536 + c * 256 = (a * 65536 + b * 256 + c) * 256 by omega, e3]
theorem i64_num2 (a b : Int) (ha : 0 ≤ a ∧ a < 256) (hb : 0 ≤ b ∧ b < 256) : bits .or .i64 (a * 256) b = a * 256 + b :=
  i64_or_add a b 8 ha.1 hb.1 (by omega) (by omega)
end Go.Proofs.Ytndjebddgnmpfaa
