/- The document's CRC. -/
import Derived.Test.YtoeipgbnjcgbjaaSumPlain
namespace Go.Proofs.Ytoeipgbnjcgbjaa
open Go.RowKit
set_option linter.unusedVariables false

set_option maxRecDepth 100000 in
set_option maxHeartbeats 2000000 in
theorem refCrc_any (s : ByteArray) (w : World) (hsz : s.size ≤ 140737488355328) : Calls Try.prog 52 #[.string s] w fun e w' => e = .returned (.int .u32 (4294967295 - (rcTo 4294967295 (bytesOf s) : Nat))) ∧ w = w' := by
  go_enter Try.func52, Try.ntmps52
  go_wp2
  go_loopw [3, 4] (fun a i wr => ∃ k : Nat, k ≤ s.size ∧ i = .int .i64 k ∧ a = .int .u32 (rcTo 4294967295 ((bytesOf s).take k) : Nat) ∧ w = wr) (fun _ i _ => s.size - (intOf i).toNat)
  case atStart => exact ⟨0, Nat.zero_le _, rfl, rfl, rfl⟩
  case round =>
    obtain ⟨k, hk, rfl, rfl, rfl⟩ := hrel
    by_cases hlt : k < s.size
    · have hts := take_snoc_getD (bytesOf s) k (by rw [bytesOf_len]; exact hlt)
      have hx := (bytesOf_ok s).at_ k (by rw [bytesOf_len]; exact hlt)
      rw [bytesOf_at s k hlt] at hts hx
      have HN : Hid (rcTo 4294967295 ((bytesOf s).take (k + 1)) = rcStep (rcTo 4294967295 ((bytesOf s).take k)) (s[k]'hlt).toNat) := by show _ = _; rw [hts, rcTo_snoc]; rfl
      have hok := rcTo_lt 4294967295 ((bytesOf s).take k) (by decide) ((bytesOf_ok s).take k)
      clear hts
      generalize rcTo 4294967295 ((bytesOf s).take k) = t at *
      have hx32 := u32_xor_nat t (s[k]'hlt).toNat hok (by omega)
      have hz : t ^^^ (s[k]'hlt).toNat < 4294967296 := Nat.xor_lt_two_pow (n := 32) (by omega) (by omega)
      have HS : Hid (rcStep t (s[k]'hlt).toNat = crcN 8 (t ^^^ (s[k]'hlt).toNat)) := rfl
      generalize t ^^^ (s[k]'hlt).toNat = z at *
      go_wp2
      go_loopw [3, 5] (fun a j wr => ∃ q : Nat, q ≤ 8 ∧ j = .int .i64 q ∧ a = .int .u32 (crcN q z : Nat) ∧ w = wr) (fun _ j _ => 8 - (intOf j).toNat)
      case atStart => exact ⟨0, by omega, rfl, rfl, rfl⟩
      case round =>
        obtain ⟨q, hq, rfl, rfl, rfl⟩ := hrel
        have hcl := crcN_lt q z hz
        by_cases hlq : q < 8
        · have HC : Hid (crcN (q + 1) z = crcBit (crcN q z)) := rfl
          generalize crcN q z = y at *
          have ha : bits .and .u32 (y : Int) 1 = (y : Int) % 2 := by
            have := u32_and_nat y 1 hcl (by decide)
            rw [Nat.and_one_is_mod] at this
            exact this.trans (by omega)
          by_cases h1 : (y : Int) % 2 = 1
          · have HB := Lib.hid (crcBit_one y (by omega))
            have hx3 : bits .xor .u32 ((y : Int) / 2) 3988292384 = (((y / 2) ^^^ 3988292384 : Nat) : Int) := by
              rw [show ((y : Int) / 2) = ((y / 2 : Nat) : Int) by omega]
              exact u32_xor_nat _ _ (by omega) (by decide)
            go_wp2
            go_roundw
            case rel => exact ⟨q + 1, by omega, by go_num, by rw [HC.out, HB.out], by first | rfl | trivial⟩
            case measure => simp [intOf]; omega
          · have HB := Lib.hid (crcBit_zero y (by omega))
            have hd : decide ((y : Int) % 2 = 1) = false := by simpa using h1
            go_wp2
            go_roundw
            case rel => exact ⟨q + 1, by omega, by go_num, by rw [HC.out, HB.out]; first | rfl | (congr 1; omega), by first | rfl | trivial⟩
            case measure => simp [intOf]; omega
        · obtain rfl : q = 8 := by omega
          go_wp2
          go_roundw
          case rel => exact ⟨k + 1, by omega, by go_num, by rw [HN.out, HS.out], by first | rfl | trivial⟩
          case measure => simp [intOf]; omega
    · obtain rfl : k = s.size := by omega
      have hlt2 := rcTo_lt 4294967295 (bytesOf s) (by decide) (bytesOf_ok s)
      rw [show (bytesOf s).take s.size = bytesOf s by rw [← bytesOf_len, List.take_length]]
      generalize hT : rcTo 4294967295 (bytesOf s) = t at *
      have HT := Lib.hid hT
      clear hT
      have hN : bits BinOp.xor IntKind.u32 (if IntKind.u32.signed = true then -1 else IntKind.u32.max) (t : Int) = 4294967295 - (t : Int) := u32_not t (by omega) (by omega)
      have hN2 : bits BinOp.xor IntKind.u32 IntKind.u32.max (t : Int) = 4294967295 - (t : Int) := u32_not t (by omega) (by omega)
      go_wp2
      go_ret
      exact ⟨by rw [HT.out]; first | rfl | (simp only [hN2]; rfl), rfl⟩
end Go.Proofs.Ytoeipgbnjcgbjaa
