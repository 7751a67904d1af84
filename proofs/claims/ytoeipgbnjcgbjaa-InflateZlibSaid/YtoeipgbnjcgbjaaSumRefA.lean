/- The document's Adler and CRC. -/
import Derived.Test.YtoeipgbnjcgbjaaSumPlain
namespace Go.Proofs.Ytoeipgbnjcgbjaa
open Go.RowKit
set_option linter.unusedVariables false

set_option maxRecDepth 100000 in
set_option maxHeartbeats 2000000 in
theorem refAdler_any (s : ByteArray) (w : World) (hsz : s.size ≤ 140737488355328) : Calls Try.prog 81 #[.string s] w fun e w' => e = .returned (.int .u32 ((adTo (1, 0) (bytesOf s)).2 * 65536 + (adTo (1, 0) (bytesOf s)).1)) ∧ w = w' := by
  go_enter Try.func81, Try.ntmps81
  go_wp2
  go_loopw [3, 4, 5] (fun a b i wr => ∃ k : Nat, k ≤ s.size ∧ i = .int .i64 k ∧ a = .int .u32 (adTo (1, 0) ((bytesOf s).take k)).1 ∧ b = .int .u32 (adTo (1, 0) ((bytesOf s).take k)).2 ∧ w = wr) (fun _ _ i _ => s.size - (intOf i).toNat)
  case atStart => exact ⟨0, Nat.zero_le _, rfl, rfl, rfl, rfl⟩
  case round =>
    obtain ⟨k, hk, rfl, rfl, rfl, rfl⟩ := hrel
    by_cases hlt : k < s.size
    · have hts := take_snoc_getD (bytesOf s) k (by rw [bytesOf_len]; exact hlt)
      have hx := (bytesOf_ok s).at_ k (by rw [bytesOf_len]; exact hlt)
      rw [bytesOf_at s k hlt] at hts hx
      have HN : Hid (adTo (1, 0) ((bytesOf s).take (k + 1)) = adStep (adTo (1, 0) ((bytesOf s).take k)) ((s[k]'hlt).toNat : Int)) := by show _ = _; rw [hts, adTo_snoc]
      have hok := adTo_ok (1, 0) ((bytesOf s).take k) ⟨by decide, by decide, by decide, by decide⟩
      clear hts
      generalize adTo (1, 0) ((bytesOf s).take k) = t at *
      obtain ⟨ta, tb⟩ := t
      obtain ⟨c1, c2, c3, c4⟩ := hok
      simp only at c1 c2 c3 c4
      go_wp2
      go_roundw
      case rel =>
        refine ⟨k + 1, by omega, by go_num, ?_, ?_, by first | rfl | trivial⟩
        · rw [HN.out]; simp only [adStep]
        · rw [HN.out]; simp only [adStep]
      case measure => simp [intOf]; omega
    · obtain rfl : k = s.size := by omega
      have hok := adTo_ok (1, 0) (bytesOf s) ⟨by decide, by decide, by decide, by decide⟩
      rw [show (bytesOf s).take s.size = bytesOf s by rw [← bytesOf_len, List.take_length]]
      generalize hT : adTo (1, 0) (bytesOf s) = t at *
      have HT := Lib.hid hT
      clear hT
      obtain ⟨ta, tb⟩ := t
      obtain ⟨c1, c2, c3, c4⟩ := hok
      simp only at c1 c2 c3 c4
      have hN : bits BinOp.or IntKind.u32 (tb * 65536) ta = tb * 65536 + ta := u32_join ta tb ⟨c1, by omega⟩ ⟨c3, by omega⟩
      go_wp2
      go_ret
      exact ⟨by rw [HT.out]; rfl, rfl⟩
end Go.Proofs.Ytoeipgbnjcgbjaa
