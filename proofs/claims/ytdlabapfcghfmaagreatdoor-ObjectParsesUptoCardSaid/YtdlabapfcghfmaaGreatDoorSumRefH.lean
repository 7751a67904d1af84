/- The document's digit, Hex and Unhex. -/
import Derived.Test.YtdlabapfcghfmaaGreatDoorSumUnhex
namespace Go.Proofs.YtdlabapfcghfmaaGreatDoor
open Go.RowKit
set_option linter.unusedVariables false

theorem hexJx0 (w : World) : (Instr.index 9 (.string (⟨#[48, 49, 50, 51, 52, 53, 54, 55, 56, 57, 97, 98, 99, 100, 101, 102]⟩ : ByteArray)) (.int .i64 ((0 : Nat) : Int))).run Tryz.prog w = .ok (.int .u8 48) w := by kernel_rfl
theorem hexJx1 (w : World) : (Instr.index 9 (.string (⟨#[48, 49, 50, 51, 52, 53, 54, 55, 56, 57, 97, 98, 99, 100, 101, 102]⟩ : ByteArray)) (.int .i64 ((1 : Nat) : Int))).run Tryz.prog w = .ok (.int .u8 49) w := by kernel_rfl
theorem hexJx2 (w : World) : (Instr.index 9 (.string (⟨#[48, 49, 50, 51, 52, 53, 54, 55, 56, 57, 97, 98, 99, 100, 101, 102]⟩ : ByteArray)) (.int .i64 ((2 : Nat) : Int))).run Tryz.prog w = .ok (.int .u8 50) w := by kernel_rfl
theorem hexJx3 (w : World) : (Instr.index 9 (.string (⟨#[48, 49, 50, 51, 52, 53, 54, 55, 56, 57, 97, 98, 99, 100, 101, 102]⟩ : ByteArray)) (.int .i64 ((3 : Nat) : Int))).run Tryz.prog w = .ok (.int .u8 51) w := by kernel_rfl
theorem hexJx4 (w : World) : (Instr.index 9 (.string (⟨#[48, 49, 50, 51, 52, 53, 54, 55, 56, 57, 97, 98, 99, 100, 101, 102]⟩ : ByteArray)) (.int .i64 ((4 : Nat) : Int))).run Tryz.prog w = .ok (.int .u8 52) w := by kernel_rfl
theorem hexJx5 (w : World) : (Instr.index 9 (.string (⟨#[48, 49, 50, 51, 52, 53, 54, 55, 56, 57, 97, 98, 99, 100, 101, 102]⟩ : ByteArray)) (.int .i64 ((5 : Nat) : Int))).run Tryz.prog w = .ok (.int .u8 53) w := by kernel_rfl
theorem hexJx6 (w : World) : (Instr.index 9 (.string (⟨#[48, 49, 50, 51, 52, 53, 54, 55, 56, 57, 97, 98, 99, 100, 101, 102]⟩ : ByteArray)) (.int .i64 ((6 : Nat) : Int))).run Tryz.prog w = .ok (.int .u8 54) w := by kernel_rfl
theorem hexJx7 (w : World) : (Instr.index 9 (.string (⟨#[48, 49, 50, 51, 52, 53, 54, 55, 56, 57, 97, 98, 99, 100, 101, 102]⟩ : ByteArray)) (.int .i64 ((7 : Nat) : Int))).run Tryz.prog w = .ok (.int .u8 55) w := by kernel_rfl
theorem hexJx8 (w : World) : (Instr.index 9 (.string (⟨#[48, 49, 50, 51, 52, 53, 54, 55, 56, 57, 97, 98, 99, 100, 101, 102]⟩ : ByteArray)) (.int .i64 ((8 : Nat) : Int))).run Tryz.prog w = .ok (.int .u8 56) w := by kernel_rfl
theorem hexJx9 (w : World) : (Instr.index 9 (.string (⟨#[48, 49, 50, 51, 52, 53, 54, 55, 56, 57, 97, 98, 99, 100, 101, 102]⟩ : ByteArray)) (.int .i64 ((9 : Nat) : Int))).run Tryz.prog w = .ok (.int .u8 57) w := by kernel_rfl
theorem hexJx10 (w : World) : (Instr.index 9 (.string (⟨#[48, 49, 50, 51, 52, 53, 54, 55, 56, 57, 97, 98, 99, 100, 101, 102]⟩ : ByteArray)) (.int .i64 ((10 : Nat) : Int))).run Tryz.prog w = .ok (.int .u8 97) w := by kernel_rfl
theorem hexJx11 (w : World) : (Instr.index 9 (.string (⟨#[48, 49, 50, 51, 52, 53, 54, 55, 56, 57, 97, 98, 99, 100, 101, 102]⟩ : ByteArray)) (.int .i64 ((11 : Nat) : Int))).run Tryz.prog w = .ok (.int .u8 98) w := by kernel_rfl
theorem hexJx12 (w : World) : (Instr.index 9 (.string (⟨#[48, 49, 50, 51, 52, 53, 54, 55, 56, 57, 97, 98, 99, 100, 101, 102]⟩ : ByteArray)) (.int .i64 ((12 : Nat) : Int))).run Tryz.prog w = .ok (.int .u8 99) w := by kernel_rfl
theorem hexJx13 (w : World) : (Instr.index 9 (.string (⟨#[48, 49, 50, 51, 52, 53, 54, 55, 56, 57, 97, 98, 99, 100, 101, 102]⟩ : ByteArray)) (.int .i64 ((13 : Nat) : Int))).run Tryz.prog w = .ok (.int .u8 100) w := by kernel_rfl
theorem hexJx14 (w : World) : (Instr.index 9 (.string (⟨#[48, 49, 50, 51, 52, 53, 54, 55, 56, 57, 97, 98, 99, 100, 101, 102]⟩ : ByteArray)) (.int .i64 ((14 : Nat) : Int))).run Tryz.prog w = .ok (.int .u8 101) w := by kernel_rfl
theorem hexJx15 (w : World) : (Instr.index 9 (.string (⟨#[48, 49, 50, 51, 52, 53, 54, 55, 56, 57, 97, 98, 99, 100, 101, 102]⟩ : ByteArray)) (.int .i64 ((15 : Nat) : Int))).run Tryz.prog w = .ok (.int .u8 102) w := by kernel_rfl
theorem hexJx (n : Nat) (h : n < 16) (w : World) : (Instr.index 9 (.string (⟨#[48, 49, 50, 51, 52, 53, 54, 55, 56, 57, 97, 98, 99, 100, 101, 102]⟩ : ByteArray)) (.int .i64 (n : Int))).run Tryz.prog w = .ok (.int .u8 (hexd (n : Int))) w := by
  rcases (by omega : n = 0 ∨ n = 1 ∨ n = 2 ∨ n = 3 ∨ n = 4 ∨ n = 5 ∨ n = 6 ∨ n = 7 ∨ n = 8 ∨ n = 9 ∨ n = 10 ∨ n = 11 ∨ n = 12 ∨ n = 13 ∨ n = 14 ∨ n = 15) with rfl | rfl | rfl | rfl | rfl | rfl | rfl | rfl | rfl | rfl | rfl | rfl | rfl | rfl | rfl | rfl
  · exact hexJx0 w
  · exact hexJx1 w
  · exact hexJx2 w
  · exact hexJx3 w
  · exact hexJx4 w
  · exact hexJx5 w
  · exact hexJx6 w
  · exact hexJx7 w
  · exact hexJx8 w
  · exact hexJx9 w
  · exact hexJx10 w
  · exact hexJx11 w
  · exact hexJx12 w
  · exact hexJx13 w
  · exact hexJx14 w
  · exact hexJx15 w

def digR (c : Int) : Int := match dig c with | some d => d | none => -1
theorem dig_hexd (c : Int) (n : Int) (h0 : 0 ≤ n) (h1 : n < 16) (h : hexd n = c) : digR c = n := by
  subst h
  unfold hexd
  by_cases hl : n < 10
  · rw [if_pos hl]; unfold digR dig; rw [if_pos (by omega)]; show (48 + n - 48) = n; omega
  · rw [if_neg hl]; unfold digR dig; rw [if_neg (by omega), if_pos (by omega)]; show (87 + n - 87) = n; omega
def NotTo (c : Int) (k : Nat) : Prop := ∀ j : Nat, j < k → hexd (j : Int) ≠ c
theorem NotTo.succ {c : Int} {k : Nat} (h : NotTo c k) (hk : hexd (k : Int) ≠ c) : NotTo c (k + 1) := fun j hj => by
  rcases Nat.lt_or_ge j k with h' | h'
  · exact h j h'
  · obtain rfl : j = k := by omega
    exact hk
theorem NotTo.none {c : Int} (h : NotTo c 16) : digR c = -1 := by
  unfold digR dig
  by_cases h1 : 48 ≤ c ∧ c ≤ 57
  · exfalso
    have := h (c - 48).toNat (by omega)
    unfold hexd at this
    rw [if_pos (by omega)] at this
    omega
  · rw [if_neg h1]
    by_cases h2 : 97 ≤ c ∧ c ≤ 102
    · exfalso
      have := h (c - 87).toNat (by omega)
      unfold hexd at this
      rw [if_neg (by omega)] at this
      omega
    · rw [if_neg h2]
theorem digR_some {c : Int} (h : (dig c).isSome = true) : digR c = (dig c).getD 0 ∧ 0 ≤ digR c ∧ digR c < 16 := by
  have := dig_ok c
  cases hd : dig c with
  | none => rw [hd] at h; cases h
  | some d => rw [hd] at this; unfold digR; rw [hd]; exact ⟨rfl, this⟩
theorem digR_none {c : Int} (h : (dig c).isSome = false) : digR c < 0 := by
  cases hd : dig c with
  | none => unfold digR; rw [hd]; decide
  | some d => rw [hd] at h; cases h

set_option maxRecDepth 100000 in
theorem digitR_any (c : Int) (w : World) : Calls Tryz.prog 126 #[.int .u8 c] w fun e w' => e = .returned (.int .i64 (digR c)) ∧ w = w' := by
  go_enter Tryz.func126, Tryz.ntmps126
  go_wp2
  go_loopw [3] (fun i wr => ∃ k : Nat, k ≤ 16 ∧ i = .int .i64 k ∧ NotTo c k ∧ w = wr) (fun i _ => 16 - (intOf i).toNat)
  case atStart => exact ⟨0, by omega, rfl, fun j hj => absurd hj (Nat.not_lt_zero _), rfl⟩
  case round =>
    obtain ⟨k, hk, rfl, hN, rfl⟩ := hrel
    by_cases hlt : k < 16
    · have hx := hexJx k hlt
      have hf := dig_hexd c k (by omega) (by omega)
      have hs := hN.succ
      generalize hexd (k : Int) = y at *
      by_cases he : y = c
      · have HF := Lib.hid (hf he)
        clear hf hs
        have hd : (y == c) = true := by simpa using he
        clear he
        go_wp2
        go_ret
        exact ⟨by rw [HF.out]; rfl, rfl⟩
      · have HS := hs he
        clear hf hs
        have hd : (y == c) = false := by simpa using he
        clear he
        go_wp2
        go_roundw
        case rel => exact ⟨k + 1, by omega, by go_num, HS, by first | rfl | trivial⟩
        case measure => simp [intOf]; omega
    · obtain rfl : k = 16 := by omega
      have HF := Lib.hid hN.none
      go_wp2
      go_ret
      exact ⟨by rw [HF.out]; rfl, rfl⟩

set_option maxRecDepth 100000 in
set_option maxHeartbeats 2000000 in
theorem hexR_any (A : Option Addr) (n c : Nat) (xs : List Int) (w : World) (hI : Ints .u8 w A xs) (hn : xs.length = n) (hb : Bytes xs) (hsz : n ≤ 70368744177000) :
    Calls Tryz.prog 38 #[.slice A n c] w fun e w' => e = .returned (.string (strOfNums (hexL xs))) ∧ Below w.heap.size w w' := by
  subst hn
  obtain ⟨i0, hi, hz0, hz1, hz2⟩ := info_parts Tryz.info_u8
  go_enter Tryz.func38, Tryz.ntmps38
  go_wp2
  go_loopw [3, 4] (fun out i wr => ∃ (k : Nat) (A : Option Addr) (c : Nat), k ≤ xs.length ∧ i = .int .i64 k ∧ out = .slice A (hexL (xs.take k)).length c ∧ OwnS wr w.heap.size 5 1 (.slice A (hexL (xs.take k)).length c) (hexL (xs.take k)).length ((hexL (xs.take k)).map (Value.int .u8)) ∧ Below w.heap.size w wr) (fun _ i _ => xs.length - (intOf i).toNat)
  case atStart => exact ⟨0, none, 0, by omega, rfl, rfl, OwnS.nil _ _ _ _, Below.refl _ _⟩
  case round =>
    obtain ⟨k, A9, c9, hk9, rfl, rfl, ho, hB⟩ := hrel
    by_cases hlt : k < xs.length
    · have hI9 := hI.below hB
      have hx := hb.at_ k hlt
      have HN : Hid (hexL (xs.take (k + 1)) = hexL (xs.take k) ++ hexOf (xs.getD k 0)) := by show _ = _; rw [take_snoc_getD xs k hlt, hexL_snoc]
      have hll : (hexL (xs.take k)).length ≤ 140737488355000 := by rw [hexL_len, List.length_take_of_le hk9]; omega
      obtain ⟨b, o, rfl, hbl, hcell⟩ := hI9 (by omega)
      have hc := hcell k hlt
      have hx1 : 0 ≤ xs.getD k 0 / 16 ∧ xs.getD k 0 / 16 < 16 := by omega
      have hx2 : 0 ≤ xs.getD k 0 % 16 ∧ xs.getD k 0 % 16 < 16 := by omega
      clear hcell hI
      generalize xs.getD k 0 = x at *
      generalize hexL (xs.take k) = l at *
      have hi1 := hexIx (x / 16) hx1.1 hx1.2
      have hi2 := hexIx (x % 16) hx2.1 hx2.2
      have ha : bits .and .u8 x 15 = x % 16 := u8_and15 x hx.1 hx.2
      have hkI : (k : Int) < xs.length := by omega
      clear hI9
      go_wp2
      go_region_law (refine step_append_S rfl (.tmp 11) (.tmp 24) 24 24 rfl i0 (.int .u8 0) 1 (.slice 5) Tryz.underlying24 Tryz.underlying24 (fun _ h => by cases h) hi hz0 hz1 hz2 rfl rfl rfl ((ho.alloc _).drew) ((Src.new (us := (hexOf x).map (Value.int .u8)) rfl (ints_oneCell .u8 (hexOf x))).drew) ?_ ?_ ?_ ?_; (simp only [hexOf, List.length_map, List.length_cons, List.length_nil]; unfold maxLen; omega); (simp only [hexOf, List.length_map, List.length_cons, List.length_nil]; omega); (have := hB.size; simp; omega); intro A2 c2 w2 ho2 hg2 hw2)
      all_goals
        go_wp2
        go_roundw
        case rel =>
          have hB' := hB.size
          refine ⟨k + 1, A2, c2, by omega, by go_num, ?_, ?_, ?_⟩
          · rw [HN.out, List.length_append]
          · rw [HN.out, List.length_append, List.map_append]; exact ho2
          · exact ((hB.alloc (by omega) _).drew).grown hg2 (by simp; omega) (fun q h => (ho.lt q h).1)
        case measure => simp [intOf]; omega
    · obtain rfl : k = xs.length := by omega
      rw [List.take_length] at ho ⊢
      have hcv := run_str_ints (P := Tryz.prog) (w := wr) 24 9 5 Tryz.underlying24 Tryz.underlying5 Tryz.underlying9 A9 c9 (hexL xs) ho.ints
      go_wp2
      go_ret
      exact ⟨rfl, hB⟩
end Go.Proofs.YtdlabapfcghfmaaGreatDoor
