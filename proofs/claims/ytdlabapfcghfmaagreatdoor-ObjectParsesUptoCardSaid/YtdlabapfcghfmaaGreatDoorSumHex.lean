/- Hex of package sum. -/
import Derived.Test.YtdlabapfcghfmaaGreatDoorSumHexA
import Derived.Laws.BitsLemmas
namespace Go.Proofs.YtdlabapfcghfmaaGreatDoor
open Go.RowKit
set_option linter.unusedVariables false

def hexd (n : Int) : Int := if n < 10 then 48 + n else 87 + n
theorem hexIx0 (w : World) : (Instr.index 9 (.string (⟨#[48, 49, 50, 51, 52, 53, 54, 55, 56, 57, 97, 98, 99, 100, 101, 102]⟩ : ByteArray)) (.int .u8 ((0 : Nat) : Int))).run Tryz.prog w = .ok (.int .u8 48) w := by kernel_rfl
theorem hexIx1 (w : World) : (Instr.index 9 (.string (⟨#[48, 49, 50, 51, 52, 53, 54, 55, 56, 57, 97, 98, 99, 100, 101, 102]⟩ : ByteArray)) (.int .u8 ((1 : Nat) : Int))).run Tryz.prog w = .ok (.int .u8 49) w := by kernel_rfl
theorem hexIx2 (w : World) : (Instr.index 9 (.string (⟨#[48, 49, 50, 51, 52, 53, 54, 55, 56, 57, 97, 98, 99, 100, 101, 102]⟩ : ByteArray)) (.int .u8 ((2 : Nat) : Int))).run Tryz.prog w = .ok (.int .u8 50) w := by kernel_rfl
theorem hexIx3 (w : World) : (Instr.index 9 (.string (⟨#[48, 49, 50, 51, 52, 53, 54, 55, 56, 57, 97, 98, 99, 100, 101, 102]⟩ : ByteArray)) (.int .u8 ((3 : Nat) : Int))).run Tryz.prog w = .ok (.int .u8 51) w := by kernel_rfl
theorem hexIx4 (w : World) : (Instr.index 9 (.string (⟨#[48, 49, 50, 51, 52, 53, 54, 55, 56, 57, 97, 98, 99, 100, 101, 102]⟩ : ByteArray)) (.int .u8 ((4 : Nat) : Int))).run Tryz.prog w = .ok (.int .u8 52) w := by kernel_rfl
theorem hexIx5 (w : World) : (Instr.index 9 (.string (⟨#[48, 49, 50, 51, 52, 53, 54, 55, 56, 57, 97, 98, 99, 100, 101, 102]⟩ : ByteArray)) (.int .u8 ((5 : Nat) : Int))).run Tryz.prog w = .ok (.int .u8 53) w := by kernel_rfl
theorem hexIx6 (w : World) : (Instr.index 9 (.string (⟨#[48, 49, 50, 51, 52, 53, 54, 55, 56, 57, 97, 98, 99, 100, 101, 102]⟩ : ByteArray)) (.int .u8 ((6 : Nat) : Int))).run Tryz.prog w = .ok (.int .u8 54) w := by kernel_rfl
theorem hexIx7 (w : World) : (Instr.index 9 (.string (⟨#[48, 49, 50, 51, 52, 53, 54, 55, 56, 57, 97, 98, 99, 100, 101, 102]⟩ : ByteArray)) (.int .u8 ((7 : Nat) : Int))).run Tryz.prog w = .ok (.int .u8 55) w := by kernel_rfl
theorem hexIx8 (w : World) : (Instr.index 9 (.string (⟨#[48, 49, 50, 51, 52, 53, 54, 55, 56, 57, 97, 98, 99, 100, 101, 102]⟩ : ByteArray)) (.int .u8 ((8 : Nat) : Int))).run Tryz.prog w = .ok (.int .u8 56) w := by kernel_rfl
theorem hexIx9 (w : World) : (Instr.index 9 (.string (⟨#[48, 49, 50, 51, 52, 53, 54, 55, 56, 57, 97, 98, 99, 100, 101, 102]⟩ : ByteArray)) (.int .u8 ((9 : Nat) : Int))).run Tryz.prog w = .ok (.int .u8 57) w := by kernel_rfl
theorem hexIx10 (w : World) : (Instr.index 9 (.string (⟨#[48, 49, 50, 51, 52, 53, 54, 55, 56, 57, 97, 98, 99, 100, 101, 102]⟩ : ByteArray)) (.int .u8 ((10 : Nat) : Int))).run Tryz.prog w = .ok (.int .u8 97) w := by kernel_rfl
theorem hexIx11 (w : World) : (Instr.index 9 (.string (⟨#[48, 49, 50, 51, 52, 53, 54, 55, 56, 57, 97, 98, 99, 100, 101, 102]⟩ : ByteArray)) (.int .u8 ((11 : Nat) : Int))).run Tryz.prog w = .ok (.int .u8 98) w := by kernel_rfl
theorem hexIx12 (w : World) : (Instr.index 9 (.string (⟨#[48, 49, 50, 51, 52, 53, 54, 55, 56, 57, 97, 98, 99, 100, 101, 102]⟩ : ByteArray)) (.int .u8 ((12 : Nat) : Int))).run Tryz.prog w = .ok (.int .u8 99) w := by kernel_rfl
theorem hexIx13 (w : World) : (Instr.index 9 (.string (⟨#[48, 49, 50, 51, 52, 53, 54, 55, 56, 57, 97, 98, 99, 100, 101, 102]⟩ : ByteArray)) (.int .u8 ((13 : Nat) : Int))).run Tryz.prog w = .ok (.int .u8 100) w := by kernel_rfl
theorem hexIx14 (w : World) : (Instr.index 9 (.string (⟨#[48, 49, 50, 51, 52, 53, 54, 55, 56, 57, 97, 98, 99, 100, 101, 102]⟩ : ByteArray)) (.int .u8 ((14 : Nat) : Int))).run Tryz.prog w = .ok (.int .u8 101) w := by kernel_rfl
theorem hexIx15 (w : World) : (Instr.index 9 (.string (⟨#[48, 49, 50, 51, 52, 53, 54, 55, 56, 57, 97, 98, 99, 100, 101, 102]⟩ : ByteArray)) (.int .u8 ((15 : Nat) : Int))).run Tryz.prog w = .ok (.int .u8 102) w := by kernel_rfl
theorem hexIx (x : Int) (h0 : 0 ≤ x) (h : x < 16) (w : World) : (Instr.index 9 (.string (⟨#[48, 49, 50, 51, 52, 53, 54, 55, 56, 57, 97, 98, 99, 100, 101, 102]⟩ : ByteArray)) (.int .u8 x)).run Tryz.prog w = .ok (.int .u8 (hexd x)) w := by
  obtain ⟨n, rfl⟩ := Int.eq_ofNat_of_zero_le h0
  rcases (by omega : n = 0 ∨ n = 1 ∨ n = 2 ∨ n = 3 ∨ n = 4 ∨ n = 5 ∨ n = 6 ∨ n = 7 ∨ n = 8 ∨ n = 9 ∨ n = 10 ∨ n = 11 ∨ n = 12 ∨ n = 13 ∨ n = 14 ∨ n = 15) with rfl | rfl | rfl | rfl | rfl | rfl | rfl | rfl | rfl | rfl | rfl | rfl | rfl | rfl | rfl | rfl
  · exact hexIx0 w
  · exact hexIx1 w
  · exact hexIx2 w
  · exact hexIx3 w
  · exact hexIx4 w
  · exact hexIx5 w
  · exact hexIx6 w
  · exact hexIx7 w
  · exact hexIx8 w
  · exact hexIx9 w
  · exact hexIx10 w
  · exact hexIx11 w
  · exact hexIx12 w
  · exact hexIx13 w
  · exact hexIx14 w
  · exact hexIx15 w

def hexOf (x : Int) : List Int := [hexd (x / 16), hexd (x % 16)]
def hexL : List Int → List Int
  | [] => []
  | x :: xs => hexOf x ++ hexL xs
theorem hexL_snoc (xs : List Int) (x : Int) : hexL (xs ++ [x]) = hexL xs ++ hexOf x := by
  induction xs with
  | nil => simp [hexL]
  | cons y ys ih => simp [hexL, ih]
theorem hexL_len (xs : List Int) : (hexL xs).length = 2 * xs.length := by
  induction xs with
  | nil => rfl
  | cons y ys ih => simp [hexL, hexOf, ih]; omega

set_option maxRecDepth 100000 in
set_option maxHeartbeats 2000000 in
theorem hex_any (A : Option Addr) (n c : Nat) (xs : List Int) (w : World) (hI : Ints .u8 w A xs) (hn : xs.length = n) (hb : Bytes xs) (hsz : n ≤ 70368744177000) :
    Calls Tryz.prog 28 #[.slice A n c] w fun e w' => e = .returned (.string (strOfNums (hexL xs))) ∧ Below w.heap.size w w' := by
  subst hn
  obtain ⟨i0, hi, hz0, hz1, hz2⟩ := info_parts Tryz.info_u8
  have hmk : ∀ w : World, (Instr.makeSlice 24 (.int .i64 0) (.int .i64 (2 * (xs.length : Int)))).run Tryz.prog w = .ok (.slice (some ⟨w.heap.size, 0, none⟩) 0 (2 * xs.length)) (w.alloc (.cells (madeCells #[.int .u8 0] (2 * xs.length)) 5)) := by
    have := make_bytes (2 * xs.length) (by omega)
    rwa [Int.natCast_mul] at this
  go_enter Tryz.func28, Tryz.ntmps28
  go_wp2
  have hoE : OwnS (w.alloc (.cells (madeCells #[.int .u8 0] (2 * xs.length)) 5)) w.heap.size 5 1 (.slice (some ⟨w.heap.size, 0, none⟩) 0 (2 * xs.length)) 0 [] := OwnS.empty (Nat.le_refl _) (heap_alloc_new w _) (by unfold maxLen; omega) (by simp [madeCells])
  have hBE := (Below.refl w.heap.size w).alloc (Nat.le_refl _) (.cells (madeCells #[.int .u8 0] (2 * xs.length)) 5)
  have hIE := hI.below hBE
  generalize w.alloc (.cells (madeCells #[.int .u8 0] (2 * xs.length)) 5) = w9 at *
  go_loopw [3, 12] (fun out i wr => ∃ (k : Nat) (A : Option Addr) (c : Nat), k ≤ xs.length ∧ i = .int .i64 k ∧ out = .slice A (hexL (xs.take k)).length c ∧ OwnS wr w.heap.size 5 1 (.slice A (hexL (xs.take k)).length c) (hexL (xs.take k)).length ((hexL (xs.take k)).map (Value.int .u8)) ∧ Below w.heap.size w wr) (fun _ i _ => xs.length - (intOf i).toNat)
  case atStart => exact ⟨0, _, _, by omega, rfl, rfl, hoE, hBE⟩
  case round =>
    clear hoE hBE hIE
    obtain ⟨k, A9, c9, hk9, rfl, rfl, ho, hB⟩ := hrel
    by_cases hlt : k < xs.length
    · have hI9 := hI.below hB
      have hx := hb.at_ k hlt
      have HN : Hid (hexL (xs.take (k + 1)) = hexL (xs.take k) ++ hexOf (xs.getD k 0)) := by show _ = _; rw [take_snoc_getD xs k hlt, hexL_snoc]
      have hll : (hexL (xs.take k)).length ≤ 140737488355000 := by rw [hexL_len, List.length_take_of_le hk9]; omega
      obtain ⟨b, o, rfl, hbl, hcell⟩ := hI9 (by omega)
      have hc := hcell k hlt
      have hx1 : 0 ≤ xs.getD k 0 / 16 ∧ xs.getD k 0 / 16 < 16 := by omega
      have hx2 : 0 ≤ xs.getD k 0 % 16 ∧ xs.getD k 0 % 16 < 16 := by omega
      clear hcell hI
      generalize xs.getD k 0 = x at *
      generalize hexL (xs.take k) = l at *
      have hi1 := hexIx (x / 16) hx1.1 hx1.2
      have hi2 := hexIx (x % 16) hx2.1 hx2.2
      have ha : bits .and .u8 x 15 = x % 16 := u8_and15 x hx.1 hx.2
      clear hI9
      go_wp2
      go_region_law (refine step_append_S rfl (.tmp 16) (.tmp 23) 24 24 rfl i0 (.int .u8 0) 1 (.slice 5) Tryz.underlying24 Tryz.underlying24 (fun _ h => by cases h) hi hz0 hz1 hz2 rfl rfl rfl ((ho.alloc _).drew) ((Src.new (us := (hexOf x).map (Value.int .u8)) rfl (ints_oneCell .u8 (hexOf x))).drew) ?_ ?_ ?_ ?_; (simp only [hexOf, List.length_map, List.length_cons, List.length_nil]; unfold maxLen; omega); (simp only [hexOf, List.length_map, List.length_cons, List.length_nil]; omega); (have := hB.size; simp; omega); intro A2 c2 w2 ho2 hg2 hw2)
      all_goals
        go_wp2
        go_roundw
        case rel =>
          have hB' := hB.size
          refine ⟨k + 1, A2, c2, by omega, by go_num, ?_, ?_, ?_⟩
          · rw [HN.out, List.length_append]
          · rw [HN.out, List.length_append, List.map_append]; exact ho2
          · exact ((hB.alloc (by omega) _).drew).grown hg2 (by simp; omega) (fun q h => (ho.lt q h).1)
        case measure => simp [intOf]; omega
    · obtain rfl : k = xs.length := by omega
      rw [List.take_length] at ho ⊢
      have hcv := run_str_ints (P := Tryz.prog) (w := wr) 24 9 5 Tryz.underlying24 Tryz.underlying5 Tryz.underlying9 A9 c9 (hexL xs) ho.ints
      go_wp2
      go_ret
      exact ⟨rfl, hB⟩
end Go.Proofs.YtdlabapfcghfmaaGreatDoor
