/- The document's digit, Hex and Unhex. -/
import Derived.Test.YtihanglnjghcfaaGreatDoorGCt1
import Derived.Test.YtihanglnjghcfaaGreatDoorGCt0
import Derived.Shelf.Strings.Trim
import Derived.Shelf.Small.Utf8
import Derived.Shelf.Small.Bits
import Derived.Shelf.Small.Strs
import Derived.Shelf.Small.Wraps
import Derived.Shelf.Utf8.RuneCount
import Derived.Shelf.Strconv.Itoa0
import Derived.Shelf.Strings.Search1
import Derived.Shelf.Strings.Search2
import Derived.Shelf.Strings.Cut
import Derived.Shelf.LaysM
import Derived.Shelf.Strings.Shaped
import Derived.Shelf.Strings.Prefix
import Derived.Shelf.Unicode.Decode
import Derived.Shelf.Strings.Runes
import Derived.Shelf.Unicode.ValidAny
import Derived.Shelf.Strings.RuneCount
import Derived.Shelf.Strings.IndexAny
import Derived.Shelf.Strings.AsciiSet
import Derived.Shelf.Strings.IndexAnyAll
import Derived.Shelf.Unicode.DecodeSlow
import Derived.Shelf.Unicode.DecodeAny
import Derived.Shelf.Unicode.DecodeLast
import Derived.Shelf.Slices.Turned
import Derived.Test.YtihanglnjghcfaaGreatDoorProg
namespace Go.Proofs.YtihanglnjghcfaaGreatDoor
open Go.RowKit
set_option linter.unusedVariables false

theorem hexJx0 (w : World) : (Instr.index 9 (.string (⟨#[48, 49, 50, 51, 52, 53, 54, 55, 56, 57, 97, 98, 99, 100, 101, 102]⟩ : ByteArray)) (.int .i64 ((0 : Nat) : Int))).run Tryz.prog w = .ok (.int .u8 48) w := by kernel_rfl
theorem hexJx1 (w : World) : (Instr.index 9 (.string (⟨#[48, 49, 50, 51, 52, 53, 54, 55, 56, 57, 97, 98, 99, 100, 101, 102]⟩ : ByteArray)) (.int .i64 ((1 : Nat) : Int))).run Tryz.prog w = .ok (.int .u8 49) w := by kernel_rfl
theorem hexJx2 (w : World) : (Instr.index 9 (.string (⟨#[48, 49, 50, 51, 52, 53, 54, 55, 56, 57, 97, 98, 99, 100, 101, 102]⟩ : ByteArray)) (.int .i64 ((2 : Nat) : Int))).run Tryz.prog w = .ok (.int .u8 50) w := by kernel_rfl
theorem hexJx3 (w : World) : (Instr.index 9 (.string (⟨#[48, 49, 50, 51, 52, 53, 54, 55, 56, 57, 97, 98, 99, 100, 101, 102]⟩ : ByteArray)) (.int .i64 ((3 : Nat) : Int))).run Tryz.prog w = .ok (.int .u8 51) w := by kernel_rfl
theorem hexJx4 (w : World) : (Instr.index 9 (.string (⟨#[48, 49, 50, 51, 52, 53, 54, 55, 56, 57, 97, 98, 99, 100, 101, 102]⟩ : ByteArray)) (.int .i64 ((4 : Nat) : Int))).run Tryz.prog w = .ok (.int .u8 52) w := by kernel_rfl
theorem hexJx5 (w : World) : (Instr.index 9 (.string (⟨#[48, 49, 50, 51, 52, 53, 54, 55, 56, 57, 97, 98, 99, 100, 101, 102]⟩ : ByteArray)) (.int .i64 ((5 : Nat) : Int))).run Tryz.prog w = .ok (.int .u8 53) w := by kernel_rfl
theorem hexJx6 (w : World) : (Instr.index 9 (.string (⟨#[48, 49, 50, 51, 52, 53, 54, 55, 56, 57, 97, 98, 99, 100, 101, 102]⟩ : ByteArray)) (.int .i64 ((6 : Nat) : Int))).run Tryz.prog w = .ok (.int .u8 54) w := by kernel_rfl
theorem hexJx7 (w : World) : (Instr.index 9 (.string (⟨#[48, 49, 50, 51, 52, 53, 54, 55, 56, 57, 97, 98, 99, 100, 101, 102]⟩ : ByteArray)) (.int .i64 ((7 : Nat) : Int))).run Tryz.prog w = .ok (.int .u8 55) w := by kernel_rfl
theorem hexJx8 (w : World) : (Instr.index 9 (.string (⟨#[48, 49, 50, 51, 52, 53, 54, 55, 56, 57, 97, 98, 99, 100, 101, 102]⟩ : ByteArray)) (.int .i64 ((8 : Nat) : Int))).run Tryz.prog w = .ok (.int .u8 56) w := by kernel_rfl
theorem hexJx9 (w : World) : (Instr.index 9 (.string (⟨#[48, 49, 50, 51, 52, 53, 54, 55, 56, 57, 97, 98, 99, 100, 101, 102]⟩ : ByteArray)) (.int .i64 ((9 : Nat) : Int))).run Tryz.prog w = .ok (.int .u8 57) w := by kernel_rfl
theorem hexJx10 (w : World) : (Instr.index 9 (.string (⟨#[48, 49, 50, 51, 52, 53, 54, 55, 56, 57, 97, 98, 99, 100, 101, 102]⟩ : ByteArray)) (.int .i64 ((10 : Nat) : Int))).run Tryz.prog w = .ok (.int .u8 97) w := by kernel_rfl
theorem hexJx11 (w : World) : (Instr.index 9 (.string (⟨#[48, 49, 50, 51, 52, 53, 54, 55, 56, 57, 97, 98, 99, 100, 101, 102]⟩ : ByteArray)) (.int .i64 ((11 : Nat) : Int))).run Tryz.prog w = .ok (.int .u8 98) w := by kernel_rfl
theorem hexJx12 (w : World) : (Instr.index 9 (.string (⟨#[48, 49, 50, 51, 52, 53, 54, 55, 56, 57, 97, 98, 99, 100, 101, 102]⟩ : ByteArray)) (.int .i64 ((12 : Nat) : Int))).run Tryz.prog w = .ok (.int .u8 99) w := by kernel_rfl
theorem hexJx13 (w : World) : (Instr.index 9 (.string (⟨#[48, 49, 50, 51, 52, 53, 54, 55, 56, 57, 97, 98, 99, 100, 101, 102]⟩ : ByteArray)) (.int .i64 ((13 : Nat) : Int))).run Tryz.prog w = .ok (.int .u8 100) w := by kernel_rfl
theorem hexJx14 (w : World) : (Instr.index 9 (.string (⟨#[48, 49, 50, 51, 52, 53, 54, 55, 56, 57, 97, 98, 99, 100, 101, 102]⟩ : ByteArray)) (.int .i64 ((14 : Nat) : Int))).run Tryz.prog w = .ok (.int .u8 101) w := by kernel_rfl
theorem hexJx15 (w : World) : (Instr.index 9 (.string (⟨#[48, 49, 50, 51, 52, 53, 54, 55, 56, 57, 97, 98, 99, 100, 101, 102]⟩ : ByteArray)) (.int .i64 ((15 : Nat) : Int))).run Tryz.prog w = .ok (.int .u8 102) w := by kernel_rfl
theorem hexJx (n : Nat) (h : n < 16) (w : World) : (Instr.index 9 (.string (⟨#[48, 49, 50, 51, 52, 53, 54, 55, 56, 57, 97, 98, 99, 100, 101, 102]⟩ : ByteArray)) (.int .i64 (n : Int))).run Tryz.prog w = .ok (.int .u8 (hexd (n : Int))) w := by
 rcases (by omega : n = 0 ∨ n = 1 ∨ n = 2 ∨ n = 3 ∨ n = 4 ∨ n = 5 ∨ n = 6 ∨ n = 7 ∨ n = 8 ∨ n = 9 ∨ n = 10 ∨ n = 11 ∨ n = 12 ∨ n = 13 ∨ n = 14 ∨ n = 15) with rfl | rfl | rfl | rfl | rfl | rfl | rfl | rfl | rfl | rfl | rfl | rfl | rfl | rfl | rfl | rfl
 · exact hexJx0 w
 · exact hexJx1 w
 · exact hexJx2 w
 · exact hexJx3 w
 · exact hexJx4 w
 · exact hexJx5 w
 · exact hexJx6 w
 · exact hexJx7 w
 · exact hexJx8 w
 · exact hexJx9 w
 · exact hexJx10 w
 · exact hexJx11 w
 · exact hexJx12 w
 · exact hexJx13 w
 · exact hexJx14 w
 · exact hexJx15 w

def digR (c : Int) : Int := match dig c with | some d => d | none => -1
theorem dig_hexd (c : Int) (n : Int) (h0 : 0 ≤ n) (h1 : n < 16) (h : hexd n = c) : digR c = n := by
 subst h
 unfold hexd
 by_cases hl : n < 10
 · rw [if_pos hl]; unfold digR dig; rw [if_pos (by omega)]; show (48 + n - 48) = n; omega
 · rw [if_neg hl]; unfold digR dig; rw [if_neg (by omega), if_pos (by omega)]; show (87 + n - 87) = n; omega
def NotTo (c : Int) (k : Nat) : Prop := ∀ j : Nat, j < k → hexd (j : Int) ≠ c
theorem NotTo.succ {c : Int} {k : Nat} (h : NotTo c k) (hk : hexd (k : Int) ≠ c) : NotTo c (k + 1) := fun j hj => by
 rcases Nat.lt_or_ge j k with h' | h'
 · exact h j h'
 · obtain rfl : j = k := by omega
   exact hk
theorem NotTo.none {c : Int} (h : NotTo c 16) : digR c = -1 := by
 unfold digR dig
 by_cases h1 : 48 ≤ c ∧ c ≤ 57
 · exfalso
   have := h (c - 48).toNat (by omega)
   unfold hexd at this
   rw [if_pos (by omega)] at this
   omega
 · rw [if_neg h1]
   by_cases h2 : 97 ≤ c ∧ c ≤ 102
   · exfalso
     have := h (c - 87).toNat (by omega)
     unfold hexd at this
     rw [if_neg (by omega)] at this
     omega
   · rw [if_neg h2]
theorem digR_some {c : Int} (h : (dig c).isSome = true) : digR c = (dig c).getD 0 ∧ 0 ≤ digR c ∧ digR c < 16 := by
 have := dig_ok c
 cases hd : dig c with
 | none => rw [hd] at h; cases h
 | some d => rw [hd] at this; unfold digR; rw [hd]; exact ⟨rfl, this⟩
theorem digR_none {c : Int} (h : (dig c).isSome = false) : digR c < 0 := by
 cases hd : dig c with
 | none => unfold digR; rw [hd]; decide
 | some d => rw [hd] at h; cases h

set_option maxRecDepth 100000 in
theorem digitR_any (c : Int) (w : World) : Calls Tryz.prog 92 #[.int .u8 c] w fun e w' => e = .returned (.int .i64 (digR c)) ∧ w = w' := by
 go_enter Tryz.func92, Tryz.ntmps92
 go_wp2
 go_loopw [3] (fun i wr => ∃ k : Nat, k ≤ 16 ∧ i = .int .i64 k ∧ NotTo c k ∧ w = wr) (fun i _ => 16 - (intOf i).toNat)
 case atStart => exact ⟨0, by omega, rfl, fun j hj => absurd hj (Nat.not_lt_zero _), rfl⟩
 case round =>
  obtain ⟨k, hk, rfl, hN, rfl⟩ := hrel
  by_cases hlt : k < 16
  · have hx := hexJx k hlt
    have hf := dig_hexd c k (by omega) (by omega)
    have hs := hN.succ
    generalize hexd (k : Int) = y at *
    by_cases he : y = c
    · have HF := Lib.hid (hf he)
      clear hf hs
      have hd : (y == c) = true := by simpa using he
      clear he
      go_wp2
      go_ret
      exact ⟨by rw [HF.out]; rfl, rfl⟩
    · have HS := hs he
      clear hf hs
      have hd : (y == c) = false := by simpa using he
      clear he
      go_wp2
      go_roundw
      case rel => exact ⟨k + 1, by omega, by go_num, HS, by first | rfl | trivial⟩
      case measure => simp [intOf]; omega
  · obtain rfl : k = 16 := by omega
    have HF := Lib.hid hN.none
    go_wp2
    go_ret
    exact ⟨by rw [HF.out]; rfl, rfl⟩

set_option maxRecDepth 100000 in
set_option maxHeartbeats 2000000 in
theorem hexR_any (A : Option Addr) (n c : Nat) (xs : List Int) (w : World) (hI : Ints .u8 w A xs) (hn : xs.length = n) (hb : Bytes xs) (hsz : n ≤ 70368744177000) :
 Calls Tryz.prog 56 #[.slice A n c] w fun e w' => e = .returned (.string (strOfNums (hexL xs))) ∧ Below w.heap.size w w' := by
 subst hn
 obtain ⟨i0, hi, hz0, hz1, hz2⟩ := info_parts Tryz.info_u8
 go_enter Tryz.func56, Tryz.ntmps56
 go_wp2
 go_loopw [3, 4] (fun out i wr => ∃ (k : Nat) (A : Option Addr) (c : Nat), k ≤ xs.length ∧ i = .int .i64 k ∧ out = .slice A (hexL (xs.take k)).length c ∧ OwnS wr w.heap.size 5 1 (.slice A (hexL (xs.take k)).length c) (hexL (xs.take k)).length ((hexL (xs.take k)).map (Value.int .u8)) ∧ Below w.heap.size w wr) (fun _ i _ => xs.length - (intOf i).toNat)
 case atStart => exact ⟨0, none, 0, by omega, rfl, rfl, OwnS.nil _ _ _ _, Below.refl _ _⟩
 case round =>
  obtain ⟨k, A9, c9, hk9, rfl, rfl, ho, hB⟩ := hrel
  by_cases hlt : k < xs.length
  · have hI9 := hI.below hB
    have hx := hb.at_ k hlt
    have HN : Hid (hexL (xs.take (k + 1)) = hexL (xs.take k) ++ hexOf (xs.getD k 0)) := by show _ = _; rw [take_snoc_getD xs k hlt, hexL_snoc]
    have hll : (hexL (xs.take k)).length ≤ 140737488355000 := by rw [hexL_len, List.length_take_of_le hk9]; omega
    obtain ⟨b, o, rfl, hbl, hcell⟩ := hI9 (by omega)
    have hc := hcell k hlt
    have hx1 : 0 ≤ xs.getD k 0 / 16 ∧ xs.getD k 0 / 16 < 16 := by omega
    have hx2 : 0 ≤ xs.getD k 0 % 16 ∧ xs.getD k 0 % 16 < 16 := by omega
    clear hcell hI
    generalize xs.getD k 0 = x at *
    generalize hexL (xs.take k) = l at *
    have hi1 := hexIx (x / 16) hx1.1 hx1.2
    have hi2 := hexIx (x % 16) hx2.1 hx2.2
    have ha : bits .and .u8 x 15 = x % 16 := u8_and15 x hx.1 hx.2
    have hkI : (k : Int) < xs.length := by omega
    clear hI9
    go_wp2
    go_region_law (refine step_append_S rfl (.tmp 11) (.tmp 24) 48 48 rfl i0 (.int .u8 0) 1 (.slice 5) Tryz.underlying48 Tryz.underlying48 (fun _ h => by cases h) hi hz0 hz1 hz2 rfl rfl rfl ((ho.alloc _).drew) ((Src.new (us := (hexOf x).map (Value.int .u8)) rfl (ints_oneCell .u8 (hexOf x))).drew) ?_ ?_ ?_ ?_; (simp only [hexOf, List.length_map, List.length_cons, List.length_nil]; unfold maxLen; omega); (simp only [hexOf, List.length_map, List.length_cons, List.length_nil]; omega); (have := hB.size; simp; omega); intro A2 c2 w2 ho2 hg2 hw2)
    all_goals
     go_wp2
     go_roundw
     case rel =>
      have hB' := hB.size
      refine ⟨k + 1, A2, c2, by omega, by go_num, ?_, ?_, ?_⟩
      · rw [HN.out, List.length_append]
      · rw [HN.out, List.length_append, List.map_append]; exact ho2
      · exact ((hB.alloc (by omega) _).drew).grown hg2 (by simp; omega) (fun q h => (ho.lt q h).1)
     case measure => simp [intOf]; omega
  · obtain rfl : k = xs.length := by omega
    rw [List.take_length] at ho ⊢
    have hcv := run_str_ints (P := Tryz.prog) (w := wr) 48 9 5 Tryz.underlying48 Tryz.underlying5 Tryz.underlying9 A9 c9 (hexL xs) ho.ints
    go_wp2
    go_ret
    exact ⟨rfl, hB⟩
end Go.Proofs.YtihanglnjghcfaaGreatDoor
namespace Go.Proofs.YtihanglnjghcfaaGreatDoor
open Go.RowKit
set_option linter.unusedVariables false

set_option maxRecDepth 100000 in
set_option maxHeartbeats 2000000 in
theorem unhexR_any (s : ByteArray) (w : World) (hsz : s.size ≤ 140737488355328) : Calls Tryz.prog 77 #[.string s] w (UnPost w (bytesOf s)) := by
 obtain ⟨i0, hi, hz0, hz1, hz2⟩ := info_parts Tryz.info_u8
 by_cases hodd : (s.size : Int) % 2 = 0
 case neg =>
  have hU := unOk_odd (bytesOf s) (by rw [bytesOf_len]; omega)
  have hd : ((s.size : Int) % 2 == 1) = true := by simp; omega
  go_enter Tryz.func77, Tryz.ntmps77
  go_wp2
  go_ret2
  exact UnPost.bad hU (Below.refl _ _)
 case pos =>
  have HE := Lib.hid hodd
  have hd : ((s.size : Int) % 2 == 1) = false := by simp; omega
  clear hodd
  go_enter Tryz.func77, Tryz.ntmps77
  go_wp2
  clear hd
  have hoE : OwnS (w.alloc (.cells #[] 5)) w.heap.size 5 1 (.slice (some ⟨w.heap.size, 0, none⟩) 0 0) 0 [] := OwnS.empty (Nat.le_refl _) (heap_alloc_new w _) (by decide) (by simp)
  have hBE := (Below.refl w.heap.size w).alloc (Nat.le_refl _) (.cells #[] 5)
  generalize w.alloc (.cells #[] 5) = w9 at *
  go_loopw [4, 5] (fun out i wr => ∃ (k m : Nat) (A : Option Addr) (c : Nat), m ≤ s.size ∧ Hid (m = 2 * k) ∧ i = .int .i64 m ∧ out = .slice A (unTo (bytesOf s) k).length c ∧ OwnS wr w.heap.size 5 1 (.slice A (unTo (bytesOf s) k).length c) (unTo (bytesOf s) k).length ((unTo (bytesOf s) k).map (Value.int .u8)) ∧ PairsTo (bytesOf s) k ∧ Below w.heap.size w wr) (fun _ i _ => s.size - (intOf i).toNat)
  case atStart => exact ⟨0, 0, _, _, by omega, rfl, rfl, rfl, hoE, fun j hj => absurd hj (Nat.not_lt_zero _), hBE⟩
  case round =>
   clear hoE hBE
   obtain ⟨k, m, A9, c9, hm9, hmk, rfl, rfl, ho, hP, hB⟩ := hrel
   by_cases hlt : m < s.size
   · have hlt2 : m + 1 < s.size := by have := hmk.out; have := HE.out; omega
     have e1 : (bytesOf s).getD (2 * k) 0 = ((s[m]'hlt).toNat : Int) := by rw [← hmk.out]; exact bytesOf_at s m hlt
     have e2 : (bytesOf s).getD (2 * k + 1) 0 = ((s[m + 1]'hlt2).toNat : Int) := by rw [← hmk.out]; exact bytesOf_at s (m + 1) hlt2
     have hl1 : 2 * k + 1 < (bytesOf s).length := by rw [bytesOf_len, ← hmk.out]; exact hlt2
     have ha := dig_ok ((bytesOf s).getD (2 * k) 0)
     have hb := dig_ok ((bytesOf s).getD (2 * k + 1) 0)
     have hB1 := (s[m]'hlt).toNat_lt
     have hB2 := (s[m + 1]'hlt2).toNat_lt
     have HN : Hid (unTo (bytesOf s) (k + 1) = unTo (bytesOf s) k ++ [(dig ((s[m]'hlt).toNat : Int)).getD 0 * 16 + (dig ((s[m + 1]'hlt2).toNat : Int)).getD 0]) := by
      show _ = _
      rw [unTo_succ, pairV, e1, e2]
     have hPO : pairOk (bytesOf s) k = ((dig ((s[m]'hlt).toNat : Int)).isSome && (dig ((s[m + 1]'hlt2).toNat : Int)).isSome) := by unfold pairOk; rw [e1, e2]
     have hlen : (unTo (bytesOf s) k).length ≤ 140737488355000 := by rw [unTo_len]; have := hmk.out; omega
     rw [e1] at ha
     rw [e2] at hb
     have hj := u8_join _ _ ha hb
     clear e1 e2
     by_cases hg : ((dig ((s[m]'hlt).toNat : Int)).isSome && (dig ((s[m + 1]'hlt2).toNat : Int)).isSome) = true
     · rw [hg] at hPO
       have HP := Lib.hid hPO
       clear hPO
       obtain ⟨hg1, hg2⟩ := Bool.and_eq_true_iff.1 hg
       clear hg
       obtain ⟨d1, d2, d3⟩ := digR_some hg1
       obtain ⟨d4, d5, d6⟩ := digR_some hg2
       have HN : Hid (unTo (bytesOf s) (k + 1) = unTo (bytesOf s) k ++ [16 * digR ((s[m]'hlt).toNat : Int) + digR ((s[m + 1]'hlt2).toNat : Int)]) := by
        show _ = _
        rw [HN.out, d1, d4, Int.mul_comm]
       clear d1 d4 hg1 hg2 hj ha hb
       go_wp2_with (first
        | (have hm := hdg; go_at_call 92; refine (digitR_any _ _).mono ?_; rintro e w' ⟨rfl, rfl⟩)
        | (go_at_call 92; refine (digitR_any _ _).mono ?_; rintro e w' ⟨rfl, rfl⟩; have hdg := trivial)
        | (at_builtin; refine wpList_append_S rfl (.tmp 34) (.tmp 40) 48 48 rfl i0 (.int .u8 0) 1 (.slice 5) Tryz.underlying48 Tryz.underlying48 (fun _ h => by cases h) hi hz0 hz1 hz2 rfl rfl rfl (ho.alloc _) (Src.one_new (u := .int .u8 (16 * digR ((s[m]'hlt).toNat : Int) + digR ((s[m + 1]'hlt2).toNat : Int))) rfl) ?_ ?_ ?_ ?_; (unfold maxLen; omega); omega; (have := hB.size; simp; omega); intro A2 c2 w2 ho2 hg2 hw2))
       go_roundw
       case rel =>
        have hB' := hB.size
        have hPO := HP.out
        refine ⟨k + 1, m + 2, A2, c2, by omega, by have := hmk.out; show _ = _; omega, by go_num, ?_, ?_, hP.succ hPO, ?_⟩
        · rw [HN.out, List.length_append]; first | done | rfl
        · rw [HN.out, List.length_append, List.map_append]; exact ho2
        · exact (hB.alloc (by omega) _).grown hg2 (by simp; omega) (fun q h => (ho.lt q h).1)
       case measure => simp [intOf]; omega
     · have hU : unOk (bytesOf s) = false := unOk_bad (bytesOf s) k hl1 (by rw [hPO]; simpa using hg)
       clear hPO
       rw [Bool.not_eq_true, Bool.and_eq_false_iff] at hg
       have HU := Lib.hid hU
       clear hU
       by_cases hg1 : (dig ((s[m]'hlt).toNat : Int)).isSome = true
       · have hg2 : (dig ((s[m + 1]'hlt2).toNat : Int)).isSome = false := by
          rcases hg with h | h
          · rw [hg1] at h; cases h
          · exact h
         clear hg
         obtain ⟨d1, d2, d3⟩ := digR_some hg1
         have d4 := digR_none hg2
         clear d1 hg1 hg2 hj ha hb HN
         go_wp2_with (first
          | (have hm := hdg; go_at_call 92; refine (digitR_any _ _).mono ?_; rintro e w' ⟨rfl, rfl⟩)
          | (go_at_call 92; refine (digitR_any _ _).mono ?_; rintro e w' ⟨rfl, rfl⟩; have hdg := trivial))
         go_ret2
         exact UnPost.bad HU.out hB
       · have hg1 : (dig ((s[m]'hlt).toNat : Int)).isSome = false := by simpa using hg1
         clear hg
         have d4 := digR_none hg1
         clear hg1 hj ha hb HN
         go_wp2_with (first
          | (have hm := hdg; go_at_call 92; refine (digitR_any _ _).mono ?_; rintro e w' ⟨rfl, rfl⟩)
          | (go_at_call 92; refine (digitR_any _ _).mono ?_; rintro e w' ⟨rfl, rfl⟩; have hdg := trivial))
         go_ret2
         exact UnPost.bad HU.out hB
   · have hms : m = s.size := by omega
     have hU : unOk (bytesOf s) = true := unOk_good _ (by rw [bytesOf_len]; have := HE.out; omega) (fun j hj => hP j (by rw [bytesOf_len] at hj; have := hmk.out; omega))
     have HU := Lib.hid hU
     have hkl : k = (bytesOf s).length / 2 := by rw [bytesOf_len]; have := hmk.out; omega
     have HK := Lib.hid hkl
     clear hU hms hkl
     go_wp2
     go_ret2
     exact UnPost.good HU.out HK.out ho.ints hB
end Go.Proofs.YtihanglnjghcfaaGreatDoor
namespace Go.Proofs.YtihanglnjghcfaaGreatDoor
open Go.RowKit
set_option linter.unusedVariables false

theorem wordAt_app (x y : List Int) (h : 64 ≤ x.length) (t : Nat) (ht : t < 16) : wordAt (x ++ y) t = wordAt x t := by
 have e : ∀ j, j < 64 → (x ++ y).getD j 0 = x.getD j 0 := fun j hj => by
  rw [List.getD_eq_getElem?_getD, List.getD_eq_getElem?_getD, List.getElem?_append_left (by omega)]
 unfold wordAt
 rw [e _ (by omega), e _ (by omega), e _ (by omega), e _ (by omega)]
theorem schedTo_app (x y : List Int) (h : 64 ≤ x.length) (t : Nat) : schedTo (x ++ y) t = schedTo x t := by
 induction t with
 | zero => rfl
 | succ t ih =>
  rw [schedTo, schedTo, ih]
  by_cases ht : t < 16
  · rw [if_pos ht, if_pos ht, wordAt_app x y h t ht]
  · rw [if_neg ht, if_neg ht]
theorem runH_app (x y : List Int) (h : 64 ≤ x.length) (s : H5) (t : Nat) : runH (x ++ y) s t = runH x s t := by
 induction t with
 | zero => rfl
 | succ t ih => rw [runH, runH, ih, stepH, stepH, schedTo_app x y h]
theorem mixH_app (x y : List Int) (h : 64 ≤ x.length) (s : H5) : mixH s (x ++ y) = mixH s x := by
 unfold mixH; rw [runH_app x y h]
theorem fb_app (n : Nat) : ∀ (s : H5) (x y : List Int), 64 * n ≤ x.length → fb n s (x ++ y) = fb n s x := by
 induction n with
 | zero => intro s x y h; rfl
 | succ n ih =>
  intro s x y h
  rw [fb, fb, mixH_app x y (by omega), List.drop_append_of_le_length (by omega), ih _ _ _ (by simp; omega)]
theorem fb_add (a b : Nat) : ∀ (s : H5) (r : List Int), fb (a + b) s r = fb b (fb a s r) (r.drop (64 * a)) := by
 induction a with
 | zero => intro s r; simp [fb]
 | succ a ih =>
  intro s r
  rw [show a + 1 + b = (a + b) + 1 by omega, fb, ih, fb, List.drop_drop]
  congr 2
  omega
theorem shaMsg_len (r : List Int) (n : Int) : (shaMsg r n).length = r.length + 1 + padN r.length + 8 := by
 unfold shaMsg
 rw [List.length_append, List.length_append, padTo_len]
 rfl
theorem shaMsg_split (xs ys : List Int) (n : Int) (h : padN (xs ++ ys).length = padN ys.length) : shaMsg (xs ++ ys) n = xs ++ shaMsg ys n := by
 unfold shaMsg padTo
 rw [h]
 simp
theorem shaAll_eq (xs : List Int) : shaAll xs = shaTo (fb ((shaMsg xs (xs.length : Int)).length / 64) h0 (shaMsg xs (xs.length : Int))) 5 := by
 have hq : 64 * (xs.length / 64) ≤ xs.length := by omega
 have hd : (xs.drop (64 * (xs.length / 64))).length = xs.length % 64 := by rw [List.length_drop]; omega
 have ht : (xs.take (64 * (xs.length / 64))).length = 64 * (xs.length / 64) := List.length_take_of_le hq
 have e : shaMsg xs (xs.length : Int) = xs.take (64 * (xs.length / 64)) ++ shaMsg (xs.drop (64 * (xs.length / 64))) (xs.length : Int) := by
  have := shaMsg_split (xs.take (64 * (xs.length / 64))) (xs.drop (64 * (xs.length / 64))) (xs.length : Int) (by rw [List.take_append_drop, hd]; unfold padN; omega)
  rwa [List.take_append_drop] at this
 unfold shaAll shaOut
 rw [Int.zero_add, ← shaMsg_len (xs.drop (64 * (xs.length / 64))) (xs.length : Int)]
 congr 1
 rw [e]
 generalize shaMsg (xs.drop (64 * (xs.length / 64))) (xs.length : Int) = Y
 have hn : (xs.take (64 * (xs.length / 64)) ++ Y).length / 64 = xs.length / 64 + Y.length / 64 := by rw [List.length_append, ht]; omega
 rw [hn, fb_add, List.drop_append_of_le_length (by omega), List.drop_of_length_le (by omega), List.nil_append, fb_app _ _ _ _ (by omega)]
 congr 1
 have := fb_app (xs.length / 64) h0 (xs.take (64 * (xs.length / 64))) (xs.drop (64 * (xs.length / 64))) (by omega)
 rw [List.take_append_drop] at this
 exact this

/-! ### The sum of no bytes, reckoned in stages -/
end Go.Proofs.YtihanglnjghcfaaGreatDoor
namespace Go.Proofs.YtihanglnjghcfaaGreatDoor
open Go.RowKit
set_option linter.unusedVariables false
set_option linter.unusedSimpArgs false

theorem str_app (a b : List Int) : strOfNums a ++ strOfNums b = strOfNums (a ++ b) := by
 apply ByteArray.ext
 simp [strOfNums, ByteArray.data_append]
/-- A number from nought on, as digits. -/
def digL (n : Nat) : List Int := if n ≤ 9 then [48 + (n : Int)] else digL (n / 10) ++ [48 + ((n % 10 : Nat) : Int)]
termination_by n
theorem digL_big {n : Nat} (h : 9 < n) : digL n = digL (n / 10) ++ [48 + ((n % 10 : Nat) : Int)] := by
 rw [digL, if_neg (by omega)]
theorem digL_small {n : Nat} (h : n ≤ 9) : digL n = [48 + (n : Int)] := by
 rw [digL, if_pos h]
theorem digL_ok : ∀ n : Nat, Bytes (digL n) := by
 intro n
 induction n using Nat.strongRecOn with
 | _ n ih =>
  by_cases h : n ≤ 9
  · rw [digL_small h]
    intro x hx
    rw [List.mem_singleton.1 hx]; omega
  · rw [digL_big (by omega)]
    intro x hx
    rcases List.mem_append.1 hx with hx | hx
    · exact ih (n / 10) (by omega) x hx
    · rw [List.mem_singleton.1 hx]; omega
theorem digL_len : ∀ n : Nat, (digL n).length ≤ n + 1 := by
 intro n
 induction n using Nat.strongRecOn with
 | _ n ih =>
  by_cases h : n ≤ 9
  · rw [digL_small h]; simp
  · rw [digL_big (by omega), List.length_append]
    have := ih (n / 10) (by omega)
    simp only [List.length_cons, List.length_nil]
    omega
set_option maxRecDepth 100000 in
set_option maxHeartbeats 4000000 in
theorem digits_any (n0 : Nat) (w : World) (h0 : n0 < 9223372036854775807) : Calls Tryz.prog 53 #[.int .i64 n0] w fun e w' => e = .returned (.string (strOfNums (digL n0))) ∧ Below w.heap.size w w' := by
 have hcv : ∀ (W : World) (d : Int), (convert 48 9 (.slice (some ⟨W.heap.size, 0, none⟩) 1 1)).run Tryz.prog (W.alloc (.cells #[.int .u8 d] 5)) = .ok (.string (strOfNums [d])) (W.alloc (.cells #[.int .u8 d] 5)) := fun W d =>
  run_str_ints (P := Tryz.prog) (w := W.alloc (.cells #[.int .u8 d] 5)) 48 9 5 Tryz.underlying48 Tryz.underlying5 Tryz.underlying9 (some ⟨W.heap.size, 0, none⟩) 1 [d] (fun _ => ⟨_, 0, rfl, by simp, fun j hj => by
   obtain rfl : j = 0 := by simpa using hj
   rw [cell_of_row _ _ _ _ _ _ (heap_alloc_new W _)]; rfl⟩)
 go_enter Tryz.func53, Tryz.ntmps53
 go_wp2
 go_loopw [0, 3] (fun vn vs wr => ∃ (n : Nat) (xs : List Int), vn = .int .i64 n ∧ vs = .string (strOfNums xs) ∧ digL n0 = digL n ++ xs ∧ xs.length + n ≤ n0 ∧ Below w.heap.size w wr) (fun vn _ _ => (intOf vn).toNat)
 case atStart => exact ⟨n0, [], rfl, rfl, by simp, by simp, Below.refl _ _⟩
 case round =>
  obtain ⟨n, xs, rfl, rfl, hd, hl, hB⟩ := hrel
  have hsz : (strOfNums xs).size = xs.length := strOfNums_size xs
  by_cases hn : 9 < n
  · have d1 : decide ((9 : Int) < (n : Int)) = true := decide_eq_true (by omega)
    have d1' : decide (9 < n) = true := decide_eq_true hn
    obtain ⟨q, hq⟩ : ∃ q : Nat, q = n / 10 := ⟨_, rfl⟩
    have r4 : IntKind.i64.wrap ((n : Int) / 10) = (q : Int) := by rw [IntWalk.i64_in _ (by omega)]; omega
    have HD : Hid (digL n0 = digL q ++ ((48 + (n : Int) % 10) :: xs)) := Lib.hid (by rw [hd, digL_big hn, hq, List.append_assoc]; rfl)
    have HB := Lib.hid hB
    have hcv' := hcv wr (48 + (n : Int) % 10)
    have HAPP := Lib.hid (str_app [48 + (n : Int) % 10] xs)
    have h1 : (strOfNums [48 + (n : Int) % 10]).size = 1 := strOfNums_size _
    have HLL : Hid (xs.length + 1 + q ≤ n0 ∧ q < n) := Lib.hid (by omega)
    have hxl : xs.length < 9223372036854775807 := by omega
    have hB2 : Below w.heap.size w (wr.alloc (.cells #[.int .u8 (48 + (n : Int) % 10)] 5)) := hB.trans (((Below.refl _ _).alloc (Nat.le_refl _) _).mono hB.size)
    have HB2 := Lib.hid hB2
    clear hd hB hcv hq hB2
    go_wp2
    go_roundw
    case rel => exact ⟨q, _, rfl, by rw [HAPP.out]; rfl, HD.out, by have := HLL.out; simp only [List.length_cons, List.length_append, List.length_nil]; omega, HB2.out⟩
    case measure => have := HLL.out; simp [intOf]; omega
  · have d1 : decide ((9 : Int) < (n : Int)) = false := decide_eq_false (by omega)
    have d1' : decide (9 < n) = false := decide_eq_false hn
    have r3 : IntKind.u8.wrap (n : Int) = (n : Int) := by rw [IntKind.wrap_u8']; omega
    have r5 : IntKind.u8.wrap (48 + (n : Int)) = 48 + (n : Int) := by rw [IntKind.wrap_u8']; omega
    have hcv' := hcv wr (48 + (n : Int))
    have HAPP := Lib.hid (str_app [48 + (n : Int)] xs)
    have h1 : (strOfNums [48 + (n : Int)]).size = 1 := strOfNums_size _
    have HD : Hid (digL n0 = [48 + (n : Int)] ++ xs) := Lib.hid (by rw [hd, digL_small (by omega)])
    have hxl : xs.length < 9223372036854775807 := by omega
    have HB2 : Hid (Below w.heap.size w (wr.alloc (.cells #[.int .u8 (48 + (n : Int))] 5))) := Lib.hid (hB.trans (((Below.refl _ _).alloc (Nat.le_refl _) _).mono hB.size))
    clear hd hB hcv
    go_wp2
    go_ret
    exact ⟨by rw [HAPP.out, HD.out]; rfl, HB2.out⟩
/-- A kind's name. -/
def nameL (k : Int) : List Int := if k = 1 then [99, 111, 109, 109, 105, 116] else if k = 2 then [116, 114, 101, 101] else if k = 3 then [98, 108, 111, 98] else if k = 4 then [116, 97, 103] else []
theorem nameL_ok (k : Int) : Bytes (nameL k) := by
 intro x hx
 unfold nameL at hx
 split at hx
 · simp only [List.mem_cons, List.not_mem_nil, or_false] at hx; omega
 · split at hx
   · simp only [List.mem_cons, List.not_mem_nil, or_false] at hx; omega
   · split at hx
     · simp only [List.mem_cons, List.not_mem_nil, or_false] at hx; omega
     · split at hx
       · simp only [List.mem_cons, List.not_mem_nil, or_false] at hx; omega
       · cases hx
theorem nameL_len (k : Int) : (nameL k).length ≤ 6 := by
 unfold nameL
 split
 · decide
 · split
   · decide
   · split
     · decide
     · split <;> decide
set_option maxRecDepth 100000 in
set_option maxHeartbeats 4000000 in
theorem rname_any (k : Int) (w : World) : Calls Tryz.prog 55 #[.int .i64 k] w fun e w' => e = .returned (.string (strOfNums (nameL k))) ∧ Below w.heap.size w w' := by
 have hb : ∀ o : Obj, Below w.heap.size w (w.alloc o) := fun o => (Below.refl _ _).alloc (Nat.le_refl _) o
 have HB := Lib.hid hb
 clear hb
 have HN : Hid (nameL k = if k = 1 then [99, 111, 109, 109, 105, 116] else if k = 2 then [116, 114, 101, 101] else if k = 3 then [98, 108, 111, 98] else if k = 4 then [116, 97, 103] else []) := Lib.hid rfl
 by_cases hneg : k < 0
 · have d1 : decide (k < 0) = true := decide_eq_true hneg
   have HN : Hid (nameL k = []) := Lib.hid (by rw [HN.out, if_neg (by omega), if_neg (by omega), if_neg (by omega), if_neg (by omega)])
   go_enter Tryz.func55, Tryz.ntmps55
   go_wp2
   go_ret
   exact ⟨by rw [HN.out]; rfl, HB.out _⟩
 · have d1 : decide (k < 0) = false := decide_eq_false hneg
   by_cases hbig : 4 < k
   · have d2 : decide (4 < k) = true := decide_eq_true hbig
     have HN : Hid (nameL k = []) := Lib.hid (by rw [HN.out, if_neg (by omega), if_neg (by omega), if_neg (by omega), if_neg (by omega)])
     go_enter Tryz.func55, Tryz.ntmps55
     go_wp2
     go_ret
     exact ⟨by rw [HN.out]; rfl, HB.out _⟩
   · have hk : k = 0 ∨ k = 1 ∨ k = 2 ∨ k = 3 ∨ k = 4 := by omega
     clear HN hneg hbig d1
     rcases hk with rfl | rfl | rfl | rfl | rfl <;>
     · go_enter Tryz.func55, Tryz.ntmps55
       go_wp2
       go_ret
       exact ⟨by kernel_rfl, HB.out _⟩
def headL (k : Int) (n : Nat) : List Int := nameL k ++ [32] ++ digL n ++ [0]
theorem headL_ok (k : Int) (n : Nat) : Bytes (headL k n) := by
 intro x hx
 unfold headL at hx
 simp only [List.mem_append] at hx
 rcases hx with ((hx | hx) | hx) | hx
 · exact nameL_ok k x hx
 · rw [List.mem_singleton.1 hx]; omega
 · exact digL_ok n x hx
 · rw [List.mem_singleton.1 hx]; omega
theorem oid_sha_bytes (xs : List Int) : Bytes (shaAll xs) := by
 rw [shaAll_eq]
 intro x hx
 have key : ∀ (k : H5) (hk : k.ok) (n : Nat), Bytes (shaTo k n) := fun k hk n => by
  induction n with
  | zero => intro x hx; cases hx
  | succ n ih =>
   intro x hx
   rcases List.mem_append.1 hx with hx | hx
   · exact ih x hx
   · exact be4_ok _ (H5.nth_ok k hk n).1 (H5.nth_ok k hk n).2 x hx
 exact key _ (fb_ok _ _ _ h0_ok) 5 x hx
theorem oid_sha_len (xs : List Int) : (shaAll xs).length = 20 := by rw [shaAll_eq, shaTo_len]
theorem oidSum_any (xs : List Int) (w : World) (hb : Bytes xs) (hsz : xs.length ≤ 140737488351300) : Calls Tryz.prog 57 #[.string (strOfNums xs)] w (AskPost w (shaAll xs)) := by
 have h := refSha_any (strOfNums xs) w (by rw [strOfNums_size]; exact hsz)
 rw [bytesOf_str xs hb, strOfNums_size, ← shaAll_eq] at h
 exact h
end Go.Proofs.YtihanglnjghcfaaGreatDoor
namespace Go.Proofs.YtihanglnjghcfaaGreatDoor
open Go.RowKit
set_option linter.unusedVariables false
set_option linter.unusedSimpArgs false

def namesV : Value := .agg #[.string ⟨#[]⟩, .string ⟨#[99, 111, 109, 109, 105, 116]⟩, .string ⟨#[116, 114, 101, 101]⟩, .string ⟨#[98, 108, 111, 98]⟩, .string ⟨#[116, 97, 103]⟩]
set_option maxRecDepth 100000 in
theorem names_any (w : World) : Calls Tryz.prog 132 #[] w fun e w' => e = .returned namesV ∧ Below w.heap.size w w' := by
 go_enter Tryz.func132, Tryz.ntmps132
 go_wp2
 have hc := Cel.new w 182 #[.string ⟨#[]⟩, .string ⟨#[99, 111, 109, 109, 105, 116]⟩, .string ⟨#[116, 114, 101, 101]⟩, .string ⟨#[98, 108, 111, 98]⟩, .string ⟨#[116, 97, 103]⟩] (fun i => (#[.string ⟨#[]⟩, .string ⟨#[99, 111, 109, 109, 105, 116]⟩, .string ⟨#[116, 114, 101, 101]⟩, .string ⟨#[98, 108, 111, 98]⟩, .string ⟨#[116, 97, 103]⟩] : Array Value).getD i undef) (fun i hi => by
  have : i = 0 ∨ i = 1 ∨ i = 2 ∨ i = 3 ∨ i = 4 := by simp at hi; omega
  rcases this with rfl | rfl | rfl | rfl | rfl <;> rfl)
 exact bodyPost_ret (v := namesV) (results_cel rfl _ rfl hc Tryz.underlying182 rfl (by kernel_rfl) (Nat.le_refl 5) (fun j hj => by
  have : j = 0 ∨ j = 1 ∨ j = 2 ∨ j = 3 ∨ j = 4 := by simp at hj; omega
  rcases this with rfl | rfl | rfl | rfl | rfl <;> rfl)) rfl ⟨rfl, (Below.refl _ _).alloc (Nat.le_refl _) _⟩
theorem name_ix0 (w : World) : (Instr.index 182 namesV (.int .i64 ((0 : Nat) : Int))).run Tryz.prog w = .ok (.string (strOfNums (nameL ((0 : Nat) : Int)))) w := by kernel_rfl
theorem name_ix1 (w : World) : (Instr.index 182 namesV (.int .i64 ((1 : Nat) : Int))).run Tryz.prog w = .ok (.string (strOfNums (nameL ((1 : Nat) : Int)))) w := by kernel_rfl
theorem name_ix2 (w : World) : (Instr.index 182 namesV (.int .i64 ((2 : Nat) : Int))).run Tryz.prog w = .ok (.string (strOfNums (nameL ((2 : Nat) : Int)))) w := by kernel_rfl
theorem name_ix3 (w : World) : (Instr.index 182 namesV (.int .i64 ((3 : Nat) : Int))).run Tryz.prog w = .ok (.string (strOfNums (nameL ((3 : Nat) : Int)))) w := by kernel_rfl
theorem name_ix4 (w : World) : (Instr.index 182 namesV (.int .i64 ((4 : Nat) : Int))).run Tryz.prog w = .ok (.string (strOfNums (nameL ((4 : Nat) : Int)))) w := by kernel_rfl
theorem name_ix (k : Nat) (hk : k < 5) (w : World) : (Instr.index 182 namesV (.int .i64 (k : Int))).run Tryz.prog w = .ok (.string (strOfNums (nameL k))) w := by
 have : k = 0 ∨ k = 1 ∨ k = 2 ∨ k = 3 ∨ k = 4 := by omega
 rcases this with rfl | rfl | rfl | rfl | rfl
 · exact name_ix0 w
 · exact name_ix1 w
 · exact name_ix2 w
 · exact name_ix3 w
 · exact name_ix4 w
end Go.Proofs.YtihanglnjghcfaaGreatDoor
namespace Go.Proofs
open Go.Shelf
def Tryz.lays196_ren : Go.Shelf.Ren := ⟨fun | 196 => 123 | 259 => 135 | n => n, fun | 9 => 9 | 4 => 4 | 3 => 3 | 5 => 5 | 12 => 12 | 119 => 189 | 0 => 0 | 46 => 77 | 139 => 192 | 138 => 191 | 53 => 138 | n => n, fun | 3 => 1 | 4 => 2 | n => n⟩
theorem Tryz.lays196 : Go.Proofs.Lays.n196 Tryz.prog Tryz.lays196_ren := {
 mixed := by kernel_rfl
 f196 := Tryz.func123.trans (congrArg some (by kernel_rfl))
 f259 := Tryz.func135.trans (congrArg some (by kernel_rfl))
 t0 := Tryz.underlying0
 a0 := Tryz.isAgg0
 z0 := Tryz.sizeOf0
 v0 := Tryz.zeroValue0
 t3 := Tryz.underlying3
 a3 := Tryz.isAgg3
 z3 := Tryz.sizeOf3
 v3 := Tryz.zeroValue3
 t4 := Tryz.underlying4
 a4 := Tryz.isAgg4
 z4 := Tryz.sizeOf4
 v4 := Tryz.zeroValue4
 t5 := Tryz.underlying5
 a5 := Tryz.isAgg5
 z5 := Tryz.sizeOf5
 v5 := Tryz.zeroValue5
 t9 := Tryz.underlying9
 a9 := Tryz.isAgg9
 z9 := Tryz.sizeOf9
 v9 := Tryz.zeroValue9
 t12 := Tryz.underlying12
 a12 := Tryz.isAgg12
 z12 := Tryz.sizeOf12
 v12 := Tryz.zeroValue12
 t46 := Tryz.underlying77
 a46 := Tryz.isAgg77
 z46 := Tryz.sizeOf77
 v46 := Tryz.zeroValue77
 t53 := Tryz.underlying138
 a53 := Tryz.isAgg138
 z53 := Tryz.sizeOf138
 v53 := Tryz.zeroValue138
 t119 := Tryz.underlying189
 a119 := Tryz.isAgg189
 z119 := Tryz.sizeOf189
 t138 := Tryz.underlying191
 a138 := Tryz.isAgg191
 z138 := Tryz.sizeOf191
 v138 := Tryz.zeroValue191
 t139 := Tryz.underlying192
 a139 := Tryz.isAgg192
 z139 := Tryz.sizeOf192
 v139 := Tryz.zeroValue192
 g3 := by kernel_rfl
 g4 := by kernel_rfl }
def Tryz.lays160_ren : Go.Shelf.Ren := ⟨fun | 160 => 124 | 232 => 137 | 231 => 136 | 227 => 138 | 234 => 140 | 233 => 139 | 236 => 142 | 235 => 141 | 228 => 148 | 271 => 151 | 151 => 150 | 197 => 149 | 120 => 157 | 152 => 154 | 260 => 156 | 137 => 130 | 119 => 161 | 224 => 159 | 225 => 158 | 217 => 146 | 266 => 153 | n => n, fun | 9 => 9 | 4 => 4 | 3 => 3 | 5 => 5 | 117 => 196 | 116 => 195 | 0 => 0 | 124 => 199 | 21 => 21 | 105 => 204 | 46 => 77 | 119 => 189 | 139 => 192 | 138 => 191 | n => n, fun | 3 => 1 | 4 => 2 | n => n⟩
theorem Tryz.lays160 : Go.Proofs.Lays.n160 Tryz.prog Tryz.lays160_ren := {
 mixed := by kernel_rfl
 f119 := Tryz.func161.trans (congrArg some (by kernel_rfl))
 f120 := Tryz.func157.trans (congrArg some (by kernel_rfl))
 f137 := Tryz.func130.trans (congrArg some (by kernel_rfl))
 f151 := Tryz.func150.trans (congrArg some (by kernel_rfl))
 f152 := Tryz.func154.trans (congrArg some (by kernel_rfl))
 f160 := Tryz.func124.trans (congrArg some (by kernel_rfl))
 f197 := Tryz.func149.trans (congrArg some (by kernel_rfl))
 f217 := Tryz.func146.trans (congrArg some (by kernel_rfl))
 f224 := Tryz.func159.trans (congrArg some (by kernel_rfl))
 f225 := Tryz.func158.trans (congrArg some (by kernel_rfl))
 f227 := Tryz.func138.trans (congrArg some (by kernel_rfl))
 f228 := Tryz.func148.trans (congrArg some (by kernel_rfl))
 f231 := Tryz.func136.trans (congrArg some (by kernel_rfl))
 f232 := Tryz.func137.trans (congrArg some (by kernel_rfl))
 f233 := Tryz.func139.trans (congrArg some (by kernel_rfl))
 f234 := Tryz.func140.trans (congrArg some (by kernel_rfl))
 f235 := Tryz.func141.trans (congrArg some (by kernel_rfl))
 f236 := Tryz.func142.trans (congrArg some (by kernel_rfl))
 f260 := Tryz.func156.trans (congrArg some (by kernel_rfl))
 f266 := Tryz.func153.trans (congrArg some (by kernel_rfl))
 f271 := Tryz.func151.trans (congrArg some (by kernel_rfl))
 t0 := Tryz.underlying0
 a0 := Tryz.isAgg0
 z0 := Tryz.sizeOf0
 v0 := Tryz.zeroValue0
 t3 := Tryz.underlying3
 a3 := Tryz.isAgg3
 z3 := Tryz.sizeOf3
 v3 := Tryz.zeroValue3
 t4 := Tryz.underlying4
 a4 := Tryz.isAgg4
 z4 := Tryz.sizeOf4
 v4 := Tryz.zeroValue4
 t5 := Tryz.underlying5
 a5 := Tryz.isAgg5
 z5 := Tryz.sizeOf5
 v5 := Tryz.zeroValue5
 t9 := Tryz.underlying9
 a9 := Tryz.isAgg9
 z9 := Tryz.sizeOf9
 v9 := Tryz.zeroValue9
 t21 := Tryz.underlying21
 a21 := Tryz.isAgg21
 z21 := Tryz.sizeOf21
 v21 := Tryz.zeroValue21
 t46 := Tryz.underlying77
 a46 := Tryz.isAgg77
 z46 := Tryz.sizeOf77
 v46 := Tryz.zeroValue77
 t105 := Tryz.underlying204
 a105 := Tryz.isAgg204
 z105 := Tryz.sizeOf204
 v105 := Tryz.zeroValue204
 t116 := Tryz.underlying195
 a116 := Tryz.isAgg195
 z116 := Tryz.sizeOf195
 t117 := Tryz.underlying196
 a117 := Tryz.isAgg196
 z117 := Tryz.sizeOf196
 v117 := Tryz.zeroValue196
 t119 := Tryz.underlying189
 a119 := Tryz.isAgg189
 z119 := Tryz.sizeOf189
 t124 := Tryz.underlying199
 a124 := Tryz.isAgg199
 z124 := Tryz.sizeOf199
 v124 := Tryz.zeroValue199
 t138 := Tryz.underlying191
 a138 := Tryz.isAgg191
 z138 := Tryz.sizeOf191
 v138 := Tryz.zeroValue191
 t139 := Tryz.underlying192
 a139 := Tryz.isAgg192
 z139 := Tryz.sizeOf192
 v139 := Tryz.zeroValue192
 g3 := by kernel_rfl
 g4 := by kernel_rfl }
open Go.RowKit in
/-- strings.Trim: "Trim returns a slice of the string s with all leading and trailing Unicode code points contained in cutset removed.": AT A cutset OF ONE ASCII BYTE. THE WORLD BEHIND IT: as it was, or (where s is not empty) with ONE DRAW MORE off the tape: the statement 'return trimLeftByte(trimRightByte(s, c), c)' draws its order of evaluation. (LAID: no walk: one application.) -/
theorem Tryz.strings_Trim_one (s : ByteArray) (c : UInt8) (hc : c.toNat < 128) (w : World) (hs : s.size ≤ 9223372036854775807) :
 Calls Tryz.prog 124 #[.string s, .string ⟨#[c]⟩] w fun e w' => e = .returned (.string ⟨(Lib.trimB s.data.toList c).toArray⟩) ∧ (w' = w ∨ w' = w.drew) := Any.strings_Trim_one Tryz.lays160 s c hc w hs
def Tryz.lays119_ren : Go.Shelf.Ren := ⟨fun | 119 => 161 | n => n, fun | 21 => 21 | 4 => 4 | n => n, fun | n => n⟩
theorem Tryz.lays119 : Go.Proofs.Lays.n119 Tryz.prog Tryz.lays119_ren := {
 mixed := by kernel_rfl
 f119 := Tryz.func161.trans (congrArg some (by kernel_rfl))
 t4 := Tryz.underlying4
 a4 := Tryz.isAgg4
 z4 := Tryz.sizeOf4
 v4 := Tryz.zeroValue4
 t21 := Tryz.underlying21
 a21 := Tryz.isAgg21
 z21 := Tryz.sizeOf21
 v21 := Tryz.zeroValue21 }
/-- utf8.ValidRune: "ValidRune reports whether r can be legally encoded as UTF-8. Code points that are out of range or a surrogate half are illegal.": IT RETURNS 'Lib.validRune r'; the world is as it was. (LAID: no walk: one application.) -/
theorem Tryz.utf8_ValidRune (r : Int) (w : World) :
 Calls Tryz.prog 161 #[.int .i32 r] w fun e w' => e = .returned (.bool (Lib.validRune r)) ∧ w' = w := Any.utf8_ValidRune Tryz.lays119 r w
def Tryz.lays137_ren : Go.Shelf.Ren := ⟨fun | 137 => 130 | 217 => 146 | 266 => 153 | n => n, fun | 9 => 9 | 5 => 5 | 3 => 3 | n => n, fun | n => n⟩
theorem Tryz.lays137 : Go.Proofs.Lays.n137 Tryz.prog Tryz.lays137_ren := {
 mixed := by kernel_rfl
 f137 := Tryz.func130.trans (congrArg some (by kernel_rfl))
 f217 := Tryz.func146.trans (congrArg some (by kernel_rfl))
 f266 := Tryz.func153.trans (congrArg some (by kernel_rfl))
 t3 := Tryz.underlying3
 a3 := Tryz.isAgg3
 z3 := Tryz.sizeOf3
 v3 := Tryz.zeroValue3
 t5 := Tryz.underlying5
 a5 := Tryz.isAgg5
 z5 := Tryz.sizeOf5
 v5 := Tryz.zeroValue5
 t9 := Tryz.underlying9
 a9 := Tryz.isAgg9
 z9 := Tryz.sizeOf9
 v9 := Tryz.zeroValue9 }
open Go.RowKit in
/-- strings.IndexByte: "IndexByte returns the index of the first instance of c in s, or -1 if c is not present in s.": IT RETURNS 'Lib.indexByte s c'; the world is as it was. (LAID: no walk: one application.) -/
theorem Tryz.strings_IndexByte (s : ByteArray) (c : Int) (w : World) :
 Calls Tryz.prog 130 #[.string s, .int .u8 c] w fun e w' => e = .returned (.int .i64 (Lib.indexByte s.data.toList c.toNat.toUInt8)) ∧ w' = w := Any.strings_IndexByte Tryz.lays137 s c w
def Tryz.lays103_ren : Go.Shelf.Ren := ⟨fun | 103 => 112 | 210 => 129 | 206 => 145 | n => n, fun | 9 => 9 | 4 => 4 | 24 => 168 | 3 => 3 | n => n, fun | n => n⟩
theorem Tryz.lays103 : Go.Proofs.Lays.n103 Tryz.prog Tryz.lays103_ren := {
 mixed := by kernel_rfl
 f103 := Tryz.func112.trans (congrArg some (by kernel_rfl))
 f206 := Tryz.func145.trans (congrArg some (by kernel_rfl))
 f210 := Tryz.func129.trans (congrArg some (by kernel_rfl))
 t3 := Tryz.underlying3
 a3 := Tryz.isAgg3
 z3 := Tryz.sizeOf3
 v3 := Tryz.zeroValue3
 t4 := Tryz.underlying4
 a4 := Tryz.isAgg4
 z4 := Tryz.sizeOf4
 v4 := Tryz.zeroValue4
 t9 := Tryz.underlying9
 a9 := Tryz.isAgg9
 z9 := Tryz.sizeOf9
 v9 := Tryz.zeroValue9
 t24 := Tryz.underlying168
 a24 := Tryz.isAgg168
 z24 := Tryz.sizeOf168
 v24 := Tryz.zeroValue168 }
open Go.RowKit in
/-- strings.CutPrefix: "CutPrefix returns s without the provided leading prefix string and reports whether it found the prefix. If s doesn't start with prefix, CutPrefix returns s, false. If prefix is the empty string, CutPrefix returns s, true.": IT RETURNS '(Lib.trimPrefix s p, Lib.hasPrefix s p)'; the world is as it was. (LAID: no walk: one application.) -/
theorem Tryz.strings_CutPrefix (s p : ByteArray) (w : World) :
 Calls Tryz.prog 112 #[.string s, .string p] w fun e w' => e = .returned (.tuple #[.string ⟨(Lib.trimPrefix s.data.toList p.data.toList).toArray⟩, .bool (Lib.hasPrefix s.data.toList p.data.toList)]) ∧ w' = w := Any.strings_CutPrefix Tryz.lays103 s p w
def Tryz.lays195_ren : Go.Shelf.Ren := ⟨fun | 195 => 133 | n => n, fun | 9 => 9 | 3 => 3 | 0 => 0 | 4 => 4 | n => n, fun | n => n⟩
theorem Tryz.lays195 : Go.Proofs.Lays.n195 Tryz.prog Tryz.lays195_ren := {
 mixed := by kernel_rfl
 f195 := Tryz.func133.trans (congrArg some (by kernel_rfl))
 t0 := Tryz.underlying0
 a0 := Tryz.isAgg0
 z0 := Tryz.sizeOf0
 v0 := Tryz.zeroValue0
 t3 := Tryz.underlying3
 a3 := Tryz.isAgg3
 z3 := Tryz.sizeOf3
 v3 := Tryz.zeroValue3
 t4 := Tryz.underlying4
 a4 := Tryz.isAgg4
 z4 := Tryz.sizeOf4
 v4 := Tryz.zeroValue4
 t9 := Tryz.underlying9
 a9 := Tryz.isAgg9
 z9 := Tryz.sizeOf9
 v9 := Tryz.zeroValue9 }
open Go.RowKit in
/-- unicode/utf8.RuneCountInString: "RuneCountInString is like RuneCount but its input is a string." ("RuneCount returns the number of runes in p. Erroneous and short encodings are treated as single runes of width 1 byte."): EVERY STRING, valid UTF-8 or not: 'Lib.runeCount s' (plain Lean over the model's own 'Utf8.decode'; 'Lib.runeCount_le': at most len(s); 'Lib.runeCount_ascii': on ASCII: len(s)). THE ONE CONDITION: len(s) below 2^63 - 1 (the counter does not wrap): the form's reach pays it. THE WORLD BEHIND THE CALL: ONE BLOCK MORE: the model's iterator over s, at its end: all else as it was. (LAID: no walk: one application.) -/
theorem Tryz.utf8_RuneCountInString (s : ByteArray) (w : World) (hs : s.size < 9223372036854775807) :
 Calls Tryz.prog 133 #[.string s] w fun e w' => e = .returned (.int .i64 (Lib.runeCount s)) ∧ ∃ pos, w' = w.iter s pos := Any.utf8_RuneCountInString Tryz.lays195 s w hs
def Tryz.lays219_ren : Go.Shelf.Ren := ⟨fun | 219 => 152 | 217 => 146 | 225 => 158 | 224 => 159 | 267 => 160 | 266 => 153 | 314 => 162 | n => n, fun | 9 => 9 | 3 => 3 | 4 => 4 | 5 => 5 | 46 => 77 | 146 => 210 | 51 => 140 | n => n, fun | 1 => 0 | n => n⟩
theorem Tryz.lays219 : Go.Proofs.Lays.n219 Tryz.prog Tryz.lays219_ren := {
 mixed := by kernel_rfl
 f217 := Tryz.func146.trans (congrArg some (by kernel_rfl))
 f219 := Tryz.func152.trans (congrArg some (by kernel_rfl))
 f224 := Tryz.func159.trans (congrArg some (by kernel_rfl))
 f225 := Tryz.func158.trans (congrArg some (by kernel_rfl))
 f266 := Tryz.func153.trans (congrArg some (by kernel_rfl))
 f267 := Tryz.func160.trans (congrArg some (by kernel_rfl))
 f314 := Tryz.func162.trans (congrArg some (by kernel_rfl))
 t3 := Tryz.underlying3
 a3 := Tryz.isAgg3
 z3 := Tryz.sizeOf3
 v3 := Tryz.zeroValue3
 t4 := Tryz.underlying4
 a4 := Tryz.isAgg4
 z4 := Tryz.sizeOf4
 v4 := Tryz.zeroValue4
 t5 := Tryz.underlying5
 a5 := Tryz.isAgg5
 z5 := Tryz.sizeOf5
 v5 := Tryz.zeroValue5
 t9 := Tryz.underlying9
 a9 := Tryz.isAgg9
 z9 := Tryz.sizeOf9
 v9 := Tryz.zeroValue9
 t46 := Tryz.underlying77
 a46 := Tryz.isAgg77
 z46 := Tryz.sizeOf77
 v46 := Tryz.zeroValue77
 t51 := Tryz.underlying140
 a51 := Tryz.isAgg140
 z51 := Tryz.sizeOf140
 v51 := Tryz.zeroValue140
 t146 := Tryz.underlying210
 a146 := Tryz.isAgg210
 z146 := Tryz.sizeOf210
 v146 := Tryz.zeroValue210
 g1 := by kernel_rfl }
open Go.RowKit Go.Lib in
/-- internal/stringslite.Index (what strings.Index calls) AT A substr OF ONE BYTE c: IT RETURNS 'Lib.indexByte s c'; the world is as it was. (LAID: no walk: one application.) -/
theorem Tryz.stringslite_Index_one (s : ByteArray) (c : UInt8) (w : World) :
 Calls Tryz.prog 152 #[.string s, .string ⟨#[c]⟩] w fun e w' => e = .returned (.int .i64 (Lib.indexByte s.data.toList c)) ∧ w' = w := Any.stringslite_Index_one Tryz.lays219 s c w
def Tryz.lays152_ren : Go.Shelf.Ren := ⟨fun | 152 => 154 | 137 => 130 | 119 => 161 | 224 => 159 | 225 => 158 | 217 => 146 | 266 => 153 | n => n, fun | 9 => 9 | 21 => 21 | 3 => 3 | 4 => 4 | 5 => 5 | 0 => 0 | 46 => 77 | n => n, fun | n => n⟩
theorem Tryz.lays152 : Go.Proofs.Lays.n152 Tryz.prog Tryz.lays152_ren := {
 mixed := by kernel_rfl
 f119 := Tryz.func161.trans (congrArg some (by kernel_rfl))
 f137 := Tryz.func130.trans (congrArg some (by kernel_rfl))
 f152 := Tryz.func154.trans (congrArg some (by kernel_rfl))
 f217 := Tryz.func146.trans (congrArg some (by kernel_rfl))
 f224 := Tryz.func159.trans (congrArg some (by kernel_rfl))
 f225 := Tryz.func158.trans (congrArg some (by kernel_rfl))
 f266 := Tryz.func153.trans (congrArg some (by kernel_rfl))
 t0 := Tryz.underlying0
 a0 := Tryz.isAgg0
 z0 := Tryz.sizeOf0
 v0 := Tryz.zeroValue0
 t3 := Tryz.underlying3
 a3 := Tryz.isAgg3
 z3 := Tryz.sizeOf3
 v3 := Tryz.zeroValue3
 t4 := Tryz.underlying4
 a4 := Tryz.isAgg4
 z4 := Tryz.sizeOf4
 v4 := Tryz.zeroValue4
 t5 := Tryz.underlying5
 a5 := Tryz.isAgg5
 z5 := Tryz.sizeOf5
 v5 := Tryz.zeroValue5
 t9 := Tryz.underlying9
 a9 := Tryz.isAgg9
 z9 := Tryz.sizeOf9
 v9 := Tryz.zeroValue9
 t21 := Tryz.underlying21
 a21 := Tryz.isAgg21
 z21 := Tryz.sizeOf21
 v21 := Tryz.zeroValue21
 t46 := Tryz.underlying77
 a46 := Tryz.isAgg77
 z46 := Tryz.sizeOf77
 v46 := Tryz.zeroValue77 }
open Go.RowKit Go.Lib in
theorem Tryz.strings_IndexRune_ascii (s : ByteArray) (r : Int) (w : World) (h0 : 0 ≤ r) (h1 : r < 128) :
 Calls Tryz.prog 154 #[.string s, .int .i32 r] w fun e w' => e = .returned (.int .i64 (Lib.indexByte s.data.toList r.toNat.toUInt8)) ∧ w' = w := Any.strings_IndexRune_ascii Tryz.lays152 s r w h0 h1
def Tryz.lays226_ren : Go.Shelf.Ren := ⟨fun | 226 => 155 | n => n, fun | 3 => 3 | 4 => 4 | n => n, fun | n => n⟩
theorem Tryz.lays226 : Go.Proofs.Lays.n226 Tryz.prog Tryz.lays226_ren := {
 mixed := by kernel_rfl
 f226 := Tryz.func155.trans (congrArg some (by kernel_rfl))
 t3 := Tryz.underlying3
 a3 := Tryz.isAgg3
 z3 := Tryz.sizeOf3
 v3 := Tryz.zeroValue3
 t4 := Tryz.underlying4
 a4 := Tryz.isAgg4
 z4 := Tryz.sizeOf4
 v4 := Tryz.zeroValue4 }
open Go.RowKit Go.Lib in
theorem Tryz.strings_shouldUseASCIISet (n : Int) (w : World) :
 Calls Tryz.prog 155 #[.int .i64 n] w fun e w' => e = .returned (.bool (decide (8 < n))) ∧ w' = w := Any.strings_shouldUseASCIISet Tryz.lays226 n w
def Tryz.lays153_ren : Go.Shelf.Ren := ⟨fun | 153 => 147 | 152 => 154 | 226 => 155 | 227 => 138 | 228 => 148 | 137 => 130 | 119 => 161 | 224 => 159 | 225 => 158 | 217 => 146 | 266 => 153 | n => n, fun | 9 => 9 | 3 => 3 | 4 => 4 | 5 => 5 | 21 => 21 | 117 => 196 | 116 => 195 | 0 => 0 | 46 => 77 | 124 => 199 | n => n, fun | n => n⟩
theorem Tryz.lays153 : Go.Proofs.Lays.n153 Tryz.prog Tryz.lays153_ren := {
 mixed := by kernel_rfl
 f119 := Tryz.func161.trans (congrArg some (by kernel_rfl))
 f137 := Tryz.func130.trans (congrArg some (by kernel_rfl))
 f152 := Tryz.func154.trans (congrArg some (by kernel_rfl))
 f153 := Tryz.func147.trans (congrArg some (by kernel_rfl))
 f217 := Tryz.func146.trans (congrArg some (by kernel_rfl))
 f224 := Tryz.func159.trans (congrArg some (by kernel_rfl))
 f225 := Tryz.func158.trans (congrArg some (by kernel_rfl))
 f226 := Tryz.func155.trans (congrArg some (by kernel_rfl))
 f227 := Tryz.func138.trans (congrArg some (by kernel_rfl))
 f228 := Tryz.func148.trans (congrArg some (by kernel_rfl))
 f266 := Tryz.func153.trans (congrArg some (by kernel_rfl))
 t0 := Tryz.underlying0
 a0 := Tryz.isAgg0
 z0 := Tryz.sizeOf0
 v0 := Tryz.zeroValue0
 t3 := Tryz.underlying3
 a3 := Tryz.isAgg3
 z3 := Tryz.sizeOf3
 v3 := Tryz.zeroValue3
 t4 := Tryz.underlying4
 a4 := Tryz.isAgg4
 z4 := Tryz.sizeOf4
 v4 := Tryz.zeroValue4
 t5 := Tryz.underlying5
 a5 := Tryz.isAgg5
 z5 := Tryz.sizeOf5
 v5 := Tryz.zeroValue5
 t9 := Tryz.underlying9
 a9 := Tryz.isAgg9
 z9 := Tryz.sizeOf9
 v9 := Tryz.zeroValue9
 t21 := Tryz.underlying21
 a21 := Tryz.isAgg21
 z21 := Tryz.sizeOf21
 v21 := Tryz.zeroValue21
 t46 := Tryz.underlying77
 a46 := Tryz.isAgg77
 z46 := Tryz.sizeOf77
 v46 := Tryz.zeroValue77
 t116 := Tryz.underlying195
 a116 := Tryz.isAgg195
 z116 := Tryz.sizeOf195
 t117 := Tryz.underlying196
 a117 := Tryz.isAgg196
 z117 := Tryz.sizeOf196
 v117 := Tryz.zeroValue196
 t124 := Tryz.underlying199
 a124 := Tryz.isAgg199
 z124 := Tryz.sizeOf199
 v124 := Tryz.zeroValue199 }
open Go.RowKit Go.Lib in
/-- chars is one ASCII byte. (LAID: no walk: one application.) -/
theorem Tryz.strings_IndexAny_one (s chars : ByteArray) (w : World) (h1 : chars.size = 1) (hascii : ∀ (j : Nat) b, chars.data.toList[j]? = some b → b.toNat < 128) :
 Calls Tryz.prog 147 #[.string s, .string chars] w fun e w' => e = .returned (.int .i64 (Lib.indexAny s.data.toList chars.data.toList)) ∧ w' = w := Any.strings_IndexAny_one Tryz.lays153 s chars w h1 hascii
def Tryz.lays227_ren : Go.Shelf.Ren := ⟨fun | 227 => 138 | n => n, fun | 9 => 9 | 116 => 195 | 4 => 4 | 0 => 0 | 3 => 3 | 5 => 5 | n => n, fun | n => n⟩
theorem Tryz.lays227 : Go.Proofs.Lays.n227 Tryz.prog Tryz.lays227_ren := {
 mixed := by kernel_rfl
 f227 := Tryz.func138.trans (congrArg some (by kernel_rfl))
 t0 := Tryz.underlying0
 a0 := Tryz.isAgg0
 z0 := Tryz.sizeOf0
 v0 := Tryz.zeroValue0
 t3 := Tryz.underlying3
 a3 := Tryz.isAgg3
 z3 := Tryz.sizeOf3
 v3 := Tryz.zeroValue3
 t4 := Tryz.underlying4
 a4 := Tryz.isAgg4
 z4 := Tryz.sizeOf4
 v4 := Tryz.zeroValue4
 t5 := Tryz.underlying5
 a5 := Tryz.isAgg5
 z5 := Tryz.sizeOf5
 v5 := Tryz.zeroValue5
 t9 := Tryz.underlying9
 a9 := Tryz.isAgg9
 z9 := Tryz.sizeOf9
 v9 := Tryz.zeroValue9
 t116 := Tryz.underlying195
 a116 := Tryz.isAgg195
 z116 := Tryz.sizeOf195 }
open Go.RowKit Go.Lib in
theorem Tryz.strings_makeASCIISet (hv116 : ∀ w, (zeroValue 195).run Tryz.prog w = .ok (.agg (Array.replicate 256 (.bool false))) w) (chars : ByteArray) (w : World) (hs : chars.size < 4294967281) (hascii : ∀ (j : Nat) b, chars.data.toList[j]? = some b → b.toNat < 128) :
 Calls Tryz.prog 138 #[.string chars] w fun e w' => e = .returned (.tuple #[.agg (Lib.setCells chars.data.toList), .bool true]) ∧ w' = w.alloc (.cells (Lib.setCells chars.data.toList) 195) := Any.strings_makeASCIISet Tryz.lays227 hv116 (by kernel_rfl) chars w hs hascii
def Tryz.lays228_ren : Go.Shelf.Ren := ⟨fun | 228 => 148 | n => n, fun | 124 => 199 | 5 => 5 | 4 => 4 | 0 => 0 | 116 => 195 | n => n, fun | n => n⟩
theorem Tryz.lays228 : Go.Proofs.Lays.n228 Tryz.prog Tryz.lays228_ren := {
 mixed := by kernel_rfl
 f228 := Tryz.func148.trans (congrArg some (by kernel_rfl))
 t0 := Tryz.underlying0
 a0 := Tryz.isAgg0
 z0 := Tryz.sizeOf0
 v0 := Tryz.zeroValue0
 t4 := Tryz.underlying4
 a4 := Tryz.isAgg4
 z4 := Tryz.sizeOf4
 v4 := Tryz.zeroValue4
 t5 := Tryz.underlying5
 a5 := Tryz.isAgg5
 z5 := Tryz.sizeOf5
 v5 := Tryz.zeroValue5
 t116 := Tryz.underlying195
 a116 := Tryz.isAgg195
 z116 := Tryz.sizeOf195
 t124 := Tryz.underlying199
 a124 := Tryz.isAgg199
 z124 := Tryz.sizeOf199
 v124 := Tryz.zeroValue199 }
open Go.RowKit Go.Lib in
/-- '(as *asciiSet) contains(c)': 'as[c]': the set lies at block b, whole. (LAID: no walk: one application.) -/
theorem Tryz.asciiSet_contains (b : Nat) (x : UInt8) (v : Bool) (w : World) (hc : w.cell? ⟨b, x.toNat, none⟩ = some (.bool v)) :
 Calls Tryz.prog 148 #[.pointer (some ⟨b, 0, none⟩), .int .u8 x.toNat] w fun e w' => e = .returned (.bool v) ∧ w' = w := Any.asciiSet_contains Tryz.lays228 b x v w hc
def Tryz.lays110_ren : Go.Shelf.Ren := ⟨fun | 110 => 111 | 109 => 128 | n => n, fun | 31 => 32 | 9 => 9 | 4 => 4 | 3 => 3 | 0 => 0 | n => n, fun | n => n⟩
theorem Tryz.lays110 : Go.Proofs.Lays.n110 Tryz.prog Tryz.lays110_ren := {
 mixed := by kernel_rfl
 f109 := Tryz.func128.trans (congrArg some (by kernel_rfl))
 f110 := Tryz.func111.trans (congrArg some (by kernel_rfl))
 t0 := Tryz.underlying0
 a0 := Tryz.isAgg0
 z0 := Tryz.sizeOf0
 v0 := Tryz.zeroValue0
 t3 := Tryz.underlying3
 a3 := Tryz.isAgg3
 z3 := Tryz.sizeOf3
 v3 := Tryz.zeroValue3
 t4 := Tryz.underlying4
 a4 := Tryz.isAgg4
 z4 := Tryz.sizeOf4
 v4 := Tryz.zeroValue4
 t9 := Tryz.underlying9
 a9 := Tryz.isAgg9
 z9 := Tryz.sizeOf9
 v9 := Tryz.zeroValue9
 t31 := Tryz.underlying32
 a31 := Tryz.isAgg32
 z31 := Tryz.sizeOf32
 v31 := Tryz.zeroValue32 }
open Go.Lib in
/-- slices.Contains at []string: "Contains reports whether v is present in s.": IT RETURNS 'Lib.containsS (the elements) v', which is true just where v is among them ('Lib.containsS_iff'); the world is as it was. ITS CALLEE slices.Index IS MET BY ITS OWN CONTRACT OFF THE SHELF (lay that first): no loop is walked here. (LAID: no walk: one application.) -/
theorem Tryz.slices_Contains_string (b off n c : Nat) (zs : List ByteArray) (x : ByteArray) (w : World) (hz : n ≤ zs.length) (hbig : n ≤ 9223372036854775807) (hc : ∀ j, j < zs.length → w.cell? ⟨b, off + j, none⟩ = some (.string (zs.getD j ByteArray.empty))) :
 Calls Tryz.prog 111 #[.slice (some ⟨b, off, none⟩) n c, .string x] w fun e w' => e = .returned (.bool (Lib.containsS (zs.take n) x)) ∧ w' = w := Any.slices_Contains_string Tryz.lays110 b off n c zs x w hz hbig hc
open Go.Lib in
/-- The same at a slice of length 0, a nil one too. (LAID: no walk: one application.) -/
theorem Tryz.slices_Contains_string_empty (a : Option Addr) (c : Nat) (x : ByteArray) (w : World) :
 Calls Tryz.prog 111 #[.slice a 0 c, .string x] w fun e w' => e = .returned (.bool false) ∧ w' = w := Any.slices_Contains_string_empty Tryz.lays110 a c x w
end Go.Proofs
