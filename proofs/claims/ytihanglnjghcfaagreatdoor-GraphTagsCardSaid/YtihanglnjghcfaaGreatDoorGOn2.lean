/- Hex of package sum. -/
import Derived.Test.YtihanglnjghcfaaGreatDoorGOn1
import Derived.Laws.BitsLemmas
namespace Go.Proofs.YtihanglnjghcfaaGreatDoor
open Go.RowKit
set_option linter.unusedVariables false

def hexd (n : Int) : Int := if n < 10 then 48 + n else 87 + n
theorem hexIx0 (w : World) : (Instr.index 9 (.string (⟨#[48, 49, 50, 51, 52, 53, 54, 55, 56, 57, 97, 98, 99, 100, 101, 102]⟩ : ByteArray)) (.int .u8 ((0 : Nat) : Int))).run Tryz.prog w = .ok (.int .u8 48) w := by kernel_rfl
theorem hexIx1 (w : World) : (Instr.index 9 (.string (⟨#[48, 49, 50, 51, 52, 53, 54, 55, 56, 57, 97, 98, 99, 100, 101, 102]⟩ : ByteArray)) (.int .u8 ((1 : Nat) : Int))).run Tryz.prog w = .ok (.int .u8 49) w := by kernel_rfl
theorem hexIx2 (w : World) : (Instr.index 9 (.string (⟨#[48, 49, 50, 51, 52, 53, 54, 55, 56, 57, 97, 98, 99, 100, 101, 102]⟩ : ByteArray)) (.int .u8 ((2 : Nat) : Int))).run Tryz.prog w = .ok (.int .u8 50) w := by kernel_rfl
theorem hexIx3 (w : World) : (Instr.index 9 (.string (⟨#[48, 49, 50, 51, 52, 53, 54, 55, 56, 57, 97, 98, 99, 100, 101, 102]⟩ : ByteArray)) (.int .u8 ((3 : Nat) : Int))).run Tryz.prog w = .ok (.int .u8 51) w := by kernel_rfl
theorem hexIx4 (w : World) : (Instr.index 9 (.string (⟨#[48, 49, 50, 51, 52, 53, 54, 55, 56, 57, 97, 98, 99, 100, 101, 102]⟩ : ByteArray)) (.int .u8 ((4 : Nat) : Int))).run Tryz.prog w = .ok (.int .u8 52) w := by kernel_rfl
theorem hexIx5 (w : World) : (Instr.index 9 (.string (⟨#[48, 49, 50, 51, 52, 53, 54, 55, 56, 57, 97, 98, 99, 100, 101, 102]⟩ : ByteArray)) (.int .u8 ((5 : Nat) : Int))).run Tryz.prog w = .ok (.int .u8 53) w := by kernel_rfl
theorem hexIx6 (w : World) : (Instr.index 9 (.string (⟨#[48, 49, 50, 51, 52, 53, 54, 55, 56, 57, 97, 98, 99, 100, 101, 102]⟩ : ByteArray)) (.int .u8 ((6 : Nat) : Int))).run Tryz.prog w = .ok (.int .u8 54) w := by kernel_rfl
theorem hexIx7 (w : World) : (Instr.index 9 (.string (⟨#[48, 49, 50, 51, 52, 53, 54, 55, 56, 57, 97, 98, 99, 100, 101, 102]⟩ : ByteArray)) (.int .u8 ((7 : Nat) : Int))).run Tryz.prog w = .ok (.int .u8 55) w := by kernel_rfl
theorem hexIx8 (w : World) : (Instr.index 9 (.string (⟨#[48, 49, 50, 51, 52, 53, 54, 55, 56, 57, 97, 98, 99, 100, 101, 102]⟩ : ByteArray)) (.int .u8 ((8 : Nat) : Int))).run Tryz.prog w = .ok (.int .u8 56) w := by kernel_rfl
theorem hexIx9 (w : World) : (Instr.index 9 (.string (⟨#[48, 49, 50, 51, 52, 53, 54, 55, 56, 57, 97, 98, 99, 100, 101, 102]⟩ : ByteArray)) (.int .u8 ((9 : Nat) : Int))).run Tryz.prog w = .ok (.int .u8 57) w := by kernel_rfl
theorem hexIx10 (w : World) : (Instr.index 9 (.string (⟨#[48, 49, 50, 51, 52, 53, 54, 55, 56, 57, 97, 98, 99, 100, 101, 102]⟩ : ByteArray)) (.int .u8 ((10 : Nat) : Int))).run Tryz.prog w = .ok (.int .u8 97) w := by kernel_rfl
theorem hexIx11 (w : World) : (Instr.index 9 (.string (⟨#[48, 49, 50, 51, 52, 53, 54, 55, 56, 57, 97, 98, 99, 100, 101, 102]⟩ : ByteArray)) (.int .u8 ((11 : Nat) : Int))).run Tryz.prog w = .ok (.int .u8 98) w := by kernel_rfl
theorem hexIx12 (w : World) : (Instr.index 9 (.string (⟨#[48, 49, 50, 51, 52, 53, 54, 55, 56, 57, 97, 98, 99, 100, 101, 102]⟩ : ByteArray)) (.int .u8 ((12 : Nat) : Int))).run Tryz.prog w = .ok (.int .u8 99) w := by kernel_rfl
theorem hexIx13 (w : World) : (Instr.index 9 (.string (⟨#[48, 49, 50, 51, 52, 53, 54, 55, 56, 57, 97, 98, 99, 100, 101, 102]⟩ : ByteArray)) (.int .u8 ((13 : Nat) : Int))).run Tryz.prog w = .ok (.int .u8 100) w := by kernel_rfl
theorem hexIx14 (w : World) : (Instr.index 9 (.string (⟨#[48, 49, 50, 51, 52, 53, 54, 55, 56, 57, 97, 98, 99, 100, 101, 102]⟩ : ByteArray)) (.int .u8 ((14 : Nat) : Int))).run Tryz.prog w = .ok (.int .u8 101) w := by kernel_rfl
theorem hexIx15 (w : World) : (Instr.index 9 (.string (⟨#[48, 49, 50, 51, 52, 53, 54, 55, 56, 57, 97, 98, 99, 100, 101, 102]⟩ : ByteArray)) (.int .u8 ((15 : Nat) : Int))).run Tryz.prog w = .ok (.int .u8 102) w := by kernel_rfl
theorem hexIx (x : Int) (h0 : 0 ≤ x) (h : x < 16) (w : World) : (Instr.index 9 (.string (⟨#[48, 49, 50, 51, 52, 53, 54, 55, 56, 57, 97, 98, 99, 100, 101, 102]⟩ : ByteArray)) (.int .u8 x)).run Tryz.prog w = .ok (.int .u8 (hexd x)) w := by
  obtain ⟨n, rfl⟩ := Int.eq_ofNat_of_zero_le h0
  rcases (by omega : n = 0 ∨ n = 1 ∨ n = 2 ∨ n = 3 ∨ n = 4 ∨ n = 5 ∨ n = 6 ∨ n = 7 ∨ n = 8 ∨ n = 9 ∨ n = 10 ∨ n = 11 ∨ n = 12 ∨ n = 13 ∨ n = 14 ∨ n = 15) with rfl | rfl | rfl | rfl | rfl | rfl | rfl | rfl | rfl | rfl | rfl | rfl | rfl | rfl | rfl | rfl
  · exact hexIx0 w
  · exact hexIx1 w
  · exact hexIx2 w
  · exact hexIx3 w
  · exact hexIx4 w
  · exact hexIx5 w
  · exact hexIx6 w
  · exact hexIx7 w
  · exact hexIx8 w
  · exact hexIx9 w
  · exact hexIx10 w
  · exact hexIx11 w
  · exact hexIx12 w
  · exact hexIx13 w
  · exact hexIx14 w
  · exact hexIx15 w

def hexOf (x : Int) : List Int := [hexd (x / 16), hexd (x % 16)]
def hexL : List Int → List Int
  | [] => []
  | x :: xs => hexOf x ++ hexL xs
theorem hexL_snoc (xs : List Int) (x : Int) : hexL (xs ++ [x]) = hexL xs ++ hexOf x := by
  induction xs with
  | nil => simp [hexL]
  | cons y ys ih => simp [hexL, ih]
theorem hexL_len (xs : List Int) : (hexL xs).length = 2 * xs.length := by
  induction xs with
  | nil => rfl
  | cons y ys ih => simp [hexL, hexOf, ih]; omega

set_option maxRecDepth 100000 in
set_option maxHeartbeats 2000000 in
theorem hex_any (A : Option Addr) (n c : Nat) (xs : List Int) (w : World) (hI : Ints .u8 w A xs) (hn : xs.length = n) (hb : Bytes xs) (hsz : n ≤ 70368744177000) :
    Calls Tryz.prog 104 #[.slice A n c] w fun e w' => e = .returned (.string (strOfNums (hexL xs))) ∧ Below w.heap.size w w' := by
  subst hn
  obtain ⟨i0, hi, hz0, hz1, hz2⟩ := info_parts Tryz.info_u8
  have hmk : ∀ w : World, (Instr.makeSlice 48 (.int .i64 0) (.int .i64 (2 * (xs.length : Int)))).run Tryz.prog w = .ok (.slice (some ⟨w.heap.size, 0, none⟩) 0 (2 * xs.length)) (w.alloc (.cells (madeCells #[.int .u8 0] (2 * xs.length)) 5)) := by
    have := make_bytes (2 * xs.length) (by omega)
    rwa [Int.natCast_mul] at this
  go_enter Tryz.func104, Tryz.ntmps104
  go_wp2
  have hoE : OwnS (w.alloc (.cells (madeCells #[.int .u8 0] (2 * xs.length)) 5)) w.heap.size 5 1 (.slice (some ⟨w.heap.size, 0, none⟩) 0 (2 * xs.length)) 0 [] := OwnS.empty (Nat.le_refl _) (heap_alloc_new w _) (by unfold maxLen; omega) (by simp [madeCells])
  have hBE := (Below.refl w.heap.size w).alloc (Nat.le_refl _) (.cells (madeCells #[.int .u8 0] (2 * xs.length)) 5)
  have hIE := hI.below hBE
  generalize w.alloc (.cells (madeCells #[.int .u8 0] (2 * xs.length)) 5) = w9 at *
  go_loopw [3, 12] (fun out i wr => ∃ (k : Nat) (A : Option Addr) (c : Nat), k ≤ xs.length ∧ i = .int .i64 k ∧ out = .slice A (hexL (xs.take k)).length c ∧ OwnS wr w.heap.size 5 1 (.slice A (hexL (xs.take k)).length c) (hexL (xs.take k)).length ((hexL (xs.take k)).map (Value.int .u8)) ∧ Below w.heap.size w wr) (fun _ i _ => xs.length - (intOf i).toNat)
  case atStart => exact ⟨0, _, _, by omega, rfl, rfl, hoE, hBE⟩
  case round =>
    clear hoE hBE hIE
    obtain ⟨k, A9, c9, hk9, rfl, rfl, ho, hB⟩ := hrel
    by_cases hlt : k < xs.length
    · have hI9 := hI.below hB
      have hx := hb.at_ k hlt
      have HN : Hid (hexL (xs.take (k + 1)) = hexL (xs.take k) ++ hexOf (xs.getD k 0)) := by show _ = _; rw [take_snoc_getD xs k hlt, hexL_snoc]
      have hll : (hexL (xs.take k)).length ≤ 140737488355000 := by rw [hexL_len, List.length_take_of_le hk9]; omega
      obtain ⟨b, o, rfl, hbl, hcell⟩ := hI9 (by omega)
      have hc := hcell k hlt
      have hx1 : 0 ≤ xs.getD k 0 / 16 ∧ xs.getD k 0 / 16 < 16 := by omega
      have hx2 : 0 ≤ xs.getD k 0 % 16 ∧ xs.getD k 0 % 16 < 16 := by omega
      clear hcell hI
      generalize xs.getD k 0 = x at *
      generalize hexL (xs.take k) = l at *
      have hi1 := hexIx (x / 16) hx1.1 hx1.2
      have hi2 := hexIx (x % 16) hx2.1 hx2.2
      have ha : bits .and .u8 x 15 = x % 16 := u8_and15 x hx.1 hx.2
      clear hI9
      go_wp2
      go_region_law (refine step_append_S rfl (.tmp 16) (.tmp 23) 48 48 rfl i0 (.int .u8 0) 1 (.slice 5) Tryz.underlying48 Tryz.underlying48 (fun _ h => by cases h) hi hz0 hz1 hz2 rfl rfl rfl ((ho.alloc _).drew) ((Src.new (us := (hexOf x).map (Value.int .u8)) rfl (ints_oneCell .u8 (hexOf x))).drew) ?_ ?_ ?_ ?_; (simp only [hexOf, List.length_map, List.length_cons, List.length_nil]; unfold maxLen; omega); (simp only [hexOf, List.length_map, List.length_cons, List.length_nil]; omega); (have := hB.size; simp; omega); intro A2 c2 w2 ho2 hg2 hw2)
      all_goals
        go_wp2
        go_roundw
        case rel =>
          have hB' := hB.size
          refine ⟨k + 1, A2, c2, by omega, by go_num, ?_, ?_, ?_⟩
          · rw [HN.out, List.length_append]
          · rw [HN.out, List.length_append, List.map_append]; exact ho2
          · exact ((hB.alloc (by omega) _).drew).grown hg2 (by simp; omega) (fun q h => (ho.lt q h).1)
        case measure => simp [intOf]; omega
    · obtain rfl : k = xs.length := by omega
      rw [List.take_length] at ho ⊢
      have hcv := run_str_ints (P := Tryz.prog) (w := wr) 48 9 5 Tryz.underlying48 Tryz.underlying5 Tryz.underlying9 A9 c9 (hexL xs) ho.ints
      go_wp2
      go_ret
      exact ⟨rfl, hB⟩
end Go.Proofs.YtihanglnjghcfaaGreatDoor
namespace Go.Proofs.YtihanglnjghcfaaGreatDoor
open Go.RowKit
set_option linter.unusedVariables false

def pairV (l : List Int) (j : Nat) : Int := (dig (l.getD (2 * j) 0)).getD 0 * 16 + (dig (l.getD (2 * j + 1) 0)).getD 0
def pairOk (l : List Int) (j : Nat) : Bool := (dig (l.getD (2 * j) 0)).isSome && (dig (l.getD (2 * j + 1) 0)).isSome
def unTo (l : List Int) (k : Nat) : List Int := (List.range k).map (pairV l)
def unOk (l : List Int) : Bool := l.length % 2 == 0 && (List.range (l.length / 2)).all (pairOk l)
def unV (l : List Int) : List Int := if unOk l then unTo l (l.length / 2) else []
theorem unTo_len (l : List Int) (k : Nat) : (unTo l k).length = k := by simp [unTo]
theorem unTo_succ (l : List Int) (k : Nat) : unTo l (k + 1) = unTo l k ++ [pairV l k] := by simp [unTo, List.range_succ]
theorem dig_ok (c : Int) : 0 ≤ (dig c).getD 0 ∧ (dig c).getD 0 < 16 := by
  unfold dig
  by_cases h1 : 48 ≤ c ∧ c ≤ 57
  · rw [if_pos h1]; simp; omega
  · rw [if_neg h1]
    by_cases h2 : 97 ≤ c ∧ c ≤ 102
    · rw [if_pos h2]; simp; omega
    · rw [if_neg h2]; simp
theorem pairV_ok (l : List Int) (j : Nat) : 0 ≤ pairV l j ∧ pairV l j < 256 := by
  have h1 := dig_ok (l.getD (2 * j) 0)
  have h2 := dig_ok (l.getD (2 * j + 1) 0)
  unfold pairV
  omega
theorem unTo_ok (l : List Int) (k : Nat) : Bytes (unTo l k) := fun x hx => by
  obtain ⟨j, _, rfl⟩ := List.mem_map.1 hx
  exact pairV_ok l j
theorem unV_ok (l : List Int) : Bytes (unV l) := by
  unfold unV
  split
  · exact unTo_ok l _
  · intro x hx; cases hx
theorem unOk_bad (l : List Int) (j : Nat) (hj : 2 * j + 1 < l.length) (h : pairOk l j = false) : unOk l = false := by
  unfold unOk
  rw [Bool.and_eq_false_iff]
  right
  rw [List.all_eq_false]
  exact ⟨j, List.mem_range.2 (by omega), by simp [h]⟩
theorem unOk_odd (l : List Int) (h : l.length % 2 = 1) : unOk l = false := by
  unfold unOk; rw [h]; rfl
theorem unOk_good (l : List Int) (h : l.length % 2 = 0) (hg : ∀ j, j < l.length / 2 → pairOk l j = true) : unOk l = true := by
  unfold unOk; rw [h]; simpa using hg
def UnPost (w : World) (l : List Int) (e : Ending) (w' : World) : Prop :=
  ∃ A c, e = .returned (.tuple #[.slice A (unV l).length c, .bool (unOk l)]) ∧ Ints .u8 w' A (unV l) ∧ Below w.heap.size w w'
theorem UnPost.bad {w w' : World} {l : List Int} (h : unOk l = false) (hb : Below w.heap.size w w') : UnPost w l (.returned (.tuple #[.slice none 0 0, .bool false])) w' := by
  have e : unV l = [] := by unfold unV; rw [h]; rfl
  refine ⟨none, 0, ?_, ?_, hb⟩
  · rw [e, h]; rfl
  · rw [e]; exact Ints.nil
theorem UnPost.good {w w' : World} {l : List Int} {A : Option Addr} {c k : Nat} (h : unOk l = true) (hk : k = l.length / 2) (ho : Ints .u8 w' A (unTo l k)) (hb : Below w.heap.size w w') : UnPost w l (.returned (.tuple #[.slice A (unTo l k).length c, .bool true])) w' := by
  subst hk
  have e : unV l = unTo l (l.length / 2) := by unfold unV; rw [h]; rfl
  exact ⟨A, c, by rw [e, h], by rw [e]; exact ho, hb⟩
def PairsTo (l : List Int) (k : Nat) : Prop := ∀ j, j < k → pairOk l j = true
theorem PairsTo.succ {l : List Int} {k : Nat} (h : PairsTo l k) (hk : pairOk l k = true) : PairsTo l (k + 1) := fun j hj => by
  rcases Nat.lt_or_ge j k with h' | h'
  · exact h j h'
  · obtain rfl : j = k := by omega
    exact hk
theorem u8_join (a b : Int) (ha : 0 ≤ a ∧ a < 16) (hb : 0 ≤ b ∧ b < 16) : bits .or .u8 (a * 16) b = a * 16 + b :=
  bits_join .u8 8 (by decide) wraps_u8 4 (a * 16) b (by omega) (by omega) (by omega) hb.1 (by omega) (by omega)

set_option maxRecDepth 100000 in
set_option maxHeartbeats 2000000 in
theorem unhex_any (s : ByteArray) (w : World) (hsz : s.size ≤ 140737488355328) : Calls Tryz.prog 127 #[.string s] w (UnPost w (bytesOf s)) := by
  obtain ⟨i0, hi, hz0, hz1, hz2⟩ := info_parts Tryz.info_u8
  by_cases hodd : (s.size : Int) % 2 = 0
  case neg =>
    have hU := unOk_odd (bytesOf s) (by rw [bytesOf_len]; omega)
    have hd : ((s.size : Int) % 2 != 0) = true := by simpa using hodd
    go_enter Tryz.func127, Tryz.ntmps127
    go_wp2
    go_ret2
    exact UnPost.bad hU (Below.refl _ _)
  case pos =>
    have hmk : ∀ w : World, (Instr.makeSlice 48 (.int .i64 0) (.int .i64 ((s.size : Int) / 2))).run Tryz.prog w = .ok (.slice (some ⟨w.heap.size, 0, none⟩) 0 (s.size / 2)) (w.alloc (.cells (madeCells #[.int .u8 0] (s.size / 2)) 5)) := by
      have := make_bytes (s.size / 2) (by omega)
      rwa [Int.natCast_ediv] at this
    have HE := Lib.hid hodd
    have hd : ((s.size : Int) % 2 != 0) = false := by simpa using hodd
    clear hodd
    go_enter Tryz.func127, Tryz.ntmps127
    go_wp2
    clear hd
    have hoE : OwnS (w.alloc (.cells (madeCells #[.int .u8 0] (s.size / 2)) 5)) w.heap.size 5 1 (.slice (some ⟨w.heap.size, 0, none⟩) 0 (s.size / 2)) 0 [] := OwnS.empty (Nat.le_refl _) (heap_alloc_new w _) (by unfold maxLen; omega) (by simp [madeCells])
    have hBE := (Below.refl w.heap.size w).alloc (Nat.le_refl _) (.cells (madeCells #[.int .u8 0] (s.size / 2)) 5)
    generalize w.alloc (.cells (madeCells #[.int .u8 0] (s.size / 2)) 5) = w9 at *
    clear hmk
    go_loopw [4, 5] (fun out i wr => ∃ (k m : Nat) (A : Option Addr) (c : Nat), m ≤ s.size ∧ Hid (m = 2 * k) ∧ i = .int .i64 m ∧ out = .slice A (unTo (bytesOf s) k).length c ∧ OwnS wr w.heap.size 5 1 (.slice A (unTo (bytesOf s) k).length c) (unTo (bytesOf s) k).length ((unTo (bytesOf s) k).map (Value.int .u8)) ∧ PairsTo (bytesOf s) k ∧ Below w.heap.size w wr) (fun _ i _ => s.size - (intOf i).toNat)
    case atStart => exact ⟨0, 0, _, _, by omega, rfl, rfl, rfl, hoE, fun j hj => absurd hj (Nat.not_lt_zero _), hBE⟩
    case round =>
      clear hoE hBE
      obtain ⟨k, m, A9, c9, hm9, hmk, rfl, rfl, ho, hP, hB⟩ := hrel
      by_cases hlt : m < s.size
      · have hlt2 : m + 1 < s.size := by have := hmk.out; have := HE.out; omega
        have e1 : (bytesOf s).getD (2 * k) 0 = ((s[m]'hlt).toNat : Int) := by rw [← hmk.out]; exact bytesOf_at s m hlt
        have e2 : (bytesOf s).getD (2 * k + 1) 0 = ((s[m + 1]'hlt2).toNat : Int) := by rw [← hmk.out]; exact bytesOf_at s (m + 1) hlt2
        have hl1 : 2 * k + 1 < (bytesOf s).length := by rw [bytesOf_len, ← hmk.out]; exact hlt2
        have ha := dig_ok ((bytesOf s).getD (2 * k) 0)
        have hb := dig_ok ((bytesOf s).getD (2 * k + 1) 0)
        have hB1 := (s[m]'hlt).toNat_lt
        have hB2 := (s[m + 1]'hlt2).toNat_lt
        have HN : Hid (unTo (bytesOf s) (k + 1) = unTo (bytesOf s) k ++ [(dig ((s[m]'hlt).toNat : Int)).getD 0 * 16 + (dig ((s[m + 1]'hlt2).toNat : Int)).getD 0]) := by
          show _ = _
          rw [unTo_succ, pairV, e1, e2]
        have hPO : pairOk (bytesOf s) k = ((dig ((s[m]'hlt).toNat : Int)).isSome && (dig ((s[m + 1]'hlt2).toNat : Int)).isSome) := by unfold pairOk; rw [e1, e2]
        have hlen : (unTo (bytesOf s) k).length ≤ 140737488355000 := by rw [unTo_len]; have := hmk.out; omega
        rw [e1] at ha
        rw [e2] at hb
        have hj := u8_join _ _ ha hb
        clear e1 e2
        by_cases hg : ((dig ((s[m]'hlt).toNat : Int)).isSome && (dig ((s[m + 1]'hlt2).toNat : Int)).isSome) = true
        · rw [hg] at hPO
          have HP := Lib.hid hPO
          clear hPO
          obtain ⟨hg1, hg2⟩ := Bool.and_eq_true_iff.1 hg
          clear hg
          go_wp2_with (first
            | (have hm := hdg; go_at_call 144; refine (digit_any _ _ (by omega) (by omega)).mono ?_; rintro e w' ⟨hdg2, rfl⟩; unfold digP at hdg2; rw [hg2] at hdg2; subst hdg2)
            | (go_at_call 144; refine (digit_any _ _ (by omega) (by omega)).mono ?_; rintro e w' ⟨hdg, rfl⟩; unfold digP at hdg; rw [hg1] at hdg; subst hdg; have hdg := trivial)
            | (at_builtin; refine wpList_append_S rfl (.tmp 45) (.tmp 50) 48 48 rfl i0 (.int .u8 0) 1 (.slice 5) Tryz.underlying48 Tryz.underlying48 (fun _ h => by cases h) hi hz0 hz1 hz2 rfl rfl rfl (ho.alloc _) (Src.one_new (u := .int .u8 ((dig ((s[m]'hlt).toNat : Int)).getD 0 * 16 + (dig ((s[m + 1]'hlt2).toNat : Int)).getD 0)) rfl) ?_ ?_ ?_ ?_; (unfold maxLen; omega); omega; (have := hB.size; simp; omega); intro A2 c2 w2 ho2 hg2 hw2))
          go_roundw
          case rel =>
            have hB' := hB.size
            have hPO := HP.out
            refine ⟨k + 1, m + 2, A2, c2, by omega, by have := hmk.out; show _ = _; omega, by go_num, ?_, ?_, hP.succ hPO, ?_⟩
            · rw [HN.out, List.length_append]; first | done | rfl
            · rw [HN.out, List.length_append, List.map_append]; exact ho2
            · exact (hB.alloc (by omega) _).grown hg2 (by simp; omega) (fun q h => (ho.lt q h).1)
          case measure => simp [intOf]; omega
        · have hU : unOk (bytesOf s) = false := unOk_bad (bytesOf s) k hl1 (by rw [hPO]; simpa using hg)
          clear hPO
          rw [Bool.not_eq_true, Bool.and_eq_false_iff] at hg
          have HU := Lib.hid hU
          clear hU
          by_cases hg1 : (dig ((s[m]'hlt).toNat : Int)).isSome = true
          · have hg2 : (dig ((s[m + 1]'hlt2).toNat : Int)).isSome = false := by
              rcases hg with h | h
              · rw [hg1] at h; cases h
              · exact h
            clear hg
            go_wp2_with (first
              | (have hm := hdg; go_at_call 144; refine (digit_any _ _ (by omega) (by omega)).mono ?_; rintro e w' ⟨hdg2, rfl⟩; unfold digP at hdg2; rw [hg2] at hdg2; subst hdg2)
              | (go_at_call 144; refine (digit_any _ _ (by omega) (by omega)).mono ?_; rintro e w' ⟨hdg, rfl⟩; unfold digP at hdg; rw [hg1] at hdg; subst hdg; have hdg := trivial))
            go_ret2
            exact UnPost.bad HU.out hB
          · have hg1 : (dig ((s[m]'hlt).toNat : Int)).isSome = false := by simpa using hg1
            clear hg
            go_wp2_with (first
              | (have hm := hdg; go_at_call 144; refine (digit_any _ _ (by omega) (by omega)).mono ?_; rintro e w' ⟨hdg2, rfl⟩; unfold digP at hdg2; subst hdg2)
              | (go_at_call 144; refine (digit_any _ _ (by omega) (by omega)).mono ?_; rintro e w' ⟨hdg, rfl⟩; unfold digP at hdg; rw [hg1] at hdg; subst hdg; have hdg := trivial))
            go_ret2
            exact UnPost.bad HU.out hB
      · have hms : m = s.size := by omega
        have hU : unOk (bytesOf s) = true := unOk_good _ (by rw [bytesOf_len]; have := HE.out; omega) (fun j hj => hP j (by rw [bytesOf_len] at hj; have := hmk.out; omega))
        have HU := Lib.hid hU
        have hkl : k = (bytesOf s).length / 2 := by rw [bytesOf_len]; have := hmk.out; omega
        have HK := Lib.hid hkl
        clear hU hms hkl
        go_wp2
        go_ret2
        exact UnPost.good HU.out HK.out ho.ints hB
end Go.Proofs.YtihanglnjghcfaaGreatDoor
namespace Go.Proofs.YtihanglnjghcfaaGreatDoor
open Go.RowKit
set_option linter.unusedVariables false

theorem hexJx0 (w : World) : (Instr.index 9 (.string (⟨#[48, 49, 50, 51, 52, 53, 54, 55, 56, 57, 97, 98, 99, 100, 101, 102]⟩ : ByteArray)) (.int .i64 ((0 : Nat) : Int))).run Tryz.prog w = .ok (.int .u8 48) w := by kernel_rfl
theorem hexJx1 (w : World) : (Instr.index 9 (.string (⟨#[48, 49, 50, 51, 52, 53, 54, 55, 56, 57, 97, 98, 99, 100, 101, 102]⟩ : ByteArray)) (.int .i64 ((1 : Nat) : Int))).run Tryz.prog w = .ok (.int .u8 49) w := by kernel_rfl
theorem hexJx2 (w : World) : (Instr.index 9 (.string (⟨#[48, 49, 50, 51, 52, 53, 54, 55, 56, 57, 97, 98, 99, 100, 101, 102]⟩ : ByteArray)) (.int .i64 ((2 : Nat) : Int))).run Tryz.prog w = .ok (.int .u8 50) w := by kernel_rfl
theorem hexJx3 (w : World) : (Instr.index 9 (.string (⟨#[48, 49, 50, 51, 52, 53, 54, 55, 56, 57, 97, 98, 99, 100, 101, 102]⟩ : ByteArray)) (.int .i64 ((3 : Nat) : Int))).run Tryz.prog w = .ok (.int .u8 51) w := by kernel_rfl
theorem hexJx4 (w : World) : (Instr.index 9 (.string (⟨#[48, 49, 50, 51, 52, 53, 54, 55, 56, 57, 97, 98, 99, 100, 101, 102]⟩ : ByteArray)) (.int .i64 ((4 : Nat) : Int))).run Tryz.prog w = .ok (.int .u8 52) w := by kernel_rfl
theorem hexJx5 (w : World) : (Instr.index 9 (.string (⟨#[48, 49, 50, 51, 52, 53, 54, 55, 56, 57, 97, 98, 99, 100, 101, 102]⟩ : ByteArray)) (.int .i64 ((5 : Nat) : Int))).run Tryz.prog w = .ok (.int .u8 53) w := by kernel_rfl
theorem hexJx6 (w : World) : (Instr.index 9 (.string (⟨#[48, 49, 50, 51, 52, 53, 54, 55, 56, 57, 97, 98, 99, 100, 101, 102]⟩ : ByteArray)) (.int .i64 ((6 : Nat) : Int))).run Tryz.prog w = .ok (.int .u8 54) w := by kernel_rfl
theorem hexJx7 (w : World) : (Instr.index 9 (.string (⟨#[48, 49, 50, 51, 52, 53, 54, 55, 56, 57, 97, 98, 99, 100, 101, 102]⟩ : ByteArray)) (.int .i64 ((7 : Nat) : Int))).run Tryz.prog w = .ok (.int .u8 55) w := by kernel_rfl
theorem hexJx8 (w : World) : (Instr.index 9 (.string (⟨#[48, 49, 50, 51, 52, 53, 54, 55, 56, 57, 97, 98, 99, 100, 101, 102]⟩ : ByteArray)) (.int .i64 ((8 : Nat) : Int))).run Tryz.prog w = .ok (.int .u8 56) w := by kernel_rfl
theorem hexJx9 (w : World) : (Instr.index 9 (.string (⟨#[48, 49, 50, 51, 52, 53, 54, 55, 56, 57, 97, 98, 99, 100, 101, 102]⟩ : ByteArray)) (.int .i64 ((9 : Nat) : Int))).run Tryz.prog w = .ok (.int .u8 57) w := by kernel_rfl
theorem hexJx10 (w : World) : (Instr.index 9 (.string (⟨#[48, 49, 50, 51, 52, 53, 54, 55, 56, 57, 97, 98, 99, 100, 101, 102]⟩ : ByteArray)) (.int .i64 ((10 : Nat) : Int))).run Tryz.prog w = .ok (.int .u8 97) w := by kernel_rfl
theorem hexJx11 (w : World) : (Instr.index 9 (.string (⟨#[48, 49, 50, 51, 52, 53, 54, 55, 56, 57, 97, 98, 99, 100, 101, 102]⟩ : ByteArray)) (.int .i64 ((11 : Nat) : Int))).run Tryz.prog w = .ok (.int .u8 98) w := by kernel_rfl
theorem hexJx12 (w : World) : (Instr.index 9 (.string (⟨#[48, 49, 50, 51, 52, 53, 54, 55, 56, 57, 97, 98, 99, 100, 101, 102]⟩ : ByteArray)) (.int .i64 ((12 : Nat) : Int))).run Tryz.prog w = .ok (.int .u8 99) w := by kernel_rfl
theorem hexJx13 (w : World) : (Instr.index 9 (.string (⟨#[48, 49, 50, 51, 52, 53, 54, 55, 56, 57, 97, 98, 99, 100, 101, 102]⟩ : ByteArray)) (.int .i64 ((13 : Nat) : Int))).run Tryz.prog w = .ok (.int .u8 100) w := by kernel_rfl
theorem hexJx14 (w : World) : (Instr.index 9 (.string (⟨#[48, 49, 50, 51, 52, 53, 54, 55, 56, 57, 97, 98, 99, 100, 101, 102]⟩ : ByteArray)) (.int .i64 ((14 : Nat) : Int))).run Tryz.prog w = .ok (.int .u8 101) w := by kernel_rfl
theorem hexJx15 (w : World) : (Instr.index 9 (.string (⟨#[48, 49, 50, 51, 52, 53, 54, 55, 56, 57, 97, 98, 99, 100, 101, 102]⟩ : ByteArray)) (.int .i64 ((15 : Nat) : Int))).run Tryz.prog w = .ok (.int .u8 102) w := by kernel_rfl
theorem hexJx (n : Nat) (h : n < 16) (w : World) : (Instr.index 9 (.string (⟨#[48, 49, 50, 51, 52, 53, 54, 55, 56, 57, 97, 98, 99, 100, 101, 102]⟩ : ByteArray)) (.int .i64 (n : Int))).run Tryz.prog w = .ok (.int .u8 (hexd (n : Int))) w := by
  rcases (by omega : n = 0 ∨ n = 1 ∨ n = 2 ∨ n = 3 ∨ n = 4 ∨ n = 5 ∨ n = 6 ∨ n = 7 ∨ n = 8 ∨ n = 9 ∨ n = 10 ∨ n = 11 ∨ n = 12 ∨ n = 13 ∨ n = 14 ∨ n = 15) with rfl | rfl | rfl | rfl | rfl | rfl | rfl | rfl | rfl | rfl | rfl | rfl | rfl | rfl | rfl | rfl
  · exact hexJx0 w
  · exact hexJx1 w
  · exact hexJx2 w
  · exact hexJx3 w
  · exact hexJx4 w
  · exact hexJx5 w
  · exact hexJx6 w
  · exact hexJx7 w
  · exact hexJx8 w
  · exact hexJx9 w
  · exact hexJx10 w
  · exact hexJx11 w
  · exact hexJx12 w
  · exact hexJx13 w
  · exact hexJx14 w
  · exact hexJx15 w

def digR (c : Int) : Int := match dig c with | some d => d | none => -1
theorem dig_hexd (c : Int) (n : Int) (h0 : 0 ≤ n) (h1 : n < 16) (h : hexd n = c) : digR c = n := by
  subst h
  unfold hexd
  by_cases hl : n < 10
  · rw [if_pos hl]; unfold digR dig; rw [if_pos (by omega)]; show (48 + n - 48) = n; omega
  · rw [if_neg hl]; unfold digR dig; rw [if_neg (by omega), if_pos (by omega)]; show (87 + n - 87) = n; omega
def NotTo (c : Int) (k : Nat) : Prop := ∀ j : Nat, j < k → hexd (j : Int) ≠ c
theorem NotTo.succ {c : Int} {k : Nat} (h : NotTo c k) (hk : hexd (k : Int) ≠ c) : NotTo c (k + 1) := fun j hj => by
  rcases Nat.lt_or_ge j k with h' | h'
  · exact h j h'
  · obtain rfl : j = k := by omega
    exact hk
theorem NotTo.none {c : Int} (h : NotTo c 16) : digR c = -1 := by
  unfold digR dig
  by_cases h1 : 48 ≤ c ∧ c ≤ 57
  · exfalso
    have := h (c - 48).toNat (by omega)
    unfold hexd at this
    rw [if_pos (by omega)] at this
    omega
  · rw [if_neg h1]
    by_cases h2 : 97 ≤ c ∧ c ≤ 102
    · exfalso
      have := h (c - 87).toNat (by omega)
      unfold hexd at this
      rw [if_neg (by omega)] at this
      omega
    · rw [if_neg h2]
theorem digR_some {c : Int} (h : (dig c).isSome = true) : digR c = (dig c).getD 0 ∧ 0 ≤ digR c ∧ digR c < 16 := by
  have := dig_ok c
  cases hd : dig c with
  | none => rw [hd] at h; cases h
  | some d => rw [hd] at this; unfold digR; rw [hd]; exact ⟨rfl, this⟩
theorem digR_none {c : Int} (h : (dig c).isSome = false) : digR c < 0 := by
  cases hd : dig c with
  | none => unfold digR; rw [hd]; decide
  | some d => rw [hd] at h; cases h

set_option maxRecDepth 100000 in
theorem digitR_any (c : Int) (w : World) : Calls Tryz.prog 92 #[.int .u8 c] w fun e w' => e = .returned (.int .i64 (digR c)) ∧ w = w' := by
  go_enter Tryz.func92, Tryz.ntmps92
  go_wp2
  go_loopw [3] (fun i wr => ∃ k : Nat, k ≤ 16 ∧ i = .int .i64 k ∧ NotTo c k ∧ w = wr) (fun i _ => 16 - (intOf i).toNat)
  case atStart => exact ⟨0, by omega, rfl, fun j hj => absurd hj (Nat.not_lt_zero _), rfl⟩
  case round =>
    obtain ⟨k, hk, rfl, hN, rfl⟩ := hrel
    by_cases hlt : k < 16
    · have hx := hexJx k hlt
      have hf := dig_hexd c k (by omega) (by omega)
      have hs := hN.succ
      generalize hexd (k : Int) = y at *
      by_cases he : y = c
      · have HF := Lib.hid (hf he)
        clear hf hs
        have hd : (y == c) = true := by simpa using he
        clear he
        go_wp2
        go_ret
        exact ⟨by rw [HF.out]; rfl, rfl⟩
      · have HS := hs he
        clear hf hs
        have hd : (y == c) = false := by simpa using he
        clear he
        go_wp2
        go_roundw
        case rel => exact ⟨k + 1, by omega, by go_num, HS, by first | rfl | trivial⟩
        case measure => simp [intOf]; omega
    · obtain rfl : k = 16 := by omega
      have HF := Lib.hid hN.none
      go_wp2
      go_ret
      exact ⟨by rw [HF.out]; rfl, rfl⟩

set_option maxRecDepth 100000 in
set_option maxHeartbeats 2000000 in
theorem hexR_any (A : Option Addr) (n c : Nat) (xs : List Int) (w : World) (hI : Ints .u8 w A xs) (hn : xs.length = n) (hb : Bytes xs) (hsz : n ≤ 70368744177000) :
    Calls Tryz.prog 56 #[.slice A n c] w fun e w' => e = .returned (.string (strOfNums (hexL xs))) ∧ Below w.heap.size w w' := by
  subst hn
  obtain ⟨i0, hi, hz0, hz1, hz2⟩ := info_parts Tryz.info_u8
  go_enter Tryz.func56, Tryz.ntmps56
  go_wp2
  go_loopw [3, 4] (fun out i wr => ∃ (k : Nat) (A : Option Addr) (c : Nat), k ≤ xs.length ∧ i = .int .i64 k ∧ out = .slice A (hexL (xs.take k)).length c ∧ OwnS wr w.heap.size 5 1 (.slice A (hexL (xs.take k)).length c) (hexL (xs.take k)).length ((hexL (xs.take k)).map (Value.int .u8)) ∧ Below w.heap.size w wr) (fun _ i _ => xs.length - (intOf i).toNat)
  case atStart => exact ⟨0, none, 0, by omega, rfl, rfl, OwnS.nil _ _ _ _, Below.refl _ _⟩
  case round =>
    obtain ⟨k, A9, c9, hk9, rfl, rfl, ho, hB⟩ := hrel
    by_cases hlt : k < xs.length
    · have hI9 := hI.below hB
      have hx := hb.at_ k hlt
      have HN : Hid (hexL (xs.take (k + 1)) = hexL (xs.take k) ++ hexOf (xs.getD k 0)) := by show _ = _; rw [take_snoc_getD xs k hlt, hexL_snoc]
      have hll : (hexL (xs.take k)).length ≤ 140737488355000 := by rw [hexL_len, List.length_take_of_le hk9]; omega
      obtain ⟨b, o, rfl, hbl, hcell⟩ := hI9 (by omega)
      have hc := hcell k hlt
      have hx1 : 0 ≤ xs.getD k 0 / 16 ∧ xs.getD k 0 / 16 < 16 := by omega
      have hx2 : 0 ≤ xs.getD k 0 % 16 ∧ xs.getD k 0 % 16 < 16 := by omega
      clear hcell hI
      generalize xs.getD k 0 = x at *
      generalize hexL (xs.take k) = l at *
      have hi1 := hexIx (x / 16) hx1.1 hx1.2
      have hi2 := hexIx (x % 16) hx2.1 hx2.2
      have ha : bits .and .u8 x 15 = x % 16 := u8_and15 x hx.1 hx.2
      have hkI : (k : Int) < xs.length := by omega
      clear hI9
      go_wp2
      go_region_law (refine step_append_S rfl (.tmp 11) (.tmp 24) 48 48 rfl i0 (.int .u8 0) 1 (.slice 5) Tryz.underlying48 Tryz.underlying48 (fun _ h => by cases h) hi hz0 hz1 hz2 rfl rfl rfl ((ho.alloc _).drew) ((Src.new (us := (hexOf x).map (Value.int .u8)) rfl (ints_oneCell .u8 (hexOf x))).drew) ?_ ?_ ?_ ?_; (simp only [hexOf, List.length_map, List.length_cons, List.length_nil]; unfold maxLen; omega); (simp only [hexOf, List.length_map, List.length_cons, List.length_nil]; omega); (have := hB.size; simp; omega); intro A2 c2 w2 ho2 hg2 hw2)
      all_goals
        go_wp2
        go_roundw
        case rel =>
          have hB' := hB.size
          refine ⟨k + 1, A2, c2, by omega, by go_num, ?_, ?_, ?_⟩
          · rw [HN.out, List.length_append]
          · rw [HN.out, List.length_append, List.map_append]; exact ho2
          · exact ((hB.alloc (by omega) _).drew).grown hg2 (by simp; omega) (fun q h => (ho.lt q h).1)
        case measure => simp [intOf]; omega
    · obtain rfl : k = xs.length := by omega
      rw [List.take_length] at ho ⊢
      have hcv := run_str_ints (P := Tryz.prog) (w := wr) 48 9 5 Tryz.underlying48 Tryz.underlying5 Tryz.underlying9 A9 c9 (hexL xs) ho.ints
      go_wp2
      go_ret
      exact ⟨rfl, hB⟩
end Go.Proofs.YtihanglnjghcfaaGreatDoor
namespace Go.Proofs.YtihanglnjghcfaaGreatDoor
open Go.RowKit
set_option linter.unusedVariables false

set_option maxRecDepth 100000 in
set_option maxHeartbeats 2000000 in
theorem unhexR_any (s : ByteArray) (w : World) (hsz : s.size ≤ 140737488355328) : Calls Tryz.prog 77 #[.string s] w (UnPost w (bytesOf s)) := by
  obtain ⟨i0, hi, hz0, hz1, hz2⟩ := info_parts Tryz.info_u8
  by_cases hodd : (s.size : Int) % 2 = 0
  case neg =>
    have hU := unOk_odd (bytesOf s) (by rw [bytesOf_len]; omega)
    have hd : ((s.size : Int) % 2 == 1) = true := by simp; omega
    go_enter Tryz.func77, Tryz.ntmps77
    go_wp2
    go_ret2
    exact UnPost.bad hU (Below.refl _ _)
  case pos =>
    have HE := Lib.hid hodd
    have hd : ((s.size : Int) % 2 == 1) = false := by simp; omega
    clear hodd
    go_enter Tryz.func77, Tryz.ntmps77
    go_wp2
    clear hd
    have hoE : OwnS (w.alloc (.cells #[] 5)) w.heap.size 5 1 (.slice (some ⟨w.heap.size, 0, none⟩) 0 0) 0 [] := OwnS.empty (Nat.le_refl _) (heap_alloc_new w _) (by decide) (by simp)
    have hBE := (Below.refl w.heap.size w).alloc (Nat.le_refl _) (.cells #[] 5)
    generalize w.alloc (.cells #[] 5) = w9 at *
    go_loopw [4, 5] (fun out i wr => ∃ (k m : Nat) (A : Option Addr) (c : Nat), m ≤ s.size ∧ Hid (m = 2 * k) ∧ i = .int .i64 m ∧ out = .slice A (unTo (bytesOf s) k).length c ∧ OwnS wr w.heap.size 5 1 (.slice A (unTo (bytesOf s) k).length c) (unTo (bytesOf s) k).length ((unTo (bytesOf s) k).map (Value.int .u8)) ∧ PairsTo (bytesOf s) k ∧ Below w.heap.size w wr) (fun _ i _ => s.size - (intOf i).toNat)
    case atStart => exact ⟨0, 0, _, _, by omega, rfl, rfl, rfl, hoE, fun j hj => absurd hj (Nat.not_lt_zero _), hBE⟩
    case round =>
      clear hoE hBE
      obtain ⟨k, m, A9, c9, hm9, hmk, rfl, rfl, ho, hP, hB⟩ := hrel
      by_cases hlt : m < s.size
      · have hlt2 : m + 1 < s.size := by have := hmk.out; have := HE.out; omega
        have e1 : (bytesOf s).getD (2 * k) 0 = ((s[m]'hlt).toNat : Int) := by rw [← hmk.out]; exact bytesOf_at s m hlt
        have e2 : (bytesOf s).getD (2 * k + 1) 0 = ((s[m + 1]'hlt2).toNat : Int) := by rw [← hmk.out]; exact bytesOf_at s (m + 1) hlt2
        have hl1 : 2 * k + 1 < (bytesOf s).length := by rw [bytesOf_len, ← hmk.out]; exact hlt2
        have ha := dig_ok ((bytesOf s).getD (2 * k) 0)
        have hb := dig_ok ((bytesOf s).getD (2 * k + 1) 0)
        have hB1 := (s[m]'hlt).toNat_lt
        have hB2 := (s[m + 1]'hlt2).toNat_lt
        have HN : Hid (unTo (bytesOf s) (k + 1) = unTo (bytesOf s) k ++ [(dig ((s[m]'hlt).toNat : Int)).getD 0 * 16 + (dig ((s[m + 1]'hlt2).toNat : Int)).getD 0]) := by
          show _ = _
          rw [unTo_succ, pairV, e1, e2]
        have hPO : pairOk (bytesOf s) k = ((dig ((s[m]'hlt).toNat : Int)).isSome && (dig ((s[m + 1]'hlt2).toNat : Int)).isSome) := by unfold pairOk; rw [e1, e2]
        have hlen : (unTo (bytesOf s) k).length ≤ 140737488355000 := by rw [unTo_len]; have := hmk.out; omega
        rw [e1] at ha
        rw [e2] at hb
        have hj := u8_join _ _ ha hb
        clear e1 e2
        by_cases hg : ((dig ((s[m]'hlt).toNat : Int)).isSome && (dig ((s[m + 1]'hlt2).toNat : Int)).isSome) = true
        · rw [hg] at hPO
          have HP := Lib.hid hPO
          clear hPO
          obtain ⟨hg1, hg2⟩ := Bool.and_eq_true_iff.1 hg
          clear hg
          obtain ⟨d1, d2, d3⟩ := digR_some hg1
          obtain ⟨d4, d5, d6⟩ := digR_some hg2
          have HN : Hid (unTo (bytesOf s) (k + 1) = unTo (bytesOf s) k ++ [16 * digR ((s[m]'hlt).toNat : Int) + digR ((s[m + 1]'hlt2).toNat : Int)]) := by
            show _ = _
            rw [HN.out, d1, d4, Int.mul_comm]
          clear d1 d4 hg1 hg2 hj ha hb
          go_wp2_with (first
            | (have hm := hdg; go_at_call 92; refine (digitR_any _ _).mono ?_; rintro e w' ⟨rfl, rfl⟩)
            | (go_at_call 92; refine (digitR_any _ _).mono ?_; rintro e w' ⟨rfl, rfl⟩; have hdg := trivial)
            | (at_builtin; refine wpList_append_S rfl (.tmp 34) (.tmp 40) 48 48 rfl i0 (.int .u8 0) 1 (.slice 5) Tryz.underlying48 Tryz.underlying48 (fun _ h => by cases h) hi hz0 hz1 hz2 rfl rfl rfl (ho.alloc _) (Src.one_new (u := .int .u8 (16 * digR ((s[m]'hlt).toNat : Int) + digR ((s[m + 1]'hlt2).toNat : Int))) rfl) ?_ ?_ ?_ ?_; (unfold maxLen; omega); omega; (have := hB.size; simp; omega); intro A2 c2 w2 ho2 hg2 hw2))
          go_roundw
          case rel =>
            have hB' := hB.size
            have hPO := HP.out
            refine ⟨k + 1, m + 2, A2, c2, by omega, by have := hmk.out; show _ = _; omega, by go_num, ?_, ?_, hP.succ hPO, ?_⟩
            · rw [HN.out, List.length_append]; first | done | rfl
            · rw [HN.out, List.length_append, List.map_append]; exact ho2
            · exact (hB.alloc (by omega) _).grown hg2 (by simp; omega) (fun q h => (ho.lt q h).1)
          case measure => simp [intOf]; omega
        · have hU : unOk (bytesOf s) = false := unOk_bad (bytesOf s) k hl1 (by rw [hPO]; simpa using hg)
          clear hPO
          rw [Bool.not_eq_true, Bool.and_eq_false_iff] at hg
          have HU := Lib.hid hU
          clear hU
          by_cases hg1 : (dig ((s[m]'hlt).toNat : Int)).isSome = true
          · have hg2 : (dig ((s[m + 1]'hlt2).toNat : Int)).isSome = false := by
              rcases hg with h | h
              · rw [hg1] at h; cases h
              · exact h
            clear hg
            obtain ⟨d1, d2, d3⟩ := digR_some hg1
            have d4 := digR_none hg2
            clear d1 hg1 hg2 hj ha hb HN
            go_wp2_with (first
              | (have hm := hdg; go_at_call 92; refine (digitR_any _ _).mono ?_; rintro e w' ⟨rfl, rfl⟩)
              | (go_at_call 92; refine (digitR_any _ _).mono ?_; rintro e w' ⟨rfl, rfl⟩; have hdg := trivial))
            go_ret2
            exact UnPost.bad HU.out hB
          · have hg1 : (dig ((s[m]'hlt).toNat : Int)).isSome = false := by simpa using hg1
            clear hg
            have d4 := digR_none hg1
            clear hg1 hj ha hb HN
            go_wp2_with (first
              | (have hm := hdg; go_at_call 92; refine (digitR_any _ _).mono ?_; rintro e w' ⟨rfl, rfl⟩)
              | (go_at_call 92; refine (digitR_any _ _).mono ?_; rintro e w' ⟨rfl, rfl⟩; have hdg := trivial))
            go_ret2
            exact UnPost.bad HU.out hB
      · have hms : m = s.size := by omega
        have hU : unOk (bytesOf s) = true := unOk_good _ (by rw [bytesOf_len]; have := HE.out; omega) (fun j hj => hP j (by rw [bytesOf_len] at hj; have := hmk.out; omega))
        have HU := Lib.hid hU
        have hkl : k = (bytesOf s).length / 2 := by rw [bytesOf_len]; have := hmk.out; omega
        have HK := Lib.hid hkl
        clear hU hms hkl
        go_wp2
        go_ret2
        exact UnPost.good HU.out HK.out ho.ints hB
end Go.Proofs.YtihanglnjghcfaaGreatDoor
namespace Go.Proofs.YtihanglnjghcfaaGreatDoor
open Go.RowKit
set_option linter.unusedVariables false

theorem wordAt_app (x y : List Int) (h : 64 ≤ x.length) (t : Nat) (ht : t < 16) : wordAt (x ++ y) t = wordAt x t := by
  have e : ∀ j, j < 64 → (x ++ y).getD j 0 = x.getD j 0 := fun j hj => by
    rw [List.getD_eq_getElem?_getD, List.getD_eq_getElem?_getD, List.getElem?_append_left (by omega)]
  unfold wordAt
  rw [e _ (by omega), e _ (by omega), e _ (by omega), e _ (by omega)]
theorem schedTo_app (x y : List Int) (h : 64 ≤ x.length) (t : Nat) : schedTo (x ++ y) t = schedTo x t := by
  induction t with
  | zero => rfl
  | succ t ih =>
    rw [schedTo, schedTo, ih]
    by_cases ht : t < 16
    · rw [if_pos ht, if_pos ht, wordAt_app x y h t ht]
    · rw [if_neg ht, if_neg ht]
theorem runH_app (x y : List Int) (h : 64 ≤ x.length) (s : H5) (t : Nat) : runH (x ++ y) s t = runH x s t := by
  induction t with
  | zero => rfl
  | succ t ih => rw [runH, runH, ih, stepH, stepH, schedTo_app x y h]
theorem mixH_app (x y : List Int) (h : 64 ≤ x.length) (s : H5) : mixH s (x ++ y) = mixH s x := by
  unfold mixH; rw [runH_app x y h]
theorem fb_app (n : Nat) : ∀ (s : H5) (x y : List Int), 64 * n ≤ x.length → fb n s (x ++ y) = fb n s x := by
  induction n with
  | zero => intro s x y h; rfl
  | succ n ih =>
    intro s x y h
    rw [fb, fb, mixH_app x y (by omega), List.drop_append_of_le_length (by omega), ih _ _ _ (by simp; omega)]
theorem fb_add (a b : Nat) : ∀ (s : H5) (r : List Int), fb (a + b) s r = fb b (fb a s r) (r.drop (64 * a)) := by
  induction a with
  | zero => intro s r; simp [fb]
  | succ a ih =>
    intro s r
    rw [show a + 1 + b = (a + b) + 1 by omega, fb, ih, fb, List.drop_drop]
    congr 2
    omega
theorem shaMsg_len (r : List Int) (n : Int) : (shaMsg r n).length = r.length + 1 + padN r.length + 8 := by
  unfold shaMsg
  rw [List.length_append, List.length_append, padTo_len]
  rfl
theorem shaMsg_split (xs ys : List Int) (n : Int) (h : padN (xs ++ ys).length = padN ys.length) : shaMsg (xs ++ ys) n = xs ++ shaMsg ys n := by
  unfold shaMsg padTo
  rw [h]
  simp
theorem shaAll_eq (xs : List Int) : shaAll xs = shaTo (fb ((shaMsg xs (xs.length : Int)).length / 64) h0 (shaMsg xs (xs.length : Int))) 5 := by
  have hq : 64 * (xs.length / 64) ≤ xs.length := by omega
  have hd : (xs.drop (64 * (xs.length / 64))).length = xs.length % 64 := by rw [List.length_drop]; omega
  have ht : (xs.take (64 * (xs.length / 64))).length = 64 * (xs.length / 64) := List.length_take_of_le hq
  have e : shaMsg xs (xs.length : Int) = xs.take (64 * (xs.length / 64)) ++ shaMsg (xs.drop (64 * (xs.length / 64))) (xs.length : Int) := by
    have := shaMsg_split (xs.take (64 * (xs.length / 64))) (xs.drop (64 * (xs.length / 64))) (xs.length : Int) (by rw [List.take_append_drop, hd]; unfold padN; omega)
    rwa [List.take_append_drop] at this
  unfold shaAll shaOut
  rw [Int.zero_add, ← shaMsg_len (xs.drop (64 * (xs.length / 64))) (xs.length : Int)]
  congr 1
  rw [e]
  generalize shaMsg (xs.drop (64 * (xs.length / 64))) (xs.length : Int) = Y
  have hn : (xs.take (64 * (xs.length / 64)) ++ Y).length / 64 = xs.length / 64 + Y.length / 64 := by rw [List.length_append, ht]; omega
  rw [hn, fb_add, List.drop_append_of_le_length (by omega), List.drop_of_length_le (by omega), List.nil_append, fb_app _ _ _ _ (by omega)]
  congr 1
  have := fb_app (xs.length / 64) h0 (xs.take (64 * (xs.length / 64))) (xs.drop (64 * (xs.length / 64))) (by omega)
  rw [List.take_append_drop] at this
  exact this

/-! ### The sum of no bytes, reckoned in stages -/
def emW : List Int := [2147483648, 0, 0, 0, 0, 0, 0, 0, 0, 0, 0, 0, 0, 0, 0, 0, 1, 0, 0, 2, 0, 0, 4, 0, 2, 8, 0, 0, 16, 0, 10, 32, 6, 0, 64, 8, 40, 128, 8, 0, 264, 0, 160, 512, 100, 0, 1032, 136, 668, 2048, 128, 40, 4232, 0, 2624, 8192, 1640, 128, 16520, 2176, 10440, 32768, 2216, 128, 67816, 0, 40960, 131200, 25600, 0, 264192, 34816, 171024, 524288, 32896, 10272, 1083584, 0, 671936, 2097280]
def emS : List (List Int) := [[1732584193, 4023233417, 2562383102, 271733878, 3285377520],
  [531929267, 1732584193, 2079550178, 2562383102, 271733878],
  [1564730224, 531929267, 1506887872, 2079550178, 2562383102],
  [361574242, 1564730224, 3354207788, 1506887872, 2079550178],
  [3454860125, 361574242, 391182556, 3354207788, 1506887872],
  [1230198366, 3454860125, 2237877208, 391182556, 3354207788],
  [3830101862, 1230198366, 1937456855, 2237877208, 391182556],
  [3231547175, 3830101862, 2455033239, 1937456855, 2237877208],
  [2265401344, 3231547175, 3105009113, 2455033239, 1937456855],
  [1094149649, 2265401344, 4029112265, 3105009113, 2455033239],
  [3420192561, 1094149649, 566350336, 4029112265, 3105009113],
  [1075210611, 3420192561, 1347279236, 566350336, 4029112265],
  [2915098826, 1075210611, 1928789964, 1347279236, 566350336],
  [2227199666, 2915098826, 3490028124, 1928789964, 1347279236],
  [353552569, 2227199666, 2876258354, 3490028124, 1928789964],
  [1075325189, 353552569, 2704283564, 2876258354, 3490028124],
  [3640485191, 1075325189, 1162129966, 2704283564, 2876258354],
  [113217907, 3640485191, 1342573121, 1162129966, 2704283564],
  [682185230, 113217907, 4131346769, 1342573121, 1162129966],
  [187730141, 682185230, 3249529948, 4131346769, 1342573121],
  [3881363674, 187730141, 2318029955, 3249529948, 4131346769],
  [2431359056, 3881363674, 1120674359, 2318029955, 3249529948],
  [2109438077, 2431359056, 3117824566, 1120674359, 2318029955],
  [476368936, 2109438077, 607839764, 3117824566, 1120674359],
  [513259322, 476368936, 1601101343, 607839764, 3117824566],
  [1658320191, 513259322, 119092234, 1601101343, 607839764],
  [888395480, 1658320191, 2275798478, 119092234, 1601101343],
  [1328468417, 888395480, 3635805519, 2275798478, 119092234],
  [3350273581, 1328468417, 222098870, 3635805519, 2275798478],
  [2269870191, 3350273581, 1405858928, 222098870, 3635805519],
  [3393541835, 2269870191, 1911310219, 1405858928, 222098870],
  [1781417582, 3393541835, 3788693019, 1911310219, 1405858928],
  [1659518297, 1781417582, 4069610930, 3788693019, 1911310219],
  [3078335525, 1659518297, 2592838043, 4069610930, 3788693019],
  [1259554786, 3078335525, 1488621398, 2592838043, 4069610930],
  [958329028, 1259554786, 1843325705, 1488621398, 2592838043],
  [2881141128, 958329028, 2462372344, 1843325705, 1488621398],
  [82867817, 2881141128, 239582257, 2462372344, 1843325705],
  [2986440843, 82867817, 720285282, 239582257, 2462372344],
  [1646736209, 2986440843, 1094458778, 720285282, 239582257],
  [2614877553, 1646736209, 3967835682, 1094458778, 720285282],
  [2510961035, 2614877553, 1485425876, 3967835682, 1094458778],
  [1579739224, 2510961035, 1727461212, 1485425876, 3967835682],
  [2506368133, 1579739224, 3848965730, 1727461212, 1485425876],
  [4204071610, 2506368133, 394934806, 3848965730, 1727461212],
  [3726522881, 4204071610, 1700333857, 394934806, 3848965730],
  [2951124395, 3726522881, 3198501550, 1700333857, 394934806],
  [2710944400, 2951124395, 2005372544, 3198501550, 1700333857],
  [3872628547, 2710944400, 3959006570, 2005372544, 3198501550],
  [197826850, 3872628547, 677736100, 3959006570, 2005372544],
  [1793599231, 197826850, 4189382608, 677736100, 3959006570],
  [33501779, 1793599231, 2196940360, 4189382608, 677736100],
  [3797425376, 33501779, 3669625279, 2196940360, 4189382608],
  [1456370603, 3797425376, 3229600916, 3669625279, 2196940360],
  [2924930370, 1456370603, 949356344, 3229600916, 3669625279],
  [2240856296, 2924930370, 3585318122, 949356344, 3229600916],
  [3192540138, 2240856296, 2878716240, 3585318122, 949356344],
  [378331323, 3192540138, 560214074, 2878716240, 3585318122],
  [3786386210, 378331323, 2945618682, 560214074, 2878716240],
  [2553007050, 3786386210, 3315808302, 2945618682, 560214074],
  [2610768147, 2553007050, 3094080200, 3315808302, 2945618682],
  [3548231991, 2610768147, 2785735410, 3094080200, 3315808302],
  [2243547687, 3548231991, 3873917508, 2785735410, 3094080200],
  [3449355191, 2243547687, 4108283469, 3873917508, 2785735410],
  [3138331247, 3449355191, 3782112393, 4108283469, 3873917508],
  [3948495980, 3138331247, 4083564269, 3782112393, 4108283469],
  [3547473355, 3948495980, 4005808283, 4083564269, 3782112393],
  [286474739, 3547473355, 987123995, 4005808283, 4083564269],
  [3885693936, 286474739, 4108093810, 987123995, 4005808283],
  [2342520359, 3885693936, 3292844156, 4108093810, 987123995],
  [1346140896, 2342520359, 971423484, 3292844156, 4108093810],
  [1020598265, 1346140896, 3806855561, 971423484, 3292844156],
  [3028147982, 1020598265, 336535224, 3806855561, 971423484],
  [1580861312, 3028147982, 1328891390, 336535224, 3806855561],
  [1675311026, 1580861312, 2904520643, 1328891390, 336535224],
  [367627543, 1675311026, 395215328, 2904520643, 1328891390],
  [2954138727, 367627543, 2566311404, 395215328, 2904520643],
  [347541610, 2954138727, 3313132357, 2566311404, 395215328],
  [1718324166, 347541610, 3959760153, 3313132357, 2566311404],
  [1855823748, 1718324166, 2234369050, 3959760153, 3313132357],
  [1928626413, 1855823748, 2577064689, 2234369050, 3959760153]]
def emM : List Int := 128 :: List.replicate 63 0
def h5L (s : H5) : List Int := [s.a, s.b, s.c, s.d, s.e]
def h5of (l : List Int) : H5 := ⟨l.getD 0 0, l.getD 1 0, l.getD 2 0, l.getD 3 0, l.getD 4 0⟩
theorem h5of_L (s : H5) : h5of (h5L s) = s := rfl
def stepW (v : Int) (t : Nat) (s : H5) : H5 := ⟨(rotN 5 s.a + fT t s.b s.c s.d + s.e + kT t + v) % 4294967296, s.a, rotN 30 s.b, s.c, s.d⟩
def okW (t : Nat) : Bool := emW.getD t 0 == if t < 16 then wordAt emM t else nextW emW t
def okS (t : Nat) : Bool := emS.getD (t + 1) [] == h5L (stepW (emW.getD t 0) t (h5of (emS.getD t [])))
theorem okW_all : (List.range 80).all okW = true := by decide +kernel
theorem okS_all : (List.range 80).all okS = true := by decide +kernel
theorem emW_len : emW.length = 80 := by decide
theorem em_sched (t : Nat) (h : t ≤ 80) : schedTo emM t = emW.take t := by
  induction t with
  | zero => rfl
  | succ t ih =>
    have hk := List.all_eq_true.1 okW_all t (List.mem_range.2 (by omega))
    have hk := eq_of_beq hk
    rw [schedTo, ih (by omega), List.take_succ_eq_append_getElem (by rw [emW_len]; omega)]
    congr 2
    rw [List.getD_eq_getElem?_getD, List.getElem?_eq_getElem (by rw [emW_len]; omega), Option.getD_some] at hk
    rw [hk]
    by_cases h16 : t < 16
    · rw [if_pos h16, if_pos h16]
    · rw [if_neg h16, if_neg h16]
      have e : ∀ j, j < t → (emW.take t).getD j 0 = emW.getD j 0 := fun j hj => by
        rw [List.getD_eq_getElem?_getD, List.getD_eq_getElem?_getD, List.getElem?_take_of_lt hj]
      unfold nextW
      rw [e _ (by omega), e _ (by omega), e _ (by omega), e _ (by omega)]
theorem em_run (t : Nat) (h : t ≤ 80) : runH emM h0 t = h5of (emS.getD t []) := by
  induction t with
  | zero => rfl
  | succ t ih =>
    have hk := List.all_eq_true.1 okS_all t (List.mem_range.2 (by omega))
    have hk := eq_of_beq hk
    rw [hk, h5of_L, runH, ih (by omega)]
    unfold stepH stepW
    rw [em_sched 80 (Nat.le_refl _), List.take_of_length_le (Nat.le_of_eq emW_len)]
theorem em_mix : mixH h0 emM = ⟨3661210606, 1584089869, 844480495, 2506102928, 2950170377⟩ := by
  unfold mixH
  rw [em_run 80 (Nat.le_refl _)]
  have e : ∀ a b c d e a' b' c' d' e' : Int, a = a' → b = b' → c = c' → d = d' → e = e' → H5.mk a b c d e = H5.mk a' b' c' d' e' := by
    intro a b c d e a' b' c' d' e' h1 h2 h3 h4 h5; rw [h1, h2, h3, h4, h5]
  exact e _ _ _ _ _ _ _ _ _ _ (by decide +kernel) (by decide +kernel) (by decide +kernel) (by decide +kernel) (by decide +kernel)
theorem em_msg : shaMsg [] 0 = emM := by decide +kernel
theorem sha_empty : shaAll [] = [218, 57, 163, 238, 94, 107, 75, 13, 50, 85, 191, 239, 149, 96, 24, 144, 175, 216, 7, 9] := by
  rw [shaAll_eq]
  show shaTo (fb ((shaMsg [] 0).length / 64) h0 (shaMsg [] 0)) 5 = _
  rw [em_msg, show emM.length / 64 = 1 from by decide]
  show shaTo (mixH h0 emM) 5 = _
  rw [em_mix]
  decide +kernel
theorem crc_nine : (crcTo 4294967295 [49, 50, 51, 52, 53, 54, 55, 56, 57] : Nat) = 873187033 := by decide +kernel
theorem ad_nine : adTo (1, 0) [87, 105, 107, 105, 112, 101, 100, 105, 97] = (920, 4582) := by decide +kernel
theorem hex_empty : hexL [218, 57, 163, 238, 94, 107, 75, 13, 50, 85, 191, 239, 149, 96, 24, 144, 175, 216, 7, 9] = [100, 97, 51, 57, 97, 51, 101, 101, 53, 101, 54, 98, 52, 98, 48, 100, 51, 50, 53, 53, 98, 102, 101, 102, 57, 53, 54, 48, 49, 56, 57, 48, 97, 102, 100, 56, 48, 55, 48, 57] := by decide +kernel
end Go.Proofs.YtihanglnjghcfaaGreatDoor
