/- huff.Codes and the document's Codes: both give the codes 'codesL' of any lengths, or the same refusal. -/
import Derived.Test.YtoeipgbnjcgbjaaHuffCount
namespace Go.Proofs.Ytoeipgbnjcgbjaa
open Go.RowKit

/-- One symbol of one round. -/
def inStep (l : Int) (st : List Int × Int) (i : Nat) (x : Int) : List Int × Int := if x = l then (st.1.set i st.2, (st.2 + 1) % 4294967296) else st
/-- The first k symbols of a round. -/
def inn (l : Int) (xs : List Int) (st : List Int × Int) : Nat → List Int × Int
  | 0 => st
  | k + 1 => inStep l (inn l xs st k) k (xs.getD k 0)
def sh1 (n : Int) : Int := n * 2 % 4294967296
/-- The first l rounds. -/
def outr (xs : List Int) : Nat → List Int × Int
  | 0 => (List.replicate xs.length 0, 0)
  | l + 1 => inn ((l : Int) + 1) xs ((outr xs l).1, sh1 (outr xs l).2) xs.length
def codesL (xs : List Int) : List Int := (outr xs 15).1

theorem inStep_len (l : Int) (st : List Int × Int) (i : Nat) (x : Int) : (inStep l st i x).1.length = st.1.length := by
  unfold inStep; split <;> simp
theorem inn_len (l : Int) (xs : List Int) (st : List Int × Int) (k : Nat) : (inn l xs st k).1.length = st.1.length := by
  induction k with
  | zero => rfl
  | succ k ih => rw [inn, inStep_len, ih]
theorem outr_len (xs : List Int) (l : Nat) : (outr xs l).1.length = xs.length := by
  induction l with
  | zero => simp [outr]
  | succ l ih => rw [outr, inn_len]; exact ih
theorem codesL_len (xs : List Int) : (codesL xs).length = xs.length := outr_len xs 15

theorem Try.info_u32 : (Try.prog.info? 43).map (fun i => (i.zero, i.size, i.bytes)) = some (some (.int .u32 0), 1, 4) := by kernel_rfl

theorem codes_bad (A : Option Addr) (c : Nat) (xs : List Int) (w : World) (h : Ints .i64 w A xs) (hn : xs.length ≤ 140737488351232) (hb : cntB xs = false ∨ 400 < xs.length) :
    Calls Try.prog 120 #[.slice A xs.length c] w fun e w' => e = .returned (.tuple #[.slice none 0 0, .int .i64 1]) ∧ w = w' := by
  by_cases hcb : cntB xs = false
  · go_enter Try.func120, Try.ntmps120
    go_wp2_with (go_at_call 128; refine (count_any A c xs w h hn).mono ?_; rintro e w' ⟨rfl, rfl⟩)
    go_ret2
    exact ⟨rfl, rfl⟩
  · have hlen : (400 : Int) < xs.length := by rcases hb with h' | h'; exact absurd h' hcb; omega
    have hcb' : cntB xs = true := by simpa using hcb
    clear hcb hb
    go_enter Try.func120, Try.ntmps120
    go_wp2_with (go_at_call 128; refine (count_any A c xs w h hn).mono ?_; rintro e w' ⟨rfl, rfl⟩)
    go_ret2
    exact ⟨rfl, rfl⟩

set_option maxRecDepth 100000 in
theorem codes_form (A : Option Addr) (c : Nat) (xs : List Int) (w : World) (h : Ints .i64 w A xs) (hb : cntB xs = true) (hn : xs.length ≤ 400) (hc : 32768 < cntN xs) :
    Calls Try.prog 120 #[.slice A xs.length c] w fun e w' => e = .returned (.tuple #[.slice none 0 0, .int .i64 3]) ∧ w = w' := by
  have hlen : ¬ (400 : Int) < xs.length := by omega
  have hd : decide ((400 : Int) < xs.length) = false := by simpa using hlen
  clear hlen
  go_enter Try.func120, Try.ntmps120
  go_wp2_with (go_at_call 128; refine (count_any A c xs w h (by omega)).mono ?_; rintro e w' ⟨rfl, rfl⟩)
  go_ret2
  exact ⟨rfl, rfl⟩

/-- What the loops own: the codes so far, in the one new block. -/
def Row32 (B : Nat) (w : World) (n : Nat) (l : List Int) : Prop := RowI 43 .u32 B w B n n l

set_option maxRecDepth 100000 in
set_option maxHeartbeats 1000000 in
theorem codes_ok (A : Option Addr) (c : Nat) (xs : List Int) (w : World) (h : Ints .i64 w A xs) (hb : cntB xs = true) (hn : xs.length ≤ 400) (hc : cntN xs ≤ 32768) :
    Calls Try.prog 120 #[.slice A xs.length c] w fun e w' => e = .returned (.tuple #[.slice (some ⟨w.heap.size, 0, none⟩) xs.length xs.length, .int .i64 0]) ∧ Row32 w.heap.size w' xs.length (codesL xs) ∧ Below w.heap.size w w' := by
  have hlen : ¬ (400 : Int) < xs.length := by omega
  have hd : decide ((400 : Int) < xs.length) = false := by simpa using hlen
  have hd2 : decide ((32768 : Int) < cntN xs) = false := by simpa using hc
  clear hlen
  obtain ⟨i0, hi, hz0, hz1, hz2⟩ := info_parts Try.info_u32
  go_enter Try.func120, Try.ntmps120
  go_wp2_with (first
    | (go_at_call 128; refine (count_any A c xs w h (by omega)).mono ?_; rintro e w' ⟨rfl, rfl⟩)
    | (refine wpList_make_full _ rfl _ _ 128 rfl w.heap.size 43 i0 (.int .u32 0) 1 Try.underlying128 hi hz0 hz1 .i64 .i64 _ _ xs.length rfl rfl rfl rfl (by rw [hz2]; omega) (by unfold maxLen; omega) (Nat.le_refl _) ?_; intro w1 hown hgrow))
  have hrow : Row32 w.heap.size w1 xs.length (outr xs 0).1 := by
    have e : (Value.int IntKind.u32 0).cells = #[.int .u32 0] := rfl
    rw [e, toList_madeCells_one] at hown
    simpa [Row32, RowI, outr] using hown
  have hbel : Below w.heap.size w w1 := (Below.refl _ _).grown hgrow (Nat.le_refl _) (by simp)
  clear hown hgrow hi hz0 hz1 hz2
  go_loopw [7, 8] (fun nx l wr => ∃ k : Nat, k ≤ 15 ∧ l = .int .i64 ((k : Int) + 1) ∧ nx = .int .u32 (outr xs k).2 ∧ Row32 w.heap.size wr xs.length (outr xs k).1 ∧ Below w.heap.size w wr) (fun _ l _ => 16 - (intOf l).toNat)
  case atStart => exact ⟨0, by omega, rfl, rfl, hrow, hbel⟩
  case round =>
    clear hrow hbel
    obtain ⟨k, hk, rfl, rfl, hrow, hbel⟩ := hrel
    by_cases hlt : k < 15
    · go_wp2
      obtain ⟨wo, rfl⟩ : ∃ wo : World, wo = wr := ⟨_, rfl⟩
      go_loopw [7, 38] (fun nx i wr => ∃ j : Nat, j ≤ xs.length ∧ i = .int .i64 j ∧ nx = .int .u32 (inn ((k : Int) + 1) xs ((outr xs k).1, sh1 (outr xs k).2) j).2 ∧ Row32 w.heap.size wr xs.length (inn ((k : Int) + 1) xs ((outr xs k).1, sh1 (outr xs k).2) j).1 ∧ Below w.heap.size w wr) (fun _ i _ => xs.length - (intOf i).toNat)
      case atStart => exact ⟨0, by omega, rfl, rfl, hrow, hbel⟩
      case round =>
        clear hrow hbel
        obtain ⟨j, hj, rfl, rfl, hrow, hbel⟩ := hrel
        by_cases hlj : j < xs.length
        · obtain ⟨b, o, rfl, hbs, hcell⟩ := h (by omega)
          have hck := (hbel.cell (p := ⟨b, o + j, none⟩) hbs).trans (hcell j hlj)
          clear hcell h
          generalize hx : xs.getD j 0 = x at hck
          have HX : Hid (xs.getD j 0 = x) := hx
          clear hx
          generalize hst : inn ((k : Int) + 1) xs ((outr xs k).1, sh1 (outr xs k).2) j = st at *
          have HST : Hid (inn ((k : Int) + 1) xs ((outr xs k).1, sh1 (outr xs k).2) j = st) := hst
          clear hst
          by_cases hxe : x = (k : Int) + 1
          · subst hxe
            obtain ⟨v0, hco⟩ := RowI.someCell hrow hlj
            have hcf := RowI.frozen hrow j
            go_wp2
            go_roundw
            case rel =>
              have e : inn ((k : Int) + 1) xs ((outr xs k).1, sh1 (outr xs k).2) (j + 1) = (st.1.set j st.2, (st.2 + 1) % 4294967296) := by
                rw [inn, HST.out, HX.out, inStep, if_pos rfl]
              exact ⟨j + 1, by omega, by go_num, by rw [e], by rw [e]; exact RowI.set hrow j st.2, hbel.setCell (Nat.le_refl _) _⟩
            case measure => simp [intOf]; omega
          · go_wp2
            go_roundw
            case rel =>
              have e : inn ((k : Int) + 1) xs ((outr xs k).1, sh1 (outr xs k).2) (j + 1) = st := by
                rw [inn, HST.out, HX.out, inStep, if_neg hxe]
              exact ⟨j + 1, by omega, by go_num, by rw [e], by rw [e]; exact hrow, hbel⟩
            case measure => simp [intOf]; omega
        · go_wp2
          go_roundw
          case rel =>
            obtain rfl : j = xs.length := by omega
            exact ⟨k + 1, by omega, by go_num, rfl, hrow, hbel⟩
          case measure => simp [intOf]; omega
    · go_wp2
      go_ret2
      have e : k = 15 := by omega
      subst e
      exact ⟨rfl, hrow, hbel⟩

theorem cntW_good (xs : List Int) (hb : cntB xs = true) : cntW xs = costs xs := by unfold cntW; rw [show xs.all okLen = true from hb]; rfl
theorem cntW_N (xs : List Int) (hb : cntB xs = true) : cntW xs = cntN xs := by unfold cntW cntN; rw [show xs.all okLen = true from hb]; rfl
theorem cntW_bad (xs : List Int) (hb : cntB xs = false) : cntW xs = -1 := by unfold cntW; rw [show xs.all okLen = false from hb]; rfl

set_option maxRecDepth 100000 in
theorem codesR_bad (A : Option Addr) (c : Nat) (xs : List Int) (w : World) (h : Ints .i64 w A xs) (hn : xs.length ≤ 140737488351232) (hb : cntB xs = false ∨ 400 < xs.length) :
    Calls Try.prog 124 #[.slice A xs.length c] w fun e w' => e = .returned (.tuple #[.slice none 0 0, .int .i64 1]) ∧ w = w' := by
  by_cases hlen : (400 : Int) < xs.length
  · clear hb
    go_enter Try.func124, Try.ntmps124
    go_wp2_with (go_at_call 115; refine (weight_any A c xs w h hn).mono ?_; rintro e w' ⟨rfl, rfl⟩)
    go_ret2
    exact ⟨rfl, rfl⟩
  · have hcb : cntB xs = false := by rcases hb with h' | h'; exact h'; omega
    have hd : decide ((400 : Int) < xs.length) = false := by simpa using hlen
    have hw0 : cntW xs < 0 := by rw [cntW_bad xs hcb]; decide
    clear hlen hb hcb
    go_enter Try.func124, Try.ntmps124
    go_wp2_with (go_at_call 115; refine (weight_any A c xs w h hn).mono ?_; rintro e w' ⟨rfl, rfl⟩)
    go_ret2
    exact ⟨rfl, rfl⟩

set_option maxRecDepth 100000 in
theorem codesR_form (A : Option Addr) (c : Nat) (xs : List Int) (w : World) (h : Ints .i64 w A xs) (hb : cntB xs = true) (hn : xs.length ≤ 400) (hc : 32768 < cntN xs) :
    Calls Try.prog 124 #[.slice A xs.length c] w fun e w' => e = .returned (.tuple #[.slice none 0 0, .int .i64 3]) ∧ w = w' := by
  have hlen : ¬ (400 : Int) < xs.length := by omega
  have hd : decide ((400 : Int) < xs.length) = false := by simpa using hlen
  have hw0 : 0 ≤ cntW xs := by rw [cntW_good xs hb]; exact (costs_le xs).1
  have hw1 : 32768 < cntW xs := by rw [cntW_N xs hb]; exact hc
  clear hlen
  go_enter Try.func124, Try.ntmps124
  go_wp2_with (go_at_call 115; refine (weight_any A c xs w h (by omega)).mono ?_; rintro e w' ⟨rfl, rfl⟩)
  go_ret2
  exact ⟨rfl, rfl⟩

set_option maxRecDepth 100000 in
set_option maxHeartbeats 1000000 in
theorem codesR_ok (A : Option Addr) (c : Nat) (xs : List Int) (w : World) (h : Ints .i64 w A xs) (hb : cntB xs = true) (hn : xs.length ≤ 400) (hc : cntN xs ≤ 32768) :
    Calls Try.prog 124 #[.slice A xs.length c] w fun e w' => e = .returned (.tuple #[.slice (some ⟨w.heap.size, 0, none⟩) xs.length xs.length, .int .i64 0]) ∧ Row32 w.heap.size w' xs.length (codesL xs) ∧ Below w.heap.size w w' := by
  have hlen : ¬ (400 : Int) < xs.length := by omega
  have hd : decide ((400 : Int) < xs.length) = false := by simpa using hlen
  have hw0 : 0 ≤ cntW xs := by rw [cntW_good xs hb]; exact (costs_le xs).1
  have hd2 : decide ((32768 : Int) < cntW xs) = false := by rw [cntW_N xs hb]; simpa using hc
  clear hlen
  obtain ⟨i0, hi, hz0, hz1, hz2⟩ := info_parts Try.info_u32
  go_enter Try.func124, Try.ntmps124
  go_wp2_with (first
    | (go_at_call 115; refine (weight_any A c xs w h (by omega)).mono ?_; rintro e w' ⟨rfl, rfl⟩)
    | (refine wpList_make_full _ rfl _ _ 128 rfl w.heap.size 43 i0 (.int .u32 0) 1 Try.underlying128 hi hz0 hz1 .i64 .i64 _ _ xs.length rfl rfl rfl rfl (by rw [hz2]; omega) (by unfold maxLen; omega) (Nat.le_refl _) ?_; intro w1 hown hgrow))
  have hrow : Row32 w.heap.size w1 xs.length (outr xs 0).1 := by
    have e : (Value.int IntKind.u32 0).cells = #[.int .u32 0] := rfl
    rw [e, toList_madeCells_one] at hown
    simpa [Row32, RowI, outr] using hown
  have hbel : Below w.heap.size w w1 := (Below.refl _ _).grown hgrow (Nat.le_refl _) (by simp)
  clear hown hgrow hi hz0 hz1 hz2
  go_loopw [5, 6] (fun nx l wr => ∃ k : Nat, k ≤ 15 ∧ l = .int .i64 ((k : Int) + 1) ∧ nx = .int .u32 (outr xs k).2 ∧ Row32 w.heap.size wr xs.length (outr xs k).1 ∧ Below w.heap.size w wr) (fun _ l _ => 16 - (intOf l).toNat)
  case atStart => exact ⟨0, by omega, rfl, rfl, hrow, hbel⟩
  case round =>
    clear hrow hbel
    obtain ⟨k, hk, rfl, rfl, hrow, hbel⟩ := hrel
    by_cases hlt : k < 15
    · go_wp2
      obtain ⟨wo, rfl⟩ : ∃ wo : World, wo = wr := ⟨_, rfl⟩
      go_loopw [5, 7] (fun nx i wr => ∃ j : Nat, j ≤ xs.length ∧ i = .int .i64 j ∧ nx = .int .u32 (inn ((k : Int) + 1) xs ((outr xs k).1, sh1 (outr xs k).2) j).2 ∧ Row32 w.heap.size wr xs.length (inn ((k : Int) + 1) xs ((outr xs k).1, sh1 (outr xs k).2) j).1 ∧ Below w.heap.size w wr) (fun _ i _ => xs.length - (intOf i).toNat)
      case atStart => exact ⟨0, by omega, rfl, rfl, hrow, hbel⟩
      case round =>
        clear hrow hbel
        obtain ⟨j, hj, rfl, rfl, hrow, hbel⟩ := hrel
        by_cases hlj : j < xs.length
        · obtain ⟨b, o, rfl, hbs, hcell⟩ := h (by omega)
          have hck := (hbel.cell (p := ⟨b, o + j, none⟩) hbs).trans (hcell j hlj)
          clear hcell h
          generalize hx : xs.getD j 0 = x at hck
          have HX : Hid (xs.getD j 0 = x) := hx
          clear hx
          generalize hst : inn ((k : Int) + 1) xs ((outr xs k).1, sh1 (outr xs k).2) j = st at *
          have HST : Hid (inn ((k : Int) + 1) xs ((outr xs k).1, sh1 (outr xs k).2) j = st) := hst
          clear hst
          by_cases hxe : x = (k : Int) + 1
          · subst hxe
            obtain ⟨v0, hco⟩ := RowI.someCell hrow hlj
            have hcf := RowI.frozen hrow j
            go_wp2
            go_roundw
            case rel =>
              have e : inn ((k : Int) + 1) xs ((outr xs k).1, sh1 (outr xs k).2) (j + 1) = (st.1.set j st.2, (st.2 + 1) % 4294967296) := by
                rw [inn, HST.out, HX.out, inStep, if_pos rfl]
              exact ⟨j + 1, by omega, by go_num, by rw [e], by rw [e]; exact RowI.set hrow j st.2, hbel.setCell (Nat.le_refl _) _⟩
            case measure => simp [intOf]; omega
          · go_wp2
            go_roundw
            case rel =>
              have e : inn ((k : Int) + 1) xs ((outr xs k).1, sh1 (outr xs k).2) (j + 1) = st := by
                rw [inn, HST.out, HX.out, inStep, if_neg hxe]
              exact ⟨j + 1, by omega, by go_num, by rw [e], by rw [e]; exact hrow, hbel⟩
            case measure => simp [intOf]; omega
        · go_wp2
          go_roundw
          case rel =>
            obtain rfl : j = xs.length := by omega
            exact ⟨k + 1, by omega, by go_num, rfl, hrow, hbel⟩
          case measure => simp [intOf]; omega
    · go_wp2
      go_ret2
      have e : k = 15 := by omega
      subst e
      exact ⟨rfl, hrow, hbel⟩
end Go.Proofs.Ytoeipgbnjcgbjaa
