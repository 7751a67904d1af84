/- Inflate: a block of the fixed codes, by the program. -/
import Derived.Test.YtoeipgbnjcgbjaaInfF
namespace Go.Proofs.Ytoeipgbnjcgbjaa
open Go.RowKit
set_option linter.unusedVariables false

/-- The first k lengths laid. -/
def partL (xs : List Int) (k : Nat) : List Int := xs.take k ++ List.replicate (xs.length - k) 0
theorem partL_zero (xs : List Int) : partL xs 0 = List.replicate xs.length 0 := by simp [partL]
theorem partL_all (xs : List Int) : partL xs xs.length = xs := by simp [partL]
theorem partL_step (xs : List Int) (k : Nat) (h : k < xs.length) : (partL xs k).set k (xs.getD k 0) = partL xs (k + 1) := by
  unfold partL
  rw [take_snoc_getD xs k h, show xs.length - k = (xs.length - (k + 1)) + 1 by omega, List.replicate_succ, List.set_append]
  simp [List.length_take, Nat.min_eq_left (Nat.le_of_lt h)]
theorem fixLit_at (k : Nat) (h : k < 288) : fixLit.getD k 0 = if k < 144 then 8 else if k < 256 then 9 else if k < 280 then 7 else 8 := by
  have e : ((List.range 288).all fun k => decide (fixLit.getD k 0 = if k < 144 then 8 else if k < 256 then 9 else if k < 280 then 7 else 8)) = true := by kernel_rfl
  have := List.all_eq_true.1 e k (List.mem_range.2 h)
  exact of_decide_eq_true this
theorem fixDist_at (k : Nat) (h : k < 32) : fixDist.getD k 0 = 5 := by
  have e : ((List.range 32).all fun k => decide (fixDist.getD k 0 = 5)) = true := by kernel_rfl
  have := List.all_eq_true.1 e k (List.mem_range.2 h)
  exact of_decide_eq_true this
theorem fixLit_len : fixLit.length = 288 := by kernel_rfl
theorem fixDist_len : fixDist.length = 32 := by kernel_rfl
theorem fixLit_ok : cntB fixLit = true ∧ costs fixLit ≤ 32768 := by
  have h1 : costs fixLit = 32768 := by kernel_rfl
  have h2 : cntB fixLit = true := by kernel_rfl
  exact ⟨h2, by omega⟩
theorem fixDist_ok : cntB fixDist = true ∧ costs fixDist ≤ 32768 := by
  have h1 : costs fixDist = 32768 := by kernel_rfl
  have h2 : cntB fixDist = true := by kernel_rfl
  exact ⟨h2, by omega⟩
/-- A block read in a world behind some made memory. -/
theorem BlkPost.back {L R G most p : Nat} {bs out : List Int} {w w1 w' : World} {vo : Value} {r : Int × Nat × List Int} {e : Ending} (h : BlkPost L R G bs most vo r w1 e w') (hI : InfAt L R G bs most w p vo out) (hb : Below w.heap.size w w1) : BlkPost L R G bs most vo r w e w' := by
  obtain ⟨h1, h2, h3⟩ := h
  have hL : L ≤ w.heap.size := by have := hI.low; have := hI.cel.blk; omega
  refine ⟨h1, (hb.mono hL).trans h2, fun h0 => ?_⟩
  obtain ⟨vo', hI', hC', hF'⟩ := h3 h0
  exact ⟨vo', hI', (Chg.of_below hb).trans hC' (fun _ _ h => h), FreshI.trans (FreshI.refl w vo) hF' hb.size⟩
set_option maxRecDepth 100000 in
set_option maxHeartbeats 8000000 in
theorem iFixed_any (L R G most p F : Nat) (bs out : List Int) (w : World) (vo : Value) (h : InfAt L R G bs most w p vo out) (hF : most < F) :
    Calls Try.prog 90 #[.pointer (some ⟨R, 0, none⟩)] w (BlkPost L R G bs most vo (codedM bs most fixLit fixDist F p out) w) := by
  have HH := Lib.hid h
  obtain ⟨i0, hi, hz0, hz1, hz2⟩ := info_parts Try.info_int
  have hi2 := hi
  have hz20 := hz0
  have hz21 := hz1
  have hz22 := hz2
  clear h
  go_enter Try.func90, Try.ntmps90
  go_wp2_with (refine wpList_make_full _ rfl _ _ 121 rfl w.heap.size 3 i0 (.int .i64 0) 1 Try.underlying121 hi hz0 hz1 .i64 .i64 _ _ 288 rfl rfl rfl rfl (by rw [hz2]; omega) (by unfold maxLen; omega) (Nat.le_refl _) ?_; intro w1 hown hgrow)
  have hrow : RowI 3 .i64 w.heap.size w1 w.heap.size 288 288 (partL fixLit 0) := by
    have e : (Value.int IntKind.i64 0).cells = #[.int .i64 0] := rfl
    rw [e, toList_madeCells_one] at hown
    rw [partL_zero, fixLit_len]
    simpa [RowI] using hown
  have hbel : Below w.heap.size w w1 := (Below.refl _ _).grown hgrow (Nat.le_refl _) (by simp)
  clear hown hgrow
  go_loopw [14] (fun i wr => ∃ k : Nat, i = .int .i64 k ∧ k ≤ 288 ∧ RowI 3 .i64 w.heap.size wr w.heap.size 288 288 (partL fixLit k) ∧ Below w.heap.size w wr) (fun i _ => 288 - (intOf i).toNat)
  case atStart => exact ⟨0, rfl, by omega, hrow, hbel⟩
  case round =>
    clear hrow hbel
    obtain ⟨k, rfl, hk, hrow, hbel⟩ := hrel
    by_cases hlt : k < 288
    · obtain ⟨v0, hco⟩ := RowI.someCell hrow hlt
      have hcf := RowI.frozen hrow k
      have d0 : decide ((k : Int) < 288) = true := decide_eq_true (by omega)
      by_cases c1 : k < 144
      · have d1 : decide ((k : Int) < 144) = true := decide_eq_true (by omega)
        have e5 : fixLit.getD k 0 = 8 := by rw [fixLit_at k hlt]; simp only [if_pos c1]
        go_wp2
        go_roundw
        case rel => exact ⟨k + 1, by go_num, by omega, by rw [← partL_step fixLit k (by rw [fixLit_len]; exact hlt), e5]; exact RowI.set hrow k _, hbel.setCell (Nat.le_refl _) _⟩
        case measure => simp [intOf]; omega
      · have d1 : decide ((k : Int) < 144) = false := decide_eq_false (by omega)
        by_cases c2 : k < 256
        · have d2 : decide ((k : Int) < 256) = true := decide_eq_true (by omega)
          have e5 : fixLit.getD k 0 = 9 := by rw [fixLit_at k hlt]; simp only [if_neg c1, if_pos c2]
          go_wp2
          go_roundw
          case rel => exact ⟨k + 1, by go_num, by omega, by rw [← partL_step fixLit k (by rw [fixLit_len]; exact hlt), e5]; exact RowI.set hrow k _, hbel.setCell (Nat.le_refl _) _⟩
          case measure => simp [intOf]; omega
        · have d2 : decide ((k : Int) < 256) = false := decide_eq_false (by omega)
          by_cases c3 : k < 280
          · have d3 : decide ((k : Int) < 280) = true := decide_eq_true (by omega)
            have e5 : fixLit.getD k 0 = 7 := by rw [fixLit_at k hlt]; simp only [if_neg c1, if_neg c2, if_pos c3]
            go_wp2
            go_roundw
            case rel => exact ⟨k + 1, by go_num, by omega, by rw [← partL_step fixLit k (by rw [fixLit_len]; exact hlt), e5]; exact RowI.set hrow k _, hbel.setCell (Nat.le_refl _) _⟩
            case measure => simp [intOf]; omega
          · have d3 : decide ((k : Int) < 280) = false := decide_eq_false (by omega)
            have e5 : fixLit.getD k 0 = 8 := by rw [fixLit_at k hlt]; simp only [if_neg c1, if_neg c2, if_neg c3]
            go_wp2
            go_roundw
            case rel => exact ⟨k + 1, by go_num, by omega, by rw [← partL_step fixLit k (by rw [fixLit_len]; exact hlt), e5]; exact RowI.set hrow k _, hbel.setCell (Nat.le_refl _) _⟩
            case measure => simp [intOf]; omega
    · obtain rfl : k = 288 := by omega
      have hrow2 : RowI 3 .i64 w.heap.size wr w.heap.size 288 288 fixLit := by
        have := hrow
        rwa [show (288 : Nat) = fixLit.length from fixLit_len.symm, partL_all, fixLit_len] at this
      clear hrow hk hlt
      generalize hwb : wr = wb at *
      clear hwb
      go_wp2_with (refine wpList_make_full _ rfl _ _ 121 rfl wb.heap.size 3 i0 (.int .i64 0) 1 Try.underlying121 hi2 hz20 hz21 .i64 .i64 _ _ 32 rfl rfl rfl rfl (by rw [hz22]; omega) (by unfold maxLen; omega) (Nat.le_refl _) ?_; intro w2 hown hgrow)
      have hrow : RowI 3 .i64 wb.heap.size w2 wb.heap.size 32 32 (partL fixDist 0) := by
        have e : (Value.int IntKind.i64 0).cells = #[.int .i64 0] := rfl
        rw [e, toList_madeCells_one] at hown
        rw [partL_zero, fixDist_len]
        simpa [RowI] using hown
      have hbel2 : Below wb.heap.size wb w2 := (Below.refl _ _).grown hgrow (Nat.le_refl _) (by simp)
      clear hown hgrow
      have HROW2 := Lib.hid hrow2
      have HBEL := Lib.hid hbel
      clear hrow2 hbel
      go_loopw [42] (fun i wr => ∃ k : Nat, i = .int .i64 k ∧ k ≤ 32 ∧ RowI 3 .i64 wb.heap.size wr wb.heap.size 32 32 (partL fixDist k) ∧ Below wb.heap.size wb wr) (fun i _ => 32 - (intOf i).toNat)
      case atStart => exact ⟨0, rfl, by omega, hrow, hbel2⟩
      case round =>
        clear hrow hbel2
        obtain ⟨k, rfl, hk, hrow, hbel⟩ := hrel
        by_cases hlt : k < 32
        · obtain ⟨v0, hco⟩ := RowI.someCell hrow hlt
          have hcf := RowI.frozen hrow k
          have d0 : decide ((k : Int) < 32) = true := decide_eq_true (by omega)
          go_wp2
          go_roundw
          case rel => exact ⟨k + 1, by go_num, by omega, by rw [← partL_step fixDist k (by rw [fixDist_len]; exact hlt), fixDist_at k hlt]; exact RowI.set hrow k _, hbel.setCell (Nat.le_refl _) _⟩
          case measure => simp [intOf]; omega
        · obtain rfl : k = 32 := by omega
          have hrow3 : RowI 3 .i64 wb.heap.size wr wb.heap.size 32 32 fixDist := by
            have := hrow
            rwa [show (32 : Nat) = fixDist.length from fixDist_len.symm, partL_all, fixDist_len] at this
          clear hrow hk hlt
          generalize hwc : wr = wc at *
          clear hwc
          have HI1 := Lib.hid ((RowI.ints HROW2.out).below hbel)
          have HI2 := Lib.hid (RowI.ints hrow3)
          have HB1 := Lib.hid (HBEL.out.trans (hbel.mono HBEL.out.size))
          clear hrow3 hbel
          have HN1 := Lib.hid (iNew_ok (some ⟨w.heap.size, 0, none⟩) 288 288 fixLit wc HI1.out fixLit_ok.1 fixLit_len (by decide) fixLit_ok.2)
          go_wp2_with fail
          refine HN1.out.mono ?_
          rintro e w3 ⟨⟨g1, rfl, hg1, hx1⟩, hb3⟩
          have HX1 := Lib.hid hx1
          have HB3 := Lib.hid hb3
          clear hx1 hb3 HN1
          have HN2 := Lib.hid (iNew_ok (some ⟨wb.heap.size, 0, none⟩) 32 32 fixDist w3 (HI2.out.below HB3.out) fixDist_ok.1 fixDist_len (by decide) fixDist_ok.2)
          go_wp2_with fail
          refine HN2.out.mono ?_
          rintro e w4 ⟨⟨g2, rfl, hg2, hx2⟩, hb4⟩
          have HX2 := Lib.hid hx2
          have HX14 := Lib.hid (HX1.out.same hb4)
          have HB4 := Lib.hid ((HB1.out.trans (HB3.out.mono HB1.out.size)).trans (hb4.mono (Nat.le_trans HB1.out.size HB3.out.size)))
          have hs1 := HB1.out.size
          have hs3 := HB3.out.size
          clear hx2 hb4 HN2
          have HS := Lib.hid (iSymbols_any L R G most p w3.heap.size g1 w4.heap.size g2 F bs out fixLit fixDist w4 vo (HH.out.below HB4.out) HX14.out (fun k hk => .inl (by have := (HH.out.lt k hk).2; omega)) HX2.out (fun k hk => .inl (by have := (HH.out.lt k hk).2; omega)) hF)
          go_wp2_with fail
          refine HS.out.mono ?_
          rintro e w5 hP
          have hP2 := Lib.hid (hP.back HH.out HB4.out)
          obtain ⟨rfl, _⟩ := hP
          clear HS
          go_wp2
          go_ret
          exact hP2.out
end Go.Proofs.Ytoeipgbnjcgbjaa
