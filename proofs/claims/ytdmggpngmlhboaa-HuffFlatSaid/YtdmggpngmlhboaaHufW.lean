/- The walk of HuffFlat (under way). -/
import Derived.Test.YtdmggpngmlhboaaHufH
import Derived.Test.YtdmggpngmlhboaaHcAwake
import Derived.Deep.QuietTactic
import Derived.BigQuiet
namespace Go.Proofs.Ytdmggpngmlhboaa
open Go.RowKit
set_option linter.unusedVariables false

theorem drewN_below' (w : World) (n : Nat) : Below w.heap.size w (w.drewN n) := ⟨rfl, rfl, rfl, Nat.le_refl _, fun _ _ => rfl⟩
/-- A row of truth values in memory. -/
def BoolsIn (w : World) (A : Option Addr) (m : Nat) (G : Nat → Bool) : Prop :=
  0 < m → ∃ b o, A = some ⟨b, o, none⟩ ∧ b < w.heap.size ∧ ∀ i, i < m → w.cell? ⟨b, o + i, none⟩ = some (.bool (G i))
/-- The counts: some of them none, the others alike. -/
def gap (m : Nat) (G : Nat → Bool) (i : Nat) : Bool := decide (i < m) && G i
def flatX (m : Nat) (G : Nat → Bool) (X : Int) (n : Nat) : List Int := (List.range n).map fun i => if gap m G i = true then 0 else X
def flatN (m : Nat) (G : Nat → Bool) (n : Nat) : Nat := ((List.range n).filter fun i => !gap m G i).length
theorem flatX_succ (m : Nat) (G : Nat → Bool) (X : Int) (n : Nat) : flatX m G X (n + 1) = flatX m G X n ++ [if gap m G n = true then 0 else X] := by unfold flatX; rw [List.range_succ, List.map_append]; rfl
theorem flatN_succ (m : Nat) (G : Nat → Bool) (n : Nat) : flatN m G (n + 1) = flatN m G n + (if gap m G n = true then 0 else 1) := by
  unfold flatN
  rw [List.range_succ, List.filter_append, List.length_append]
  congr 1
  cases h : gap m G n <;> simp [h]
theorem flatN_le (m : Nat) (G : Nat → Bool) (n : Nat) : flatN m G n ≤ n := by
  unfold flatN
  exact Nat.le_trans (List.length_filter_le _ _) (by rw [List.length_range]; exact Nat.le_refl _)
theorem flatX_len (m : Nat) (G : Nat → Bool) (X : Int) (n : Nat) : (flatX m G X n).length = n := by simp [flatX]
theorem flatX_at (m : Nat) (G : Nat → Bool) (X : Int) {n i : Nat} (h : i < n) : (flatX m G X n).getD i 0 = if gap m G i = true then 0 else X := by
  unfold flatX
  rw [List.getD_eq_getElem?_getD, List.getElem?_map, List.getElem?_range h]; rfl
theorem flat_bs (m : Nat) (G : Nat → Bool) (X : Int) (n : Nat) (hX : 1 ≤ X) : (bs (flatX m G X n) (flatX m G X n).length).length = flatN m G n := by
  unfold bs flatN
  rw [List.length_map, flatX_len]
  congr 1
  apply List.filter_congr
  intro i hi
  rw [flatX_at m G X (List.mem_range.1 hi)]
  cases gap m G i
  · show decide (0 < X) = true; exact decide_eq_true (by omega)
  · rfl
theorem flat_ok (m : Nat) (G : Nat → Bool) (X : Int) (n : Nat) (hX : 1 ≤ X) (hX2 : X ≤ 1048576) : okX (flatX m G X n) := by
  intro i hi
  rw [flatX_len] at hi
  rw [flatX_at m G X hi]
  split <;> omega
theorem place300 (a : Int) : ∃ j : Nat, j < 300 ∧ (wrap64 (a.tmod 300 + 300)).tmod 300 = (j : Int) := by
  have hb : -(300 : Int) < a.tmod 300 ∧ a.tmod 300 < 300 := by
    rcases Int.le_total 0 a with ha | ha
    · rw [Int.tmod_eq_emod_of_nonneg ha]; omega
    · have h3 : a.tmod 300 = -((-a) % 300) := by rw [← Int.tmod_eq_emod_of_nonneg (show 0 ≤ -a by omega), Int.neg_tmod, Int.neg_neg]
      omega
  generalize a.tmod 300 = x at *
  rw [IntWalk.wrap64_in _ (by omega), Int.tmod_eq_emod_of_nonneg (by omega)]
  exact ⟨((x + 300) % 300).toNat, by omega, by omega⟩
theorem and20 (n : Int) : bits .and .i64 n 1048575 = n % 1048576 := by
  have h127 : (BitVec.ofInt 64 1048575).toNat = 2 ^ 20 - 1 := by decide
  have key : (BitVec.ofInt 64 n &&& BitVec.ofInt 64 1048575).toNat = (n % ((2 ^ 64 : Nat) : Int)).toNat % 2 ^ 20 := by
    rw [BitVec.toNat_and, BitVec.toNat_ofInt, h127, Nat.and_two_pow_sub_one_eq_mod]
  show IntKind.i64.wrap ((BitVec.ofInt 64 n &&& BitVec.ofInt 64 1048575).toNat : Nat) = n % 1048576
  rw [key, IntWalk.i64_in _ (by omega)]
  omega
set_option maxRecDepth 100000 in
set_option maxHeartbeats 8000000 in
theorem huffFlat_walk (n count : Int) (A : Option Addr) (c m : Nat) (G : Nat → Bool) (W : World) (hn : (Lit.int .i64 n).wf = true) (hc : (Lit.int .i64 count).wf = true) (hG : BoolsIn W A m G) (hm : m ≤ 9223372036854775807) :
    Calls Try.prog 3 #[.int .i64 n, .int .i64 count, .slice A m c] W fun e w' => e = .returned (.bool true) ∧ Below W.heap.size W w' := by
  have HG := Lib.hid hG
  clear hG
  go_enter Try.func3, Try.ntmps3
  go_upto_region 2 with (fail)
  obtain ⟨N, hN, eN⟩ := place300 n
  obtain ⟨X, hX⟩ : ∃ X, wrap64 (bits BinOp.and IntKind.i64 count 1048575 + 1) = X := ⟨_, rfl⟩
  have hX1 : 1 ≤ X ∧ X ≤ 1048576 := by
    rw [← hX, and20]
    have h1 := Int.emod_nonneg count (show (1048576 : Int) ≠ 0 by decide)
    have h2 := Int.emod_lt_of_pos count (show (0 : Int) < 1048576 by decide)
    rw [IntWalk.wrap64_in _ (by omega)]
    omega
  obtain ⟨hX1, hX2⟩ := hX1
  rw [eN, hX]
  clear eN hX hn hc
  obtain ⟨i0, hi, hz0, hz1, hz2⟩ := info_parts Try.info_Int
  go_wp2
  go_loopw [7, 8, 9] (fun cv sv iv wr => ∃ i : Nat, iv = .int .i64 i ∧ i ≤ N ∧ sv = .int .i64 (flatN m G i : Nat) ∧ OwnS wr W.heap.size 3 1 cv i ((flatX m G X i).map (Value.int .i64)) ∧ Below W.heap.size W wr) (fun _ _ iv _ => N - (intOf iv).toNat)
  case atStart => exact ⟨0, rfl, Nat.zero_le _, rfl, OwnS.nil _ _ _ _, Below.refl _ _⟩
  case round =>
    obtain ⟨i, rfl, hiN, rfl, hO, hB⟩ := hrel
    have hfl := flatN_le m G i
    by_cases hlt : i < N
    · have hxs := flatX_succ m G X i
      have hns := flatN_succ m G i
      have hmx1 : i + 1 ≤ maxLen := by unfold maxLen; omega
      have hmx2 : (i + 1) * 8 ≤ 140737488355328 := by omega
      obtain ⟨Ao, co, rfl⟩ := hO.shape
      have hbase := hB.size
      have HB := Lib.hid hB
      have HO := Lib.hid hO
      have HXS := Lib.hid hxs
      have HNS := Lib.hid hns
      have hfin : ∀ (v : Int) (A9 : Option Addr) (c9 : Nat) (w9 : World) (o : Obj), OwnS w9 W.heap.size 3 1 (.slice A9 (i + 1) c9) (i + 1) ((flatX m G X i).map (Value.int .i64) ++ [.int .i64 v]) → (wr.alloc o).grownBy w9 (Value.slice Ao i co).ownBlock → (if gap m G i = true then 0 else X) = v →
          OwnS w9 W.heap.size 3 1 (.slice A9 (i + 1) c9) (i + 1) ((flatX m G X (i + 1)).map (Value.int .i64)) ∧ Below W.heap.size W w9 := by
        intro v A9 c9 w9 o h9 hg hv
        refine ⟨by rw [HXS.out, hv, List.map_append]; exact h9, ?_⟩
        have hb1 := HB.out.alloc hbase o
        exact hb1.trans ((Chg.of_grown (S := fun q => (Value.slice Ao i co).ownBlock = some q) hg (fun _ h => h)).below (by have := hbase; simp; omega) (fun q hq hs => by have := (HO.out.lt q hs).1; omega))
      have HF := Lib.hid hfin
      clear hB hO hxs hns hfin
      cases hg : gap m G i
      · have hX1' := hX1
        have HGP := Lib.hid hg
        have HFI : Hid ((if gap m G i = true then (0 : Int) else X) = X) := by show _ = _; rw [hg]; rfl
        have HNI : Hid (flatN m G (i + 1) = flatN m G i + 1) := by show _ = _; rw [HNS.out, hg]; rfl
        clear HNS HXS
        by_cases him : i < m
        · obtain ⟨b, o, hA, hbs, hcell⟩ := HG.out (by omega)
          subst hA
          have hck := (HB.out.cell (p := ⟨b, o + i, none⟩) hbs).trans (hcell i him)
          have hgi : G i = false := by unfold gap at hg; simpa [him] using hg
          rw [hgi] at hck
          have d1 : decide ((i : Int) < (m : Int)) = true := decide_eq_true (by omega)
          have d2 : decide (i < m) = true := decide_eq_true him
          have HO2 := Lib.hid (HO.out.alloc (.cells #[.int .i64 X] 3))
          clear hcell hgi hg
          go_wp2_with (at_builtin; refine wpList_append_S rfl (.tmp 40) (.tmp 42) 23 23 rfl i0 _ 8 (.slice 3) Try.underlying23 Try.underlying23 (fun _ h => by cases h) hi hz0 hz1 hz2 rfl rfl rfl HO2.out (Src.one_new (u := .int .i64 X) rfl) hmx1 hmx2 (by simp; omega) ?_; intro A9 c9 w9 ho9 hg9 hw9)
          have hf := HF.out X A9 c9 w9 _ ho9 hg9 HFI.out
          go_roundw
          case rel => exact ⟨i + 1, by go_num, by omega, by rw [HNI.out]; go_num, hf.1, hf.2⟩
          case measure => simp [intOf]; omega
        · have d1 : decide ((i : Int) < (m : Int)) = false := decide_eq_false (by omega)
          have d2 : decide (i < m) = false := decide_eq_false him
          have HO2 := Lib.hid (HO.out.alloc (.cells #[.int .i64 X] 3))
          clear hg
          go_wp2_with (at_builtin; refine wpList_append_S rfl (.tmp 40) (.tmp 42) 23 23 rfl i0 _ 8 (.slice 3) Try.underlying23 Try.underlying23 (fun _ h => by cases h) hi hz0 hz1 hz2 rfl rfl rfl HO2.out (Src.one_new (u := .int .i64 X) rfl) hmx1 hmx2 (by simp; omega) ?_; intro A9 c9 w9 ho9 hg9 hw9)
          have hf := HF.out X A9 c9 w9 _ ho9 hg9 HFI.out
          go_roundw
          case rel => exact ⟨i + 1, by go_num, by omega, by rw [HNI.out]; go_num, hf.1, hf.2⟩
          case measure => simp [intOf]; omega
      · have HFI : Hid ((if gap m G i = true then (0 : Int) else X) = 0) := by show _ = _; rw [hg]; rfl
        have HNI : Hid (flatN m G (i + 1) = flatN m G i) := by show _ = _; rw [HNS.out, hg]; rfl
        have him : i < m := by unfold gap at hg; simp at hg; exact hg.1
        have hgi : G i = true := by unfold gap at hg; simp at hg; exact hg.2
        clear HNS HXS hg
        obtain ⟨b, o, hA, hbs, hcell⟩ := HG.out (by omega)
        subst hA
        have hck := (HB.out.cell (p := ⟨b, o + i, none⟩) hbs).trans (hcell i him)
        rw [hgi] at hck
        have d1 : decide ((i : Int) < (m : Int)) = true := decide_eq_true (by omega)
        have d2 : decide (i < m) = true := decide_eq_true him
        have HO2 := Lib.hid (HO.out.alloc (.cells #[.int .i64 0] 3))
        clear hcell hgi
        go_wp2_with (at_builtin; refine wpList_append_S rfl (.tmp 37) (.tmp 38) 23 23 rfl i0 _ 8 (.slice 3) Try.underlying23 Try.underlying23 (fun _ h => by cases h) hi hz0 hz1 hz2 rfl rfl rfl HO2.out (Src.one_new (u := .int .i64 0) rfl) hmx1 hmx2 (by simp; omega) ?_; intro A9 c9 w9 ho9 hg9 hw9)
        have hf := HF.out 0 A9 c9 w9 _ ho9 hg9 HFI.out
        go_roundw
        case rel => exact ⟨i + 1, by go_num, by omega, by rw [HNI.out], hf.1, hf.2⟩
        case measure => simp [intOf]; omega
    · obtain rfl : i = N := by omega
      obtain ⟨Ao, co, rfl⟩ := hO.shape
      have hlx := flatX_len m G X i
      have hbsl := flat_bs m G X i hX1
      have hokx := flat_ok m G X i hX1 hX2
      have hgo := lengths_go Ao co (flatX m G X i) 15 wr hO.ints (by decide) (by decide) (by rw [hlx]; omega)
      rw [hlx] at hgo
      have hgo2 : Calls Try.prog 11 #[.slice Ao i co, .int .i64 15] wr (LnOk wr (flatX m G X i) 15) := hgo.mono fun e w' hp => hp.elim (fun h => h.2.2) (fun h => absurd ⟨hokx, by rw [hbsl]; exact Nat.le_trans hfl (by omega)⟩ h.1)
      have hpw : (bs (flatX m G X i) (flatX m G X i).length).length ≤ 2 ^ 15 := by rw [hbsl]; exact Nat.le_trans hfl (by omega)
      obtain ⟨J, hJ⟩ := lens_flat (flatX m G X i) 15 (by decide) hpw X (fun j hj h0 => by
        rw [hlx] at hj
        rw [flatX_at m G X hj] at h0 ⊢
        split at h0
        · omega
        · rename_i hg; rw [if_neg hg])
      have HJ := Lib.hid hJ
      have HPW := Lib.hid hpw
      have HBSL := Lib.hid hbsl
      have HLX := Lib.hid hlx
      have HIN := Lib.hid hO.ints
      have HB := Lib.hid hB
      clear hgo hokx hJ hpw hbsl hlx hO hB hi hz0 hz1 hz2
      go_wp2_with fail
      refine hgo2.mono ?_
      rintro e w1 ⟨A1, rfl, hi1, hb1⟩
      rw [HLX.out]
      have HI1 := Lib.hid hi1
      have HI0 := Lib.hid (HIN.out.below hb1)
      have HB1 := Lib.hid (HB.out.trans (hb1.mono HB.out.size))
      clear hgo2 hi1 hb1 HIN HB
      have hz := fun (j : Nat) (hj : j < i) (h0 : ¬ 0 < (flatX m G X i).getD j 0) => lens_zero (flatX m G X i) 15 (i := j) (by rw [HLX.out]; exact hj) h0
      have hs := fun (j : Nat) (hj : j < i) (h0 : 0 < (flatX m G X i).getD j 0) => lens_some (flatX m G X i) 15 (by decide) HPW.out (i := j) (by rw [HLX.out]; exact hj) h0
      have HZ := Lib.hid hz
      have HSM := Lib.hid hs
      have HLL := Lib.hid (lensL_length (flatX m G X i) 15)
      have hroom := fun (h : Nat) => lens_room (flatX m G X i) 15 h (by decide) HPW.out
      have hsmall := fun (h : (bs (flatX m G X i) (flatX m G X i).length).length < 2) (j : Nat) (hj : j < i) (h0 : 0 < (flatX m G X i).getD j 0) => lens_small (flatX m G X i) 15 h (i := j) (by rw [HLX.out]; exact hj) h0
      have HROOM := Lib.hid hroom
      have HSMALL := Lib.hid hsmall
      clear hz hs hroom hsmall
      have z0 : ((i : Int) != (i : Int)) = false := by simp
      go_wp2
      go_loopw [12, 13, 14] (fun lov hiv jv wr => ∃ (j : Nat) (lo hi : Int), jv = .int .i64 j ∧ lov = .int .i64 lo ∧ hiv = .int .i64 hi ∧ j ≤ i ∧ Seen (flatX m G X i) (lensL (flatX m G X i) 15) J j lo hi ∧ Below w1.heap.size w1 wr) (fun _ _ jv _ => i - (intOf jv).toNat)
      case atStart => exact ⟨0, 99, 0, rfl, rfl, rfl, Nat.zero_le _, .inl ⟨rfl, rfl, fun t ht => by omega⟩, Below.refl _ _⟩
      case round =>
        obtain ⟨j, lo, hi, rfl, rfl, rfl, hj, hseen, hbr⟩ := hrel
        have HSEEN := Lib.hid hseen
        clear hseen
        by_cases hlj : j < i
        · obtain ⟨b, o, hA, hbs, hcell⟩ := HI0.out (by rw [HLX.out]; omega)
          subst hA
          obtain ⟨b2, o2, hA2, hbs2, hcell2⟩ := HI1.out (by rw [HLL.out, HLX.out]; omega)
          subst hA2
          have cx := (hbr.cell (p := ⟨b, o + j, none⟩) hbs).trans (hcell j (by rw [HLX.out]; exact hlj))
          have cl := (hbr.cell (p := ⟨b2, o2 + j, none⟩) hbs2).trans (hcell2 j (by rw [HLL.out, HLX.out]; exact hlj))
          have HBR := Lib.hid hbr
          clear hcell hcell2 hbr
          have j0 : (0 : Int) ≤ (j : Int) := by omega
          have j1 : (j : Int) < (i : Int) := by omega
          by_cases hx0 : 0 < (flatX m G X i).getD j 0
          · obtain ⟨l, hl, hl1, hl2⟩ := HSM.out j hlj hx0
            have hlJ : J ≤ l ∧ l ≤ J + 1 := by
              rcases HJ.out j (by rw [HLX.out]; exact hlj) hx0 with h | h
              · rw [hl] at h; injection h with h; omega
              · rw [hl] at h; injection h with h; omega
            have hld : (lensL (flatX m G X i) 15).getD j 0 = (l : Int) := by rw [List.getD_eq_getElem?_getD, hl]; rfl
            have hadd := HSEEN.out.add hx0 hld hl1 hl2 hlJ.1 hlJ.2
            have HADD := Lib.hid hadd
            rw [hld] at cl
            clear hl hld hadd hlJ
            generalize (flatX m G X i).getD j 0 = x at *
            have g1 : decide ((0 : Int) < (l : Int)) = true := decide_eq_true (by omega)
            have g1' : decide (0 < l) = true := decide_eq_true (by omega)
            have g2 : decide (0 < x) = true := decide_eq_true hx0
            go_wp2
            go_quiet (fail)
            go_wp2
            go_quiet (fail)
            go_wp2
            go_roundw
            case rel => exact ⟨j + 1, min lo l, max hi l, by go_num, by congr 1; split <;> omega, by congr 1; split <;> omega, by omega, HADD.out, HBR.out.trans ((drewN_below' wr _).mono HBR.out.size)⟩
            case measure => simp [intOf]; omega
          · have hl : (lensL (flatX m G X i) 15)[j]? = some 0 := lens_zero (flatX m G X i) 15 (i := j) (by rw [HLX.out]; exact hlj) hx0
            have hld : (lensL (flatX m G X i) 15).getD j 0 = 0 := by rw [List.getD_eq_getElem?_getD, hl]; rfl
            have HADD := Lib.hid (HSEEN.out.skip hx0)
            rw [hld] at cl
            clear hl hld
            generalize (flatX m G X i).getD j 0 = x at *
            have g2 : decide (0 < x) = false := decide_eq_false hx0
            go_wp2
            go_quiet (fail)
            go_wp2
            go_roundw
            case rel => exact ⟨j + 1, lo, hi, by go_num, rfl, rfl, by omega, HADD.out, HBR.out.trans ((drewN_below' wr _).mono HBR.out.size)⟩
            case measure => simp [intOf]; omega
        · obtain rfl : j = i := by omega
          have HB2 := Lib.hid (HB1.out.trans (hbr.mono HB1.out.size))
          clear hbr
          rcases HSEEN.out with ⟨rfl, rfl, hno⟩ | ⟨a, b, rfl, rfl, s1, s2, s3, s4, s5, ⟨t, ht, hpt, hlt2⟩, hle⟩
          · have hf0 : flatN m G j = 0 := by
              rcases Nat.eq_zero_or_pos (flatN m G j) with h | h
              · exact h
              · exfalso
                rw [← HBSL.out] at h
                obtain ⟨c, hc⟩ := List.exists_mem_of_length_pos h
                obtain ⟨q, hq1, hq2, _⟩ := bs_mem hc
                exact hno q (by rw [HLX.out] at hq1; exact hq1) hq2
            have g1 : (((flatN m G j : Nat) : Int) == 0) = true := by rw [hf0]; rfl
            generalize flatN m G j = nf at *
            clear hno hf0
            go_wp2_with (go_at_call 12; refine (awake5_any _).mono ?_; rintro e w4 ⟨rfl, hb4⟩)
            go_ret
            exact ⟨rfl, HB2.out.trans (hb4.mono HB2.out.size)⟩
          · have hrm := HROOM.out b (fun q l hq h0 hl => by
              rw [HLX.out] at hq
              have h1 := hle q hq h0
              rw [List.getD_eq_getElem?_getD, hl] at h1
              simp only [Option.getD_some] at h1
              omega)
            rw [HBSL.out] at hrm
            have hmem := mem_bs (xs := flatX m G X j) (k := j) ht hpt
            have hf1 : 1 ≤ flatN m G j := by
              rw [← HBSL.out, HLX.out]
              exact List.length_pos_of_mem hmem
            have hone : flatN m G j < 2 → b = 1 := fun h => by
              have h1 := HSMALL.out (by rw [HBSL.out]; exact h) t ht hpt
              rw [List.getD_eq_getElem?_getD, h1] at hlt2
              simp only [Option.getD_some] at hlt2
              omega
            obtain ⟨pw, hpw⟩ : ∃ p, 2 ^ b = p := ⟨_, rfl⟩
            have hp15 : pw ≤ 32768 := by rw [← hpw]; exact (Nat.pow_le_pow_right (n := 2) (by decide) s3 : 2 ^ b ≤ 2 ^ 15)
            rw [hpw] at hrm
            have hpi : (2 : Int) ^ b = (pw : Int) := by rw [← hpw]; simp
            have hwp : IntKind.i64.wrap (pw : Int) = (pw : Int) := IntWalk.i64_in _ (by omega)
            generalize flatN m G j = nf at *
            have g1 : (((nf : Nat) : Int) == 0) = false := by rw [beq_eq_false_iff_ne]; omega
            have g2 : decide ((b : Int) - (a : Int) ≤ 1) = true := decide_eq_true (by omega)
            have g4 : decide ((nf : Int) ≤ (pw : Int)) = true := decide_eq_true (by omega)
            have g4' : decide (nf ≤ pw) = true := decide_eq_true hrm
            clear hmem hle hpt hlt2 ht hpw
            by_cases hs1 : 1 < nf
            · have g3 : decide ((1 : Int) < (nf : Int)) = true := decide_eq_true (by omega)
              have g3' : decide (1 < nf) = true := decide_eq_true hs1
              clear hone
              go_wp2_with (go_at_call 12; refine (awake5_any _).mono ?_; rintro e w4 ⟨rfl, hb4⟩)
              go_ret
              exact ⟨rfl, HB2.out.trans (hb4.mono HB2.out.size)⟩
            · have g3 : decide ((1 : Int) < (nf : Int)) = false := decide_eq_false (by omega)
              have g3' : decide (1 < nf) = false := decide_eq_false hs1
              have hb1 := hone (by omega)
              have g5 : ((b : Int) == 1) = true := by rw [hb1]; rfl
              have HB1' := Lib.hid hb1
              clear hone hb1
              go_wp2_with (go_at_call 12; refine (awake5_any _).mono ?_; rintro e w4 ⟨rfl, hb4⟩)
              go_ret
              exact ⟨rfl, HB2.out.trans (hb4.mono HB2.out.size)⟩
end Go.Proofs.Ytdmggpngmlhboaa
