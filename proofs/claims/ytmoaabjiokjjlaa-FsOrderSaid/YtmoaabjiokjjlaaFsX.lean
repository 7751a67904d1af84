/- The walk of FsOrder. -/
import Derived.Test.YtmoaabjiokjjlaaFsW
import Derived.Deep.CutBlock
import Derived.Test.YtmoaabjiokjjlaaPh
namespace Go.Proofs.Ytmoaabjiokjjlaa
open Go.RowKit Go.Maps
set_option linter.unusedVariables false
set_option linter.unusedSimpArgs false

theorem ord_zero (xs : List Int) : newF 1048576 = ordS 1048576 (fO xs) 0 := rfl
set_option maxRecDepth 100000 in
set_option maxHeartbeats 8000000 in
theorem fsOrder_walk (n0 : Int) (A : Option Addr) (cA : Nat) (xs : List Int) (m : Int) (G : Option Addr) (cG : Nat) (zs : List Int) (w : World)
    (hI : Ints .i64 w A xs) (hxl : xs.length ≤ 9223372036854775807) (hK : Ints .i64 w G zs) (hzl : zs.length ≤ 9223372036854775807) :
    Calls Try.prog 3 #[.int .i64 n0, .slice A xs.length cA, .int .i64 m, .slice G zs.length cG] w fun e w' => e = .returned (.bool true) ∧ Below w.heap.size w w' := by
  obtain ⟨nv, hnv, hnb⟩ := and15o n0
  have HN := Lib.hid (new_in w 1048576 (by omega))
  have HXI := Lib.hid hI
  have HZI := Lib.hid hK
  have HZL := Lib.hid hzl
  have HZ0 := Lib.hid (fun hl b o e => Ints.lt0 hK hl b o e)
  clear hI hK
  unfold ptrV at HN
  go_enter Try.func3, Try.ntmps3
  go_wp2_with fail
  refine HN.out.mono ?_
  rintro e w1 ⟨p, rfl, h1, hb1⟩
  have HA1 : Hid (FsIn (fun k => w.heap.size ≤ k) p w1 (ordS 1048576 (fO xs) 0)) := Lib.hid h1
  have HB1 := Lib.hid hb1
  have HI1 : Hid (Inv 0 16777216 (ordS 1048576 (fO xs) 0)) := Lib.hid (Inv.new (by omega))
  generalize hxn : xs.length = xn at *
  have HXN := Lib.hid hxn
  generalize hzn : zs.length = zn at *
  have HZN := Lib.hid hzn
  clear h1 hb1 HN hxn hzn
  go_wp2
  go_loopw [11] (fun vi wr => ∃ (j : Nat), vi = .int .i64 j ∧ j ≤ nv ∧ FsIn (fun k => w.heap.size ≤ k) p wr (ordS 1048576 (fO xs) j) ∧ Inv j 16777216 (ordS 1048576 (fO xs) j) ∧ Below w.heap.size w wr) (fun vi _ => nv - (intOf vi).toNat)
  case atStart => exact ⟨0, rfl, Nat.zero_le _, HA1.out, HI1.out, HB1.out⟩
  case round =>
    clear HA1 HI1 HB1
    obtain ⟨j, rfl, hj, hA, hInv, hB⟩ := hrel
    have HA := Lib.hid hA
    have HI := Lib.hid hInv
    have HB := Lib.hid hB
    clear hA hInv hB
    by_cases hlt : j < nv
    · have d2 : decide ((j : Int) < (nv : Int)) = true := decide_eq_true (by omega)
      have d2' : decide (j < nv) = true := decide_eq_true hlt
      have hj16 : j < 16 := by omega
      have hw8 := w16o j hj16
      have hw9 := w16p j hj16
      have cvn := run_bstr (wr.alloc (.cells #[.int .u8 (97 + (j : Int))] 5)) (some ⟨wr.heap.size, 0, none⟩) 1 1 [97 + (j : Int)] (ints_newO wr _) rfl
      have HNO : Hid ((⟨#[102]⟩ : ByteArray) ++ strOfNums [97 + (j : Int)] = nameO j) := Lib.hid rfl
      have hn1 := nameO_one j hj16
      have hba : Below wr.heap.size wr (wr.alloc (.cells #[.int .u8 (97 + (j : Int))] 5)) := (Below.refl _ wr).alloc (Nat.le_refl _) _
      have HA7 := Lib.hid (HA.out.below hba)
      have HB7 := Lib.hid (HB.out.trans (hba.mono HB.out.size))
      have HNL := Lib.hid (nameO_list j hj16)
      have HNS := Lib.hid (nameO_size j hj16)
      generalize strOfNums [97 + (j : Int)] = nm at *
      clear hba HA HB
      go_upto_region 9 with (fail)
      generalize wr.alloc (.cells #[.int .u8 (97 + (j : Int))] 5) = w7 at *
      try rw [HNO.out]
      generalize hno : nameO j = nO at *
      clear cvn hw8 hw9 HNO hn1
      have HNN := Lib.hid hno
      clear hno
      have hm5 : (Instr.makeSlice 27 (.int .i64 5) (.int .i64 5)).run Try.prog w7 = .ok (.slice (some ⟨w7.heap.size, 0, none⟩) 5 5) (w7.alloc (.cells (madeCells #[.int .u8 0] 5) 5)) := makeO w7 5 (by omega)
      go_upto_region 10 with (fail)
      have hba5 : Below w7.heap.size w7 (w7.alloc (.cells (madeCells #[.int .u8 0] 5) 5)) := (Below.refl _ w7).alloc (Nat.le_refl _) _
      have HA8 := Lib.hid (HA7.out.bound.below hba5)
      have HB8 := Lib.hid (HB7.out.trans (hba5.mono HB7.out.size))
      have HO8 := Lib.hid (ownsO w7 5 (by omega) j w7.heap.size (Nat.le_refl _))
      have HXI8 := Lib.hid (HXI.out.below HB8.out)
      have HS7 := Lib.hid HB7.out.size
      clear hba5 hm5 HA7 HB7
      generalize w7.alloc (.cells (madeCells #[.int .u8 0] 5) 5) = w8 at *
      generalize w7.heap.size = b7 at *
      have hz255 := szO_le xs j
      have hzs : ∀ x, xs[j]? = some x → bits .and .i64 x 255 = (szO xs j : Int) := fun x h => szO_some h
      have hzn : xn ≤ j → szO xs j = 5 := fun h => szO_none (by rw [HXN.out]; exact h)
      have HFO : Hid (fO xs j = flB j (szO xs j)) := Lib.hid rfl
      generalize hzz : szO xs j = z at *
      have HZZ := Lib.hid hzz
      clear hzz
      go_upto_if 50 with (fail)
      go_cut [13] (fun v wx => ∃ g off c, v = .slice (some ⟨g, off, none⟩) z c ∧ OwnS wx b7 5 1 (.slice (some ⟨g, off, none⟩) z c) z ((fillO j z 0).map (Value.int .u8)) ∧ Below w8.heap.size w8 wx)
      case first => as_aux_lemma =>
        by_cases hjx : j < xn
        · have d3 : decide ((j : Int) < (xn : Int)) = true := decide_eq_true (by omega)
          have d3' : decide (j < xn) = true := decide_eq_true hjx
          obtain ⟨x, hx⟩ : ∃ x, xs[j]? = some x := ⟨_, List.getElem?_eq_getElem (by rw [HXN.out]; exact hjx)⟩
          obtain ⟨b, o, rfl, hbl, hc⟩ := HXI8.out (by rw [HXN.out]; omega)
          have r0 := hc j (by rw [HXN.out]; exact hjx)
          rw [List.getD_eq_getElem?_getD, hx] at r0
          simp only [Option.getD_some] at r0
          have hand := hzs x hx
          have hmk := makeO w8 z hz255
          have HN8 := Lib.hid (ownsO w8 z hz255 j b7 (by have := HO8.out.lt _ rfl; omega))
          clear hc hx hzs hzn HO8 HXI8 hbl
          go_wp2
          go_meet
          exact ⟨_, _, _, rfl, HN8.out, (Below.refl _ w8).alloc (Nat.le_refl _) _⟩
        · have d3 : decide ((j : Int) < (xn : Int)) = false := decide_eq_false (by omega)
          have d3' : decide (j < xn) = false := decide_eq_false hjx
          obtain rfl : z = 5 := hzn (by omega)
          clear hzs hzn
          go_wp2
          go_meet
          exact ⟨_, _, _, rfl, HO8.out, Below.refl _ _⟩
      case rest =>
        obtain ⟨g, off, c, rfl, ho, hbx⟩ := hcut
        generalize wc = w9 at *
        have hgb := ho.lt g rfl
        have HFP : Hid (∀ k, w9.heap.size ≤ k → w.heap.size ≤ k ∧ k ≠ g) := Lib.hid (fun k hk => by have h1 := HB8.out.size; have h2 := hbx.size; omega)
        have HA9 : Hid (FsIn (fun k => w.heap.size ≤ k ∧ k ≠ g) p w9 (ordS 1048576 (fO xs) j)) := Lib.hid ((HA8.out.below hbx).mono (fun k hk => ⟨hk.1, by omega⟩))
        have HB9 := Lib.hid (HB8.out.trans (hbx.mono HB8.out.size))
        have HO9 := Lib.hid ho
        have HG9 : Hid (w.heap.size ≤ g) := Lib.hid (Nat.le_trans HS7.out hgb.1)
        clear HA8 HB8 HO8 HXI8 ho hbx hgb hzs hzn
        go_wp2
        go_loopw [59] (fun vk wr => ∃ (k : Nat), vk = .int .i64 k ∧ k ≤ z ∧ OwnS wr b7 5 1 (.slice (some ⟨g, off, none⟩) z c) z ((fillO j z k).map (Value.int .u8)) ∧ FsIn (fun k => w.heap.size ≤ k ∧ k ≠ g) p wr (ordS 1048576 (fO xs) j) ∧ Below w.heap.size w wr ∧ w9.heap.size ≤ wr.heap.size) (fun vk _ => z - (intOf vk).toNat)
        case atStart => exact ⟨0, rfl, Nat.zero_le _, HO9.out, HA9.out, HB9.out, Nat.le_refl _⟩
        case round =>
          clear HO9 HA9 HB9
          obtain ⟨k, rfl, hk, ho, hA, hB, hsz⟩ := hrel
          have HSZ := Lib.hid hsz
          by_cases hkz : k < z
          · have dk : decide ((k : Int) < (z : Int)) = true := decide_eq_true (by omega)
            have dk' : decide (k < z) = true := decide_eq_true hkz
            have hlen : ((fillO j z k).map (Value.int .u8)).length = z := by rw [List.length_map, fillO_len hk]
            obtain ⟨f0, v0, r0⟩ := ho.free (j := k) (by omega)
            have hadd : IntKind.i64.wrap ((j : Int) + (k : Int)) = (j : Int) + k := IntWalk.i64_in _ (by omega)
            have hset := ho.setAt (j := k) (by omega) (.int .u8 (IntKind.u8.wrap ((j : Int) + (k : Int))))
            rw [← List.map_set (f := Value.int .u8), fillO_set hkz] at hset
            have hch : Chg (fun b => b = g) wr (wr.setCell ⟨g, off + k, none⟩ (.int .u8 (IntKind.u8.wrap ((j : Int) + (k : Int))))) := Chg.setCell (S := fun b => b = g) (a := ⟨g, off + k, none⟩) (Chg.refl _ _) (.inl rfl) _
            have HST := Lib.hid hset
            have HAN := Lib.hid (hA.chg hch (fun k hk _ h => hk.2 h))
            have HBN := Lib.hid (hB.trans (hch.below hB.size (fun k hk h => by have := HG9.out; omega)))
            have HSN := Lib.hid (Nat.le_trans hsz hch.size)
            generalize hcv : IntKind.u8.wrap ((j : Int) + (k : Int)) = bv at *
            clear hlen ho hA hB hsz hset hch
            go_wp2
            go_roundw
            case rel => exact ⟨k + 1, rfl, by omega, HST.out, HAN.out, HBN.out, HSN.out⟩
            case measure => simp [intOf]; omega
          · obtain rfl : k = z := by omega
            have dk : decide ((k : Int) < (k : Int)) = false := decide_eq_false (by omega)
            have dk' : decide (k < k) = false := decide_eq_false (by omega)
            rw [fillO_all, ← HFO.out] at ho
            have hfl : (fO xs j).length = k := by rw [fO_len, HZZ.out]
            have hq := ord_create 1048576 (fO xs) hj16
            have hap := ord_append 1048576 (fO xs) hj16 (fun i => by rw [fO_len]; exact szO_le xs i) (by omega)
            have hI1 := HI.out.create nO.data.toList
            have HC := Lib.hid (create_in hA HI.out (by omega) (fun k hk => HFP.out k (Nat.le_trans hsz hk)) nO HNS.out)
            rw [HNL.out, hq] at hI1
            rw [HNL.out, hq] at HC
            have hI2 := hI1.append nO.data.toList (fO xs j)
            rw [HNL.out, hap] at hI2
            unfold InPost ptrV at HC
            have HAP : Hid (∀ W, FsIn (fun k => w.heap.size ≤ k ∧ k ≠ g) p W (ordM 1048576 (fO xs) j) → wr.heap.size ≤ W.heap.size → Ints .u8 W (some ⟨g, off, none⟩) (fO xs j) → Calls Try.prog 11 #[.pointer (some ⟨p, 0, none⟩), .string nO, .slice (some ⟨g, off, none⟩) k c] W (InPost (fun k => w.heap.size ≤ k ∧ k ≠ g) p (0, ordS 1048576 (fO xs) (j + 1)) W)) := Lib.hid (fun W h hw hi => by
              have := append_in h hI1 (by omega) (fun k hk => HFP.out k (Nat.le_trans hsz (Nat.le_trans hw hk))) nO HNS.out (some ⟨g, off, none⟩) k c (fO xs j) hi hfl (by omega) (fun _ b o e => by injection e with e; injection e with e _; subst e; exact fun h => h.2 rfl)
              rw [HNL.out, hap] at this
              exact this)
            unfold InPost at HAP
            have HI2 := Lib.hid hI2
            have HOR := Lib.hid ho
            have HB := Lib.hid hB
            clear ho hA hB hsz hfl hq hap hI1 hI2 HI HSZ HFP
            go_wp2_with (first
              | (go_at_call 11; refine (HAP.out w10 h10 hc10.size (HOR.out.chg hc10 (fun k hk h => h.2 (by injection hk with hk; exact hk.symm))).ints).mono ?_; rintro e w11 ⟨rfl, h11, hc11⟩)
              | (go_at_call 10; refine HC.out.mono ?_; rintro e w10 ⟨rfl, h10, hc10⟩))
            go_roundw
            case rel => exact ⟨j + 1, rfl, by omega, h11.mono (fun k hk => hk.1), HI2.out, (HB.out.trans (hc10.below HB.out.size (fun k hk h => by have := h.1; omega))).trans (hc11.below (Nat.le_trans HB.out.size hc10.size) (fun k hk h => by have := h.1; omega))⟩
            case measure => simp [intOf]; omega
    · obtain rfl : j = nv := by omega
      have d2 : decide ((j : Int) < (j : Int)) = false := decide_eq_false (by omega)
      have d2' : decide (j < j) = false := decide_eq_false (by omega)
      have HCR := Lib.hid (crash_in HA.out HI.out (by omega) (fun k hk => by have := HB.out.size; omega) m G zn cG zs (HZI.out.below HB.out) HZN.out hzl (fun hl b o e => by have := HZ0.out (by rw [← HZN.out]; exact hl) b o e; omega))
      unfold ptrV at HCR
      obtain ⟨l1, l2, l3, l4⟩ := ord_crash 1048576 (fO xs) (n := j) (by omega) m zs
      have hI9 := HI.out.crash m zs
      have l5 := list_all _ l2
      rw [l3] at l5
      have l6 : (listF (crashF (ordS 1048576 (fO xs) j) m zs) []).length = (min (max m 0) (j : Int)).toNat := by rw [l5]; simp [rowO]
      have l7 : ∀ i, i < (min (max m 0) (j : Int)).toNat → (listF (crashF (ordS 1048576 (fO xs) j) m zs) [])[i]? = some (nmO i) := fun i hi => by
        rw [l5]
        simp [rowO, hi]
      clear l2 l3 l5
      generalize crashF (ordS 1048576 (fO xs) j) m zs = S9 at *
      have e1 : max m 0 = ((max m 0).toNat : Int) := by omega
      generalize hmm : (max m 0).toNat = mm at *
      rw [e1] at l1 l4 l6 l7
      have e2 : min (mm : Int) (j : Int) = ((min (mm : Int) (j : Int)).toNat : Int) := by omega
      generalize hkk : (min (mm : Int) (j : Int)).toNat = ll at *
      have e2' : min mm j = ll := by omega
      have HL4 := Lib.hid l4
      have HL6 := Lib.hid l6
      have HL7 := Lib.hid l7
      have HI9 := Lib.hid hI9
      clear l4 l6 l7 hI9 hmm hkk HA HI
      go_wp2_with fail
      refine HCR.out.mono ?_
      rintro e w2 ⟨rfl, h2, hc2⟩
      have HB2 : Hid (Below w.heap.size w w2) := Lib.hid (HB.out.trans (hc2.below HB.out.size (fun k hk h => by omega)))
      have HLI := Lib.hid (list_in h2 HI9.out (by omega) ⟨#[]⟩)
      have HA2 := Lib.hid h2
      unfold ListPost ptrV at HLI
      change Hid (Calls _ _ _ _ fun e W' => Below _ _ W' ∧ ∃ A, e = .returned (.slice A (listF S9 []).length (listF S9 []).length) ∧ OwnS W' _ _ 1 (.slice A (listF S9 []).length (listF S9 []).length) (listF S9 []).length (nmVs (listF S9 []))) at HLI
      rw [HL6.out] at HLI
      generalize listF S9 [] = LL at *
      clear h2 hc2 HCR HB
      go_wp2_with fail
      refine HLI.out.mono ?_
      rintro e w3 ⟨hb3, AL, rfl, ho3⟩
      have HA3 := Lib.hid (HA2.out.below hb3)
      have HB3 := Lib.hid (HB2.out.trans (hb3.mono HB2.out.size))
      have HO3 := Lib.hid ho3
      clear hb3 ho3 HLI HA2 HB2
      go_wp2
      go_loopw [17] (fun vi wr => ∃ (i : Nat), vi = .int .i64 i ∧ i ≤ ll ∧ Below w3.heap.size w3 wr) (fun vi _ => ll - (intOf vi).toNat)
      case atStart => exact ⟨0, rfl, Nat.zero_le _, Below.refl _ _⟩
      case round =>
        obtain ⟨i, rfl, hi, hbr⟩ := hrel
        by_cases hil : i < ll
        · have di : decide ((i : Int) < (ll : Int)) = true := decide_eq_true (by omega)
          have di' : decide (i < ll) = true := decide_eq_true hil
          have hi16 : i < 16 := by omega
          have hs := HL7.out i hil
          obtain ⟨hof, hby⟩ := HL4.out i hil
          obtain ⟨gL, oL, cL, hv, _, hgl, hcell⟩ := HO3.out.cells (by rw [nmVs_len, HL6.out]; omega)
          injection hv with hAL _ hcc
          subst hAL
          subst hcc
          have rs : wr.cell? ⟨gL, oL + i, none⟩ = some (.string (nameO i)) := by
            rw [hbr.cell (p := ⟨gL, oL + i, none⟩) hgl, hcell i (by rw [nmVs_len, HL6.out]; exact hil)]
            unfold nmVs
            rw [List.getElem?_map, hs, ← nameO_bk i hi16]
            rfl
          have hrd := read_in (HA3.out.below hbr) HI9.out (nameO i) (nameO_size i hi16)
          unfold ReadPost ptrV at hrd
          rw [nameO_list i hi16] at hrd
          have hrl : readL S9 (nmO i) = bytesF S9 (nmO i) := by unfold readL; rw [if_pos hof]
          rw [hof, hrl, hby] at hrd
          have hkl := keepO_le zs (fO xs) i
          have hks := fun d => keepO_some (D := zs) (f := fO xs) (i := i) (d := d)
          have hkn := keepO_none (D := zs) (f := fO xs) (i := i)
          rw [fO_len] at hkl
          rw [HZN.out] at hkn
          simp only [fO_len] at hks
          have hz255 := szO_le xs i
          have hzs : ∀ x, xs[i]? = some x → bits .and .i64 x 255 = (szO xs i : Int) := fun x h => szO_some h
          have hzn : xn ≤ i → szO xs i = 5 := fun h => szO_none (by rw [HXN.out]; exact h)
          have HFO : Hid (fO xs i = flB i (szO xs i)) := Lib.hid rfl
          generalize hzz : szO xs i = z at *
          generalize hkk : keepO zs (fO xs) i = kp at *
          have htk : ((fO xs i).take kp).length = kp := by rw [List.length_take, HFO.out, flB_len]; omega
          rw [htk] at hrd
          have HTA : Hid (∀ k, k < kp → (((fO xs i).take kp).map (Value.int .u8))[k]? = some (.int .u8 (IntKind.u8.wrap ((i : Int) + (k : Int))))) := Lib.hid (fun k hk => by
            rw [List.getElem?_map, List.getElem?_take, if_pos hk, HFO.out, flB_at (by omega)]
            rfl)
          have HTL : Hid ((((fO xs i).take kp).map (Value.int .u8)).length = kp) := Lib.hid (by rw [List.length_map]; exact htk)
          have HRD := Lib.hid hrd
          have HBR := Lib.hid hbr
          have HXR := Lib.hid (HXI.out.below (HB3.out.trans (hbr.mono HB3.out.size)))
          have HZR := Lib.hid (HZI.out.below (HB3.out.trans (hbr.mono HB3.out.size)))
          have HGL := Lib.hid (Nat.lt_of_lt_of_le hgl hbr.size)
          generalize (fO xs i).take kp = RB at *
          clear hcell hgl hs hof hrd hrl hby hbr hzz hkk htk HFO
          have HNO : Hid ((⟨#[102]⟩ : ByteArray) ++ strOfNums [97 + (i : Int)] = nameO i) := Lib.hid rfl
          have hn1 := nameO_one i hi16
          have HCV : Hid (∀ W A, Ints .u8 W A [97 + (i : Int)] → (convert 27 9 (.slice A 1 1)).run Try.prog W = .ok (.string (strOfNums [97 + (i : Int)])) W) := Lib.hid (fun W A h => run_bstr W A 1 1 [97 + (i : Int)] h rfl)
          generalize strOfNums [97 + (i : Int)] = nm at *
          generalize nameO i = nO at *
          go_wp2_with fail
          refine HRD.out.mono ?_
          rintro e w4 ⟨hb4, A4, rfl, ho4⟩
          have HB4 := Lib.hid (HBR.out.trans (hb4.mono HBR.out.size))
          have HX4 := Lib.hid (HXR.out.below hb4)
          have HZ4 := Lib.hid (HZR.out.below hb4)
          have rs4 : w4.cell? ⟨gL, oL + i, none⟩ = some (.string nO) := (hb4.cell (p := ⟨gL, oL + i, none⟩) HGL.out).trans rs
          have HG4 := Lib.hid (Nat.lt_of_lt_of_le HGL.out hb4.size)
          have HO4 := Lib.hid ho4
          clear hb4 ho4 HRD HBR HXR HZR rs HGL
          go_upto_if 113 with (fail)
          go_cut [20] (fun v wx => v = .int .i64 (z : Int) ∧ wx = w4)
          case first => as_aux_lemma =>
            by_cases hjx : i < xn
            · have d3 : decide ((i : Int) < (xn : Int)) = true := decide_eq_true (by omega)
              have d3' : decide (i < xn) = true := decide_eq_true hjx
              obtain ⟨x, hx⟩ : ∃ x, xs[i]? = some x := ⟨_, List.getElem?_eq_getElem (by rw [HXN.out]; exact hjx)⟩
              obtain ⟨b, o, rfl, hbl, hc⟩ := HX4.out (by rw [HXN.out]; omega)
              have r0 := hc i (by rw [HXN.out]; exact hjx)
              rw [List.getD_eq_getElem?_getD, hx] at r0
              simp only [Option.getD_some] at r0
              have hand := hzs x hx
              clear hc hx hzs hzn hbl
              go_wp2
              go_meet
              exact ⟨rfl, rfl⟩
            · have d3 : decide ((i : Int) < (xn : Int)) = false := decide_eq_false (by omega)
              have d3' : decide (i < xn) = false := decide_eq_false hjx
              obtain rfl : z = 5 := hzn (by omega)
              clear hzs hzn
              go_wp2
              go_meet
              exact ⟨rfl, rfl⟩
          case rest =>
            obtain ⟨rfl, rfl⟩ := hcut
            clear hzs hzn HX4
            go_upto_if 122 with (fail)
            go_cut [21] (fun v wx => v = .int .i64 (kp : Int) ∧ wx = wc)
            case first => as_aux_lemma =>
              by_cases hjx : i < zn
              · have d3 : decide ((i : Int) < (zn : Int)) = true := decide_eq_true (by omega)
                have d3' : decide (i < zn) = true := decide_eq_true hjx
                obtain ⟨x, hx⟩ : ∃ x, zs[i]? = some x := ⟨_, List.getElem?_eq_getElem (by rw [HZN.out]; exact hjx)⟩
                obtain ⟨b, o, rfl, hbl, hc⟩ := HZ4.out (by rw [HZN.out]; omega)
                have r0 := hc i (by rw [HZN.out]; exact hjx)
                rw [List.getD_eq_getElem?_getD, hx] at r0
                simp only [Option.getD_some] at r0
                have hkd := hks x hx
                have e3 : max x 0 = ((max x 0).toNat : Int) := by omega
                generalize (max x 0).toNat = dm at *
                have e4 : min (dm : Int) (z : Int) = (kp : Int) := by omega
                have e4' : min dm z = kp := by omega
                clear hc hx hks hkn hbl hkd
                go_wp2
                go_meet
                exact ⟨rfl, rfl⟩
              · have d3 : decide ((i : Int) < (zn : Int)) = false := decide_eq_false (by omega)
                have d3' : decide (i < zn) = false := decide_eq_false hjx
                obtain rfl : kp = 0 := hkn (by omega)
                clear hks hkn
                go_wp2
                go_meet
                exact ⟨rfl, rfl⟩
            case rest =>
              obtain ⟨rfl, rfl⟩ := hcut
              clear hks hkn HZ4
              have hw8 := w16o i hi16
              have hw9 := w16p i hi16
              generalize wc = W4 at *
              go_upto_region 34 with (fail)
              refine wp_region_ph (by kernel_rfl) [10] [.span 0 0, .span 0 0, .span 0 0, .span 0 1, .span 0 1, .span 0 1, .span 0 1, .span 0 0, .span 0 0, .span 0 0, .phase 0, .span 1 1, .span 1 1, .span 1 1, .span 1 1, .span 1 1, .span 1 1, .span 1 1, .span 1 1, .span 1 1, .span 1 1] [fun z9 => z9 = .int .i64 0, fun z9 => z9 = .bool false, fun z9 => z9 = .bool false, fun z9 => z9 = .slice (some ⟨gL, oL, none⟩) ll ll, fun z9 => z9 = .int .i64 (i : Int), fun z9 => z9 = .pointer (some ⟨gL, oL + i, none⟩), fun z9 => z9 = .string nO, fun z9 => z9 = .int .i64 (i : Int), fun z9 => z9 = .int .u8 (i : Int), fun z9 => z9 = .int .u8 (97 + (i : Int)), fun z9 => ∃ A, z9 = .slice A 1 1, fun z9 => z9 = .string nm, fun z9 => z9 = .string nO, fun z9 => z9 = .bool false, fun z9 => z9 = .bool false, fun z9 => z9 = .bool false, fun z9 => z9 = .slice A4 kp kp, fun z9 => z9 = .int .i64 (kp : Int), fun z9 => z9 = .int .i64 (kp : Int), fun z9 => z9 = .bool false, fun z9 => z9 = .bool false] (IName W4 i) (by kernel_rfl) (by kernel_rfl) (by kernel_rfl) (by kernel_rfl) (by kernel_rfl) (by kernel_rfl) rfl rfl ((show Below W4.heap.size W4 W4.drew from (Below.refl _ _).drew)) ?steps ?done
              case steps =>
                refine ⟨?_, ?_, ?_, ?_, ?_, ?_, ?_, ?_, ?_, ?_, ?_, ?_, ?_, ?_, ?_, ?_, ?_, ?_, ?_, ?_, ?_, trivial⟩
                · intro us au w1 k0 hlo hhi ha hd hst hI
                  obtain rfl : k0 = 0 := by omega
                  have q19 := slot_far (t := 19) (v := .int .i64 0) ha (by kernel_rfl) (by kernel_rfl)
                  have p19 := slot_norm q19
                  clear ha hd hst
                  exact StepI.pure (v := .int .i64 0) rfl rfl (by go_simp) ⟨rfl, hI⟩
                · intro us au w1 k1 hlo hhi ha hd hst hI
                  obtain rfl : k1 = 0 := by omega
                  have e0 := hd 0 _ (by kernel_rfl) rfl
                  have q130 := slot_at (t := 130) 0 ha (by kernel_rfl) (by kernel_rfl) (by kernel_rfl) e0
                  have p130 := slot_norm q130
                  clear ha hd hst
                  exact StepI.pure (v := .bool false) rfl rfl (by go_simp) ⟨rfl, hI⟩
                · intro us au w1 k2 hlo hhi ha hd hst hI
                  obtain rfl : k2 = 0 := by omega
                  have e1 := hd 1 _ (by kernel_rfl) rfl
                  have q131 := slot_at (t := 131) 1 ha (by kernel_rfl) (by kernel_rfl) (by kernel_rfl) e1
                  have p131 := slot_norm q131
                  clear ha hd hst
                  exact StepI.pure (v := .bool false) rfl rfl (by go_simp) ⟨rfl, hI⟩
                · intro us au w1 k3 hlo hhi ha hd hst hI
                  have e2 := hd 2 _ (by kernel_rfl) rfl
                  have q15 := slot_far (t := 15) (v := .slice (some ⟨gL, oL, none⟩) ll ll) ha (by kernel_rfl) (by kernel_rfl)
                  have p15 := slot_norm q15
                  have hg := slot_at (t := 132) 2 ha (by kernel_rfl) (by kernel_rfl) (by kernel_rfl) e2
                  clear ha hd hst
                  exact StepI.pure (v := .slice (some ⟨gL, oL, none⟩) ll ll) rfl (wanted_at rfl rfl hg) (by go_simp) ⟨rfl, hI⟩
                · intro us au w1 k4 hlo hhi ha hd hst hI
                  have e2 := hd 2 _ (by kernel_rfl) rfl
                  have q17 := slot_far (t := 17) (v := .int .i64 (i : Int)) ha (by kernel_rfl) (by kernel_rfl)
                  have p17 := slot_norm q17
                  have hg := slot_at (t := 132) 2 ha (by kernel_rfl) (by kernel_rfl) (by kernel_rfl) e2
                  clear ha hd hst
                  exact StepI.pure (v := .int .i64 (i : Int)) rfl (wanted_at rfl rfl hg) (by go_simp) ⟨rfl, hI⟩
                · intro us au w1 k5 hlo hhi ha hd hst hI
                  have e3 := hd 3 _ (by kernel_rfl) rfl
                  have e4 := hd 4 _ (by kernel_rfl) rfl
                  have e2 := hd 2 _ (by kernel_rfl) rfl
                  have q133 := slot_at (t := 133) 3 ha (by kernel_rfl) (by kernel_rfl) (by kernel_rfl) e3
                  have p133 := slot_norm q133
                  have q134 := slot_at (t := 134) 4 ha (by kernel_rfl) (by kernel_rfl) (by kernel_rfl) e4
                  have p134 := slot_norm q134
                  have hg := slot_at (t := 132) 2 ha (by kernel_rfl) (by kernel_rfl) (by kernel_rfl) e2
                  clear ha hd hst
                  exact StepI.pure (v := .pointer (some ⟨gL, oL + i, none⟩)) rfl (wanted_at rfl rfl hg) (by go_simp) ⟨rfl, hI⟩
                · intro us au w1 k6 hlo hhi ha hd hst hI
                  have e5 := hd 5 _ (by kernel_rfl) rfl
                  have e2 := hd 2 _ (by kernel_rfl) rfl
                  have q135 := slot_at (t := 135) 5 ha (by kernel_rfl) (by kernel_rfl) (by kernel_rfl) e5
                  have p135 := slot_norm q135
                  have hg := slot_at (t := 132) 2 ha (by kernel_rfl) (by kernel_rfl) (by kernel_rfl) e2
                  clear ha hd hst
                  have kk := IName.cell hI HG4.out rs4
                  exact StepI.pure (v := .string nO) rfl (wanted_at rfl rfl hg) (by go_simp) ⟨rfl, hI⟩
                · intro us au w1 k7 hlo hhi ha hd hst hI
                  obtain rfl : k7 = 0 := by omega
                  have e2 := hd 2 _ (by kernel_rfl) rfl
                  have q17 := slot_far (t := 17) (v := .int .i64 (i : Int)) ha (by kernel_rfl) (by kernel_rfl)
                  have p17 := slot_norm q17
                  have hg := slot_at (t := 132) 2 ha (by kernel_rfl) (by kernel_rfl) (by kernel_rfl) e2
                  clear ha hd hst
                  exact StepI.pure (v := .int .i64 (i : Int)) rfl (wanted_at rfl rfl hg) (by go_simp) ⟨rfl, hI⟩
                · intro us au w1 k8 hlo hhi ha hd hst hI
                  obtain rfl : k8 = 0 := by omega
                  have e7 := hd 7 _ (by kernel_rfl) rfl
                  have e2 := hd 2 _ (by kernel_rfl) rfl
                  have q137 := slot_at (t := 137) 7 ha (by kernel_rfl) (by kernel_rfl) (by kernel_rfl) e7
                  have p137 := slot_norm q137
                  have hg := slot_at (t := 132) 2 ha (by kernel_rfl) (by kernel_rfl) (by kernel_rfl) e2
                  clear ha hd hst
                  exact StepI.pure (v := .int .u8 (i : Int)) rfl (wanted_at rfl rfl hg) (by go_simp) ⟨rfl, hI⟩
                · intro us au w1 k9 hlo hhi ha hd hst hI
                  obtain rfl : k9 = 0 := by omega
                  have e8 := hd 8 _ (by kernel_rfl) rfl
                  have e2 := hd 2 _ (by kernel_rfl) rfl
                  have q138 := slot_at (t := 138) 8 ha (by kernel_rfl) (by kernel_rfl) (by kernel_rfl) e8
                  have p138 := slot_norm q138
                  have hg := slot_at (t := 132) 2 ha (by kernel_rfl) (by kernel_rfl) (by kernel_rfl) e2
                  clear ha hd hst
                  exact StepI.pure (v := .int .u8 (97 + (i : Int))) rfl (wanted_at rfl rfl hg) (by go_simp) ⟨rfl, hI⟩
                · intro us au w1 ha hd hst hI
                  have e9 := hd 9 _ (by kernel_rfl) rfl
                  have e2 := hd 2 _ (by kernel_rfl) rfl
                  have q139 := slot_at (t := 139) 9 ha (by kernel_rfl) (by kernel_rfl) (by kernel_rfl) e9
                  have p139 := slot_norm q139
                  have hg := slot_at (t := 132) 2 ha (by kernel_rfl) (by kernel_rfl) (by kernel_rfl) e2
                  clear ha hd hst
                  refine StepI.runs (v := .slice (some ⟨w1.heap.size, 0, none⟩) 1 1) (w' := w1.alloc (.cells #[.int .u8 (97 + (i : Int))] 5)) rfl (wanted_at rfl rfl hg) (by go_simp) ⟨⟨_, rfl⟩, ?_⟩
                  exact IName.new hI
                · intro us au w1 k11 hlo hhi ha hd hst hI
                  obtain rfl : k11 = 1 := by omega
                  obtain ⟨A10, e10⟩ := hd 10 _ (by kernel_rfl) rfl
                  have e2 := hd 2 _ (by kernel_rfl) rfl
                  have q140 := slot_at (t := 140) 10 ha (by kernel_rfl) (by kernel_rfl) (by kernel_rfl) (Eq.refl (us 10))
                  have p140 := slot_norm q140
                  have hg := slot_at (t := 132) 2 ha (by kernel_rfl) (by kernel_rfl) (by kernel_rfl) e2
                  clear ha hd hst
                  have hI2 := hI
                  obtain ⟨hb, A2, hv2, hi2⟩ := hI2
                  rw [e10] at hv2
                  injection hv2 with hA2 _ _
                  subst hA2
                  have cv := HCV.out w1 _ hi2
                  exact StepI.pure (v := .string nm) rfl (wanted_at rfl rfl hg) (by go_simp) ⟨rfl, hI⟩
                · intro us au w1 k12 hlo hhi ha hd hst hI
                  obtain rfl : k12 = 1 := by omega
                  have e11 := hd 11 _ (by kernel_rfl) rfl
                  have e2 := hd 2 _ (by kernel_rfl) rfl
                  have q141 := slot_at (t := 141) 11 ha (by kernel_rfl) (by kernel_rfl) (by kernel_rfl) e11
                  have p141 := slot_norm q141
                  have hg := slot_at (t := 132) 2 ha (by kernel_rfl) (by kernel_rfl) (by kernel_rfl) e2
                  clear ha hd hst
                  have HNO1 := HNO.out
                  exact StepI.pure (v := .string nO) rfl (wanted_at rfl rfl hg) (by go_simp) ⟨rfl, hI⟩
                · intro us au w1 k13 hlo hhi ha hd hst hI
                  obtain rfl : k13 = 1 := by omega
                  have e6 := hd 6 _ (by kernel_rfl) rfl
                  have e12 := hd 12 _ (by kernel_rfl) rfl
                  have e2 := hd 2 _ (by kernel_rfl) rfl
                  have q136 := slot_at (t := 136) 6 ha (by kernel_rfl) (by kernel_rfl) (by kernel_rfl) e6
                  have p136 := slot_norm q136
                  have q142 := slot_at (t := 142) 12 ha (by kernel_rfl) (by kernel_rfl) (by kernel_rfl) e12
                  have p142 := slot_norm q142
                  have hg := slot_at (t := 132) 2 ha (by kernel_rfl) (by kernel_rfl) (by kernel_rfl) e2
                  clear ha hd hst
                  exact StepI.pure (v := .bool false) rfl (wanted_at rfl rfl hg) (by go_simp) ⟨rfl, hI⟩
                · intro us au w1 k14 hlo hhi ha hd hst hI
                  obtain rfl : k14 = 1 := by omega
                  have e2 := hd 2 _ (by kernel_rfl) rfl
                  have e13 := hd 13 _ (by kernel_rfl) rfl
                  have q132 := slot_at (t := 132) 2 ha (by kernel_rfl) (by kernel_rfl) (by kernel_rfl) e2
                  have p132 := slot_norm q132
                  have q143 := slot_at (t := 143) 13 ha (by kernel_rfl) (by kernel_rfl) (by kernel_rfl) e13
                  have p143 := slot_norm q143
                  clear ha hd hst
                  exact StepI.pure (v := .bool false) rfl rfl (by go_simp) ⟨rfl, hI⟩
                · intro us au w1 k15 hlo hhi ha hd hst hI
                  obtain rfl : k15 = 1 := by omega
                  have e14 := hd 14 _ (by kernel_rfl) rfl
                  have q144 := slot_at (t := 144) 14 ha (by kernel_rfl) (by kernel_rfl) (by kernel_rfl) e14
                  have p144 := slot_norm q144
                  clear ha hd hst
                  exact StepI.pure (v := .bool false) rfl rfl (by go_simp) ⟨rfl, hI⟩
                · intro us au w1 k16 hlo hhi ha hd hst hI
                  obtain rfl : k16 = 1 := by omega
                  have e15 := hd 15 _ (by kernel_rfl) rfl
                  have q18 := slot_far (t := 18) (v := .slice A4 kp kp) ha (by kernel_rfl) (by kernel_rfl)
                  have p18 := slot_norm q18
                  have hg := slot_at (t := 145) 15 ha (by kernel_rfl) (by kernel_rfl) (by kernel_rfl) e15
                  clear ha hd hst
                  exact StepI.pure (v := .slice A4 kp kp) rfl (wanted_at rfl rfl hg) (by go_simp) ⟨rfl, hI⟩
                · intro us au w1 k17 hlo hhi ha hd hst hI
                  obtain rfl : k17 = 1 := by omega
                  have e16 := hd 16 _ (by kernel_rfl) rfl
                  have e15 := hd 15 _ (by kernel_rfl) rfl
                  have q146 := slot_at (t := 146) 16 ha (by kernel_rfl) (by kernel_rfl) (by kernel_rfl) e16
                  have p146 := slot_norm q146
                  have hg := slot_at (t := 145) 15 ha (by kernel_rfl) (by kernel_rfl) (by kernel_rfl) e15
                  clear ha hd hst
                  exact StepI.pure (v := .int .i64 (kp : Int)) rfl (wanted_at rfl rfl hg) (by go_simp) ⟨rfl, hI⟩
                · intro us au w1 k18 hlo hhi ha hd hst hI
                  obtain rfl : k18 = 1 := by omega
                  have e15 := hd 15 _ (by kernel_rfl) rfl
                  have q21 := slot_far (t := 21) (v := .int .i64 (kp : Int)) ha (by kernel_rfl) (by kernel_rfl)
                  have p21 := slot_norm q21
                  have hg := slot_at (t := 145) 15 ha (by kernel_rfl) (by kernel_rfl) (by kernel_rfl) e15
                  clear ha hd hst
                  exact StepI.pure (v := .int .i64 (kp : Int)) rfl (wanted_at rfl rfl hg) (by go_simp) ⟨rfl, hI⟩
                · intro us au w1 k19 hlo hhi ha hd hst hI
                  obtain rfl : k19 = 1 := by omega
                  have e17 := hd 17 _ (by kernel_rfl) rfl
                  have e18 := hd 18 _ (by kernel_rfl) rfl
                  have e15 := hd 15 _ (by kernel_rfl) rfl
                  have q147 := slot_at (t := 147) 17 ha (by kernel_rfl) (by kernel_rfl) (by kernel_rfl) e17
                  have p147 := slot_norm q147
                  have q148 := slot_at (t := 148) 18 ha (by kernel_rfl) (by kernel_rfl) (by kernel_rfl) e18
                  have p148 := slot_norm q148
                  have hg := slot_at (t := 145) 15 ha (by kernel_rfl) (by kernel_rfl) (by kernel_rfl) e15
                  clear ha hd hst
                  exact StepI.pure (v := .bool false) rfl (wanted_at rfl rfl hg) (by go_simp) ⟨rfl, hI⟩
                · intro us au w1 k20 hlo hhi ha hd hst hI
                  obtain rfl : k20 = 1 := by omega
                  have e15 := hd 15 _ (by kernel_rfl) rfl
                  have e19 := hd 19 _ (by kernel_rfl) rfl
                  have q145 := slot_at (t := 145) 15 ha (by kernel_rfl) (by kernel_rfl) (by kernel_rfl) e15
                  have p145 := slot_norm q145
                  have q149 := slot_at (t := 149) 19 ha (by kernel_rfl) (by kernel_rfl) (by kernel_rfl) e19
                  have p149 := slot_norm q149
                  clear ha hd hst
                  exact StepI.pure (v := .bool false) rfl rfl (by go_simp) ⟨rfl, hI⟩
              case done =>
                intro us w1 hI hd
                have e20 := hd 20 _ (by decide) rfl
                have HBC : Hid (Below W4.heap.size W4 w1) := Lib.hid hI.below
                have HO5 : Hid (OwnS w1 _ _ _ _ _ _) := Lib.hid (HO4.out.heap (fun k hk => HBC.out.block k (HO4.out.lt k hk).2))
                have HB5 := Lib.hid (HB4.out.trans (HBC.out.mono HB4.out.size))
                clear hd hI HCV hw8 hw9 rs4 HO4
                simp only [putAll]
                go_simp
                go_wp2
                go_loopw [22] (fun vk wr => ∃ (k : Nat), vk = .int .i64 k ∧ k ≤ kp ∧ Below w1.heap.size w1 wr) (fun vk _ => kp - (intOf vk).toNat)
                case atStart => exact ⟨0, rfl, Nat.zero_le _, Below.refl _ _⟩
                case round =>
                  obtain ⟨k, rfl, hk, hbq⟩ := hrel
                  by_cases hkp : k < kp
                  · have dk : decide ((k : Int) < (kp : Int)) = true := decide_eq_true (by omega)
                    have dk' : decide (k < kp) = true := decide_eq_true hkp
                    obtain ⟨gB, oB, cB, hv, _, hgl, hcell⟩ := HO5.out.cells (by rw [HTL.out]; omega)
                    injection hv with hAB _ hcc
                    subst hAB
                    have rb : wr.cell? ⟨gB, oB + k, none⟩ = some (.int .u8 (IntKind.u8.wrap ((i : Int) + (k : Int)))) := by
                      rw [hbq.cell (p := ⟨gB, oB + k, none⟩) hgl, hcell k (by rw [HTL.out]; exact hkp)]
                      exact HTA.out k hkp
                    have hadd : IntKind.i64.wrap ((i : Int) + (k : Int)) = (i : Int) + k := IntWalk.i64_in _ (by omega)
                    generalize hcv : IntKind.u8.wrap ((i : Int) + (k : Int)) = bv at *
                    clear hcell hgl hcc
                    have HBQ := Lib.hid hbq
                    clear hbq
                    go_wp2
                    go_roundw
                    case rel => exact ⟨k + 1, rfl, by omega, HBQ.out⟩
                    case measure => simp [intOf]; omega
                  · obtain rfl : kp = k := by omega
                    have dk : decide ((kp : Int) < (kp : Int)) = false := decide_eq_false (by omega)
                    have dk' : decide (kp < kp) = false := decide_eq_false (by omega)
                    have HBQ := Lib.hid (HB5.out.trans (hbq.mono HB5.out.size))
                    clear hbq
                    go_wp2
                    go_roundw
                    case rel => exact ⟨i + 1, rfl, by omega, HBQ.out⟩
                    case measure => simp [intOf]; omega
        · obtain rfl : i = ll := by omega
          have di : decide ((i : Int) < (i : Int)) = false := decide_eq_false (by omega)
          have di' : decide (i < i) = false := decide_eq_false (by omega)
          have HBE := Lib.hid (HB3.out.trans (hbr.mono HB3.out.size))
          clear hbr
          go_wp2_with (go_at_call 15; refine (awake1_any wr).mono ?_; rintro e w9 ⟨rfl, hb9⟩)
          go_ret
          exact ⟨rfl, HBE.out.trans (hb9.mono HBE.out.size)⟩
end Go.Proofs.Ytmoaabjiokjjlaa
