/- The walk of HuffBack. -/
import Derived.Test.YtdmggpngmlhboaaHufY
import Derived.Test.YtdmggpngmlhboaaHcAwake
namespace Go.Proofs.Ytdmggpngmlhboaa
open Go.RowKit
set_option linter.unusedVariables false
set_option linter.unusedSimpArgs false

theorem Whole.cnt {xs : List Int} (h : Whole xs) : cntB xs = true ∧ cntN xs ≤ 32768 := by
  have hb : cntB xs = true := by
    unfold cntB
    rw [List.all_eq_true]
    intro x hx
    obtain ⟨i, hi⟩ := List.mem_iff_getElem?.1 hx
    have hl := (List.getElem?_eq_some_iff.1 hi).1
    have := h.all i hl
    rw [List.getD_eq_getElem?_getD, hi] at this
    simp only [Option.getD_some] at this
    unfold okLen
    rw [decide_eq_true this.1, decide_eq_true this.2]; rfl
  exact ⟨hb, by rw [← cntW_N xs hb, cntW_good xs hb]; exact h.room⟩
/-- A call between the reads. -/
def ICall (w0 : World) (F : World → Prop) : List Value → World → Prop
  | [], w => w = w0
  | _, w => F w
theorem WH.chg {g B0 : Nat} {w w' : World} {v : Value} {ws : List Nat} {S : Nat → Prop} (h : WH g w B0 v ws) (hc : Chg S w w') (hg : ¬ S g) (hv : ∀ k, v.ownBlock = some k → ¬ S k) : WH g w' B0 v ws := by
  obtain ⟨B, r, hr, hh⟩ := h
  exact ⟨B, r, ⟨hr.cel.chg hc hg, hr.row.chg hc hv⟩, hh⟩
/-- Between the rounds of the writing. -/
structure BkSt (wG w : World) (g : Nat) (L : List Int) (pv v : Value) (put : List Nat) : Prop where
  row : OwnS w g 3 1 pv put.length (put.map fun (x : Nat) => Value.int .i64 (x : Int))
  wr : WH g w g v (textBits L put)
  bel : Below g wG w
  ok : ∀ i ∈ put, i < L.length ∧ 1 ≤ L.getD i 0
theorem BkSt.drew {wG w : World} {g : Nat} {L : List Int} {pv v : Value} {put : List Nat} (h : BkSt wG w g L pv v put) : BkSt wG w.drew g L pv v put :=
  ⟨h.row.drew, h.wr.chg (S := fun _ => False) ((Chg.refl _ w).drew) (fun h => h) (fun _ _ h => h), h.bel.drew, h.ok⟩
theorem textBits_len {L : List Int} (h : ∀ i, i < L.length → L.getD i 0 ≤ 15) : ∀ (put : List Nat), (∀ i ∈ put, i < L.length) → (textBits L put).length ≤ 15 * put.length
  | [], _ => by simp [textBits]
  | i :: put, hp => by
    have h1 := textBits_len h put (fun j hj => hp j (by simp [hj]))
    have h2 := h i (hp i (by simp))
    unfold textBits at h1 ⊢
    rw [List.flatMap_cons, List.length_append, hiBits_length, List.length_cons]
    omega
theorem WH.far {g B0 B1 n : Nat} {w : World} {v pv : Value} {ws : List Nat} {xs : List Value} (h : WH g w B0 v ws) (hr : OwnS w B1 3 1 pv n xs) : (∀ k, pv.ownBlock = some k → ¬ (k = g ∨ v.ownBlock = some k)) ∧ (∀ k, v.ownBlock = some k → B0 ≤ k) := by
  obtain ⟨B, r, h1, h2⟩ := h
  refine ⟨fun k hk hs => ?_, fun k hk => (h1.row.lt k hk).1⟩
  rcases hs with rfl | hs
  · exact hr.ne_cel h1.cel (by decide) hk
  · exact OwnS.types hr h1.row (show 3 ≠ 5 by decide) k hk hs
/-- A symbol's code has been written. -/
theorem BkSt.coded {wG w w' : World} {g : Nat} {L : List Int} {pv v v' : Value} {put : List Nat} (h : BkSt wG w g L pv v put) (hz : g ≤ w.heap.size) (hl : WLeft g w v w' v') :
    OwnS w' g 3 1 pv put.length (put.map fun (x : Nat) => Value.int .i64 (x : Int)) ∧ Below g wG w' := by
  obtain ⟨h1, h2⟩ := h.wr.far h.row
  refine ⟨h.row.chg hl.chg h1, h.bel.trans (hl.chg.below hz (fun k hk hs => ?_))⟩
  rcases hs with rfl | hs
  · omega
  · have := h2 k hs; omega
/-- And noted. -/
theorem BkSt.pushed {wG w w9 : World} {g s : Nat} {L : List Int} {pv pv' v : Value} {put : List Nat} {o : Obj} (hr : OwnS w g 3 1 pv put.length (put.map fun (x : Nat) => Value.int .i64 (x : Int))) (hw : WH g w g v (textBits L (put ++ [s]))) (hb : Below g wG w) (hz : g ≤ w.heap.size) (hok : ∀ i ∈ put ++ [s], i < L.length ∧ 1 ≤ L.getD i 0)
    (hg : (w.alloc o).grownBy w9 pv.ownBlock) (h9 : OwnS w9 g 3 1 pv' (put.length + 1) ((put.map fun (x : Nat) => Value.int .i64 (x : Int)) ++ [.int .i64 (s : Int)])) : BkSt wG w9 g L pv' v (put ++ [s]) := by
  have hc : Chg (fun k => pv.ownBlock = some k) w w9 := ((Chg.refl _ w).alloc o).trans (Chg.of_grown (S := fun k => pv.ownBlock = some k) hg (fun _ h => h)) (fun _ _ h => h)
  obtain ⟨h1, h2⟩ := hw.far hr
  refine ⟨?_, hw.chg hc (fun hk => h1 g hk (.inl rfl)) (fun k hk hs => h1 k hs (.inr hk)), hb.trans (hc.below hz (fun k hk hs => by have := (hr.lt k hs).1; omega)), hok⟩
  rw [List.length_append, List.map_append]
  exact h9
set_option maxRecDepth 100000 in
set_option maxHeartbeats 8000000 in
theorem back_ok (A A' : Option Addr) (c c' : Nat) (xs ys : List Int) (w : World) (h : Ints .i64 w A xs) (hy : Ints .i64 w A' ys) (hok : okX xs) (hp : (bs xs xs.length).length ≤ 2 ^ 15) (hn : xs.length ≤ 60) (hys : ys.length ≤ 9223372036854775806) (hl : Calls Try.prog 11 #[.slice A xs.length c, .int .i64 15] w (LnOk w xs 15)) :
    Calls Try.prog 6 #[.slice A xs.length c, .slice A' ys.length c'] w fun e w' => e = .returned (.bool true) ∧ Below w.heap.size w w' := by
  have hll := lensL_length xs 15
  have hwh := lens_Whole xs (by omega) hp
  obtain ⟨n, hnn⟩ : ∃ n, xs.length = n := ⟨_, rfl⟩
  obtain ⟨m, hmm⟩ : ∃ m, ys.length = m := ⟨_, rfl⟩
  rw [hnn] at hll hl hn ⊢
  rw [hmm] at hys ⊢
  have HNN := Lib.hid hnn
  have HMM := Lib.hid hmm
  have HY := Lib.hid hy
  clear h hy hok hp hnn hmm
  have d60 : decide ((60 : Int) < (n : Int)) = false := decide_eq_false (by omega)
  have d60' : decide (60 < n) = false := decide_eq_false (by omega)
  go_enter Try.func6, Try.ntmps6
  go_wp2_with fail
  refine hl.mono ?_
  rintro e w1 ⟨A1, rfl, hi1, hb1⟩
  rw [HNN.out]
  generalize lensL xs 15 = L at *
  obtain ⟨hcb, hcn⟩ := hwh.cnt
  have hcd := codes_ok A1 n L w1 hi1 hcb (by rw [hll]; omega) hcn
  have hnw := fun w2 (hb : Below w1.heap.size w1 w2) => huffNew_ok A1 n L w2 (hi1.below hb) hcb (by rw [hll]; omega) hcn
  rw [hll] at hcd hnw
  have HWH := Lib.hid hwh
  have HLL := Lib.hid hll
  have HI1 := Lib.hid hi1
  have HB1 := Lib.hid hb1
  have HNW := Lib.hid hnw
  clear hl hi1 hb1 hwh hll hcb hcn hnw
  go_wp2_with fail
  refine hcd.mono ?_
  rintro e w2 ⟨rfl, hcr, hb2⟩
  have hnw := HNW.out w2 hb2
  have HB2 := Lib.hid hb2
  have HCR := Lib.hid hcr
  clear hcd hcr hb2 HNW
  go_wp2_with fail
  refine hnw.mono ?_
  rintro e w3 ⟨⟨gc, rfl, hgc, hrep⟩, hb3⟩
  have hcf : CodeF w3.heap.size gc w3 (firstAt L L.length) (symsAt L L.length) (deepAt L L.length) := ⟨w3, by rw [HLL.out]; exact hrep, rfl, fun _ _ => rfl⟩
  have HCF := Lib.hid hcf
  have HB3 := Lib.hid hb3
  clear hnw hrep hb3 hcf
  have z0 : ((n : Int) != (n : Int)) = false := by simp
  have hb13 : Below w1.heap.size w1 w3 := HB2.out.trans (HB3.out.mono HB2.out.size)
  have hL3 := HI1.out.below hb13
  have hY3 := (HY.out.below HB1.out).below hb13
  have hC3 : Ints .u32 w3 (some ⟨w1.heap.size, 0, none⟩) (codesL L) := (RowI.ints HCR.out).below HB3.out
  have hbw : Below w.heap.size w w3 := HB1.out.trans (hb13.mono HB1.out.size)
  have hg1 : w1.heap.size < w3.heap.size := Nat.lt_of_lt_of_le (RowI.base HCR.out).2 HB3.out.size
  have hgc3 : gc < w3.heap.size := HCF.out.lt
  have HL3 := Lib.hid hL3
  have HY3 := Lib.hid hY3
  have HC3 := Lib.hid hC3
  have HBW := Lib.hid hbw
  clear hb13 hL3 hY3 hC3 hbw HCR HB3 HB2 HB1 HI1 HY hgc
  generalize w1.heap.size = g1 at *
  go_upto_region 11 with (fail)
  have hst : BkSt w3 (w3.alloc (.cells #[.slice none 0 0, .int .u64 0, .int .i64 0] 42)) w3.heap.size L (.slice none 0 0) (.slice none 0 0) [] := by
    refine ⟨OwnS.nil _ _ _ _, ⟨[], [], ⟨?_, OwnS.nil _ _ _ _⟩, Holds.nil⟩, (Below.refl _ _).alloc (Nat.le_refl _) _, fun i hi => by cases hi⟩
    refine Cel.new w3 _ #[.slice none 0 0, .int .u64 0, .int .i64 0] _ (fun i hi => ?_)
    rcases i with _ | _ | _ | i
    · rfl
    · rfl
    · rfl
    · simp at hi; omega
  have HST := Lib.hid hst
  clear hst
  obtain ⟨i0, hi, hz0, hz1, hz2⟩ := info_parts Try.info_Int
  generalize w3.alloc (.cells #[.slice none 0 0, .int .u64 0, .int .i64 0] 42) = w4 at *
  obtain ⟨g, hg⟩ : ∃ g, w3.heap.size = g := ⟨_, rfl⟩
  rw [hg] at HST hg1 hgc3 ⊢
  have HG := Lib.hid hg
  clear hg
  go_wp2
  go_loopw [12, 13] (fun pv iv wr => ∃ (i : Nat) (v : Value) (put : List Nat), iv = .int .i64 i ∧ i ≤ m ∧ i ≤ 100 ∧ put.length ≤ i ∧ BkSt w3 wr g L pv v put) (fun _ iv _ => 100 - (intOf iv).toNat)
  case atStart => exact ⟨0, .slice none 0 0, [], rfl, Nat.zero_le _, Nat.zero_le _, Nat.zero_le _, HST.out⟩
  case round =>
    clear HST
    obtain ⟨i, v, put, rfl, him, hi100, hpl, hst⟩ := hrel
    by_cases hlt : i < m ∧ i < 100
    · obtain ⟨hlm, hl100⟩ := hlt
      have q1 : decide ((i : Int) < (m : Int)) = true := decide_eq_true (by omega)
      have q1' : decide (i < m) = true := decide_eq_true hlm
      have q2 : decide ((i : Int) < 100) = true := decide_eq_true (by omega)
      have q2' : decide (i < 100) = true := decide_eq_true hl100
      obtain ⟨by_, oy, hAy, hby, hcy⟩ := HY3.out (by rw [HMM.out]; omega)
      have hyc : ∀ w', Below g w3 w' → w'.cell? ⟨by_, oy + i, none⟩ = some (.int .i64 (ys.getD i 0)) := fun w' hb => (Below.cell (p := ⟨by_, oy + i, none⟩) hb (by rw [← HG.out]; exact hby)).trans (hcy i (by rw [HMM.out]; exact hlm))
      subst hAy
      obtain ⟨y, hyv⟩ : ∃ y, ys.getD i 0 = y := ⟨_, rfl⟩
      rw [hyv] at hyc
      have HYC := Lib.hid hyc
      have cy := hyc wr hst.bel
      have HS := Lib.hid hst
      clear hyc hcy hyv hst hby
      have t0 : (0 : Int) ≤ (i : Int) := by omega
      have t1 : (i : Int) < (m : Int) := by omega
      by_cases hy0 : 0 ≤ y
      · by_cases hyn : y < n
        · obtain ⟨s, rfl⟩ : ∃ s : Nat, y = s := ⟨y.toNat, by omega⟩
          have hsn : s < n := by omega
          obtain ⟨bl, ol, hAl, hbl, hcl⟩ := HL3.out (by rw [HLL.out]; omega)
          have hlc : ∀ w', Below g w3 w' → w'.cell? ⟨bl, ol + s, none⟩ = some (.int .i64 (L.getD s 0)) := fun w' hb => (Below.cell (p := ⟨bl, ol + s, none⟩) hb (by rw [← HG.out]; exact hbl)).trans (hcl s (by rw [HLL.out]; exact hsn))
          subst hAl
          obtain ⟨l, hlv⟩ : ∃ l, L.getD s 0 = l := ⟨_, rfl⟩
          rw [hlv] at hlc
          have HLC := Lib.hid hlc
          have cl := hlc wr HS.out.bel
          have hl15 := HWH.out.all s (by rw [HLL.out]; exact hsn)
          rw [hlv] at hl15
          have HLV := Lib.hid hlv
          clear hcl hlc hlv hbl
          have r1 : decide ((0 : Int) ≤ (s : Int)) = true := decide_eq_true (by omega)
          have r2 : decide ((s : Int) < (n : Int)) = true := decide_eq_true (by omega)
          have r2' : decide (s < n) = true := decide_eq_true hsn
          have r20 : (0 : Int) ≤ (s : Int) := by omega
          have r21 : (s : Int) < (n : Int) := by omega
          by_cases hl0 : 0 < l
          · have r3 : decide (0 < l) = true := decide_eq_true hl0
            obtain ⟨ll, rfl⟩ : ∃ k : Nat, l = k := ⟨l.toNat, by omega⟩
            have hcw : codeN L s < 2 ^ ll := codeN_lt HWH.out (by rw [HLL.out]; exact hsn) HLV.out (by omega)
            have hpw : 2 ^ ll ≤ 2 ^ 15 := Nat.pow_le_pow_right (by decide) (by omega)
            obtain ⟨cn, hcn⟩ : ∃ k, codeN L s = k := ⟨_, rfl⟩
            have hcc : ∀ w', Below g w3 w' → w'.cell? ⟨g1, s, none⟩ = some (.int .u32 (cn : Int)) := fun w' hb => by
              obtain ⟨bc, oc, hAc, hbc, hcc⟩ := HC3.out (by rw [codesL_len, HLL.out]; omega)
              injection hAc with hAc
              injection hAc with hA1 hA2
              subst hA1; subst hA2
              have h1 := hcc s (by rw [codesL_len, HLL.out]; exact hsn)
              rw [Nat.zero_add, (code_nat HWH.out (by rw [HLL.out]; exact hsn) HLV.out (by omega)).1] at h1
              rw [(Below.cell (p := ⟨g1, s, none⟩) hb hg1).trans h1]
              congr 2
              have := (code_nat HWH.out (i := s) (l := ll) (by rw [HLL.out]; exact hsn) HLV.out (by omega)).1
              unfold codeN at hcn
              omega
            have hcx : cn < 4294967296 := by rw [← hcn]; omega
            have htx : textBits L (put ++ [s]) = textBits L put ++ hiBits cn ll := by rw [textBits_snoc, hcn, HLV.out]; rfl
            have htl := textBits_len (L := L) (fun i hi => (HWH.out.all i hi).2) put (fun i hi => (HS.out.ok i hi).1)
            have hz9 : g ≤ wr.drew.heap.size := by rw [← HG.out]; have := HS.out.bel.size; exact this
            have hcode := code_any g g cn ll wr.drew v (textBits L put) HS.out.drew.wr (by omega) (by omega) hcx hz9
            have hokp : ∀ j ∈ put ++ [s], j < L.length ∧ 1 ≤ L.getD j 0 := fun j hj => by
              rcases List.mem_append.1 hj with hj | hj
              · exact HS.out.ok j hj
              · rw [List.mem_singleton.1 hj, HLV.out, HLL.out]; exact ⟨hsn, by omega⟩
            have C1 : Hid (wr.drew.cell? ⟨by_, oy + i, none⟩ = some (.int .i64 (s : Int))) := cy
            have C2 : Hid (wr.drew.cell? ⟨bl, ol + s, none⟩ = some (.int .i64 (ll : Int))) := cl
            have C3 : Hid (wr.drew.cell? ⟨g1, s, none⟩ = some (.int .u32 (cn : Int))) := hcc _ HS.out.bel.drew
            have HCODE := Lib.hid hcode
            have HTX := Lib.hid htx
            have HOKP := Lib.hid hokp
            clear hcw hpw hcn hcc htx htl hcode hokp
            obtain ⟨pv1, pv2, rfl⟩ := HS.out.row.shape
            obtain ⟨np, hnp⟩ : ∃ k, put.length = k := ⟨_, rfl⟩
            rw [hnp] at hpl ⊢
            have HNP := Lib.hid hnp
            clear hnp
            go_upto_region 16 with (fail)
            clear cy cl
            refine wp_region_ph (by kernel_rfl) [14] [.span 0 0, .span 0 0, .span 0 0, .span 0 0, .span 0 0, .span 0 0, .span 0 0, .span 0 0, .span 0 0, .span 0 0, .span 0 0, .span 0 0, .span 0 0, .span 0 0, .phase 0] [fun z9 => z9 = .slice (some ⟨g1, 0, none⟩) n n, fun z9 => z9 = .slice (some ⟨by_, oy, none⟩) m c', fun z9 => z9 = .int .i64 (i), fun z9 => z9 = .pointer (some ⟨by_, oy + i, none⟩), fun z9 => z9 = .int .i64 (s), fun z9 => z9 = .pointer (some ⟨g1, s, none⟩), fun z9 => z9 = .int .u32 (cn), fun z9 => z9 = .slice (some ⟨bl, ol, none⟩) n n, fun z9 => z9 = .slice (some ⟨by_, oy, none⟩) m c', fun z9 => z9 = .int .i64 (i), fun z9 => z9 = .pointer (some ⟨by_, oy + i, none⟩), fun z9 => z9 = .int .i64 (s), fun z9 => z9 = .pointer (some ⟨bl, ol + s, none⟩), fun z9 => z9 = .int .i64 (ll), fun _ => True] (ICall wr.drew (fun w => ∃ v2, WH g w g v2 (textBits L put ++ hiBits cn ll) ∧ WLeft g wr.drew v w v2)) (by kernel_rfl) (by kernel_rfl) (by kernel_rfl) (by kernel_rfl) (by kernel_rfl) (by kernel_rfl) rfl rfl (rfl) ?steps ?done
            case steps =>
              refine ⟨?_, ?_, ?_, ?_, ?_, ?_, ?_, ?_, ?_, ?_, ?_, ?_, ?_, ?_, ?_, trivial⟩
              · intro us au w1 k0 hlo hhi ha hd hst hI
                obtain rfl : k0 = 0 := by omega
                have q7 := slot_far (t := 7) (v := .slice (some ⟨g1, 0, none⟩) n n) ha (by kernel_rfl) (by kernel_rfl)
                have p7 := slot_norm q7
                clear ha hd hst
                exact StepI.pure (v := .slice (some ⟨g1, 0, none⟩) n n) rfl rfl (by go_simp) ⟨rfl, hI⟩
              · intro us au w1 k1 hlo hhi ha hd hst hI
                obtain rfl : k1 = 0 := by omega
                have q1 := slot_far (t := 1) (v := .slice (some ⟨by_, oy, none⟩) m c') ha (by kernel_rfl) (by kernel_rfl)
                have p1 := slot_norm q1
                clear ha hd hst
                exact StepI.pure (v := .slice (some ⟨by_, oy, none⟩) m c') rfl rfl (by go_simp) ⟨rfl, hI⟩
              · intro us au w1 k2 hlo hhi ha hd hst hI
                obtain rfl : k2 = 0 := by omega
                have q13 := slot_far (t := 13) (v := .int .i64 (i)) ha (by kernel_rfl) (by kernel_rfl)
                have p13 := slot_norm q13
                clear ha hd hst
                exact StepI.pure (v := .int .i64 (i)) rfl rfl (by go_simp) ⟨rfl, hI⟩
              · intro us au w1 k3 hlo hhi ha hd hst hI
                obtain rfl : k3 = 0 := by omega
                have e1 := hd 1 _ (by kernel_rfl) rfl
                have e2 := hd 2 _ (by kernel_rfl) rfl
                have q99 := slot_at (t := 99) 1 ha (by kernel_rfl) (by kernel_rfl) (by kernel_rfl) e1
                have p99 := slot_norm q99
                have q100 := slot_at (t := 100) 2 ha (by kernel_rfl) (by kernel_rfl) (by kernel_rfl) e2
                have p100 := slot_norm q100
                clear ha hd hst
                exact StepI.pure (v := .pointer (some ⟨by_, oy + i, none⟩)) rfl rfl (by go_simp) ⟨rfl, hI⟩
              · intro us au w1 k4 hlo hhi ha hd hst hI
                obtain rfl : k4 = 0 := by omega
                have e3 := hd 3 _ (by kernel_rfl) rfl
                have q101 := slot_at (t := 101) 3 ha (by kernel_rfl) (by kernel_rfl) (by kernel_rfl) e3
                have p101 := slot_norm q101
                clear ha hd hst
                have c1 := (congrArg (fun w => World.cell? w ⟨by_, oy + i, none⟩) (show w1 = _ from hI)).trans C1.out
                exact StepI.pure (v := .int .i64 (s)) rfl rfl (by go_simp) ⟨rfl, hI⟩
              · intro us au w1 k5 hlo hhi ha hd hst hI
                obtain rfl : k5 = 0 := by omega
                have e0 := hd 0 _ (by kernel_rfl) rfl
                have e4 := hd 4 _ (by kernel_rfl) rfl
                have q98 := slot_at (t := 98) 0 ha (by kernel_rfl) (by kernel_rfl) (by kernel_rfl) e0
                have p98 := slot_norm q98
                have q102 := slot_at (t := 102) 4 ha (by kernel_rfl) (by kernel_rfl) (by kernel_rfl) e4
                have p102 := slot_norm q102
                clear ha hd hst
                exact StepI.pure (v := .pointer (some ⟨g1, s, none⟩)) rfl rfl (by go_simp) ⟨rfl, hI⟩
              · intro us au w1 k6 hlo hhi ha hd hst hI
                obtain rfl : k6 = 0 := by omega
                have e5 := hd 5 _ (by kernel_rfl) rfl
                have q103 := slot_at (t := 103) 5 ha (by kernel_rfl) (by kernel_rfl) (by kernel_rfl) e5
                have p103 := slot_norm q103
                clear ha hd hst
                have c1 := (congrArg (fun w => World.cell? w ⟨g1, s, none⟩) (show w1 = _ from hI)).trans C3.out
                exact StepI.pure (v := .int .u32 (cn)) rfl rfl (by go_simp) ⟨rfl, hI⟩
              · intro us au w1 k7 hlo hhi ha hd hst hI
                obtain rfl : k7 = 0 := by omega
                have q5 := slot_far (t := 5) (v := .slice (some ⟨bl, ol, none⟩) n n) ha (by kernel_rfl) (by kernel_rfl)
                have p5 := slot_norm q5
                clear ha hd hst
                exact StepI.pure (v := .slice (some ⟨bl, ol, none⟩) n n) rfl rfl (by go_simp) ⟨rfl, hI⟩
              · intro us au w1 k8 hlo hhi ha hd hst hI
                obtain rfl : k8 = 0 := by omega
                have q1 := slot_far (t := 1) (v := .slice (some ⟨by_, oy, none⟩) m c') ha (by kernel_rfl) (by kernel_rfl)
                have p1 := slot_norm q1
                clear ha hd hst
                exact StepI.pure (v := .slice (some ⟨by_, oy, none⟩) m c') rfl rfl (by go_simp) ⟨rfl, hI⟩
              · intro us au w1 k9 hlo hhi ha hd hst hI
                obtain rfl : k9 = 0 := by omega
                have q13 := slot_far (t := 13) (v := .int .i64 (i)) ha (by kernel_rfl) (by kernel_rfl)
                have p13 := slot_norm q13
                clear ha hd hst
                exact StepI.pure (v := .int .i64 (i)) rfl rfl (by go_simp) ⟨rfl, hI⟩
              · intro us au w1 k10 hlo hhi ha hd hst hI
                obtain rfl : k10 = 0 := by omega
                have e8 := hd 8 _ (by kernel_rfl) rfl
                have e9 := hd 9 _ (by kernel_rfl) rfl
                have q106 := slot_at (t := 106) 8 ha (by kernel_rfl) (by kernel_rfl) (by kernel_rfl) e8
                have p106 := slot_norm q106
                have q107 := slot_at (t := 107) 9 ha (by kernel_rfl) (by kernel_rfl) (by kernel_rfl) e9
                have p107 := slot_norm q107
                clear ha hd hst
                exact StepI.pure (v := .pointer (some ⟨by_, oy + i, none⟩)) rfl rfl (by go_simp) ⟨rfl, hI⟩
              · intro us au w1 k11 hlo hhi ha hd hst hI
                obtain rfl : k11 = 0 := by omega
                have e10 := hd 10 _ (by kernel_rfl) rfl
                have q108 := slot_at (t := 108) 10 ha (by kernel_rfl) (by kernel_rfl) (by kernel_rfl) e10
                have p108 := slot_norm q108
                clear ha hd hst
                have c1 := (congrArg (fun w => World.cell? w ⟨by_, oy + i, none⟩) (show w1 = _ from hI)).trans C1.out
                exact StepI.pure (v := .int .i64 (s)) rfl rfl (by go_simp) ⟨rfl, hI⟩
              · intro us au w1 k12 hlo hhi ha hd hst hI
                obtain rfl : k12 = 0 := by omega
                have e7 := hd 7 _ (by kernel_rfl) rfl
                have e11 := hd 11 _ (by kernel_rfl) rfl
                have q105 := slot_at (t := 105) 7 ha (by kernel_rfl) (by kernel_rfl) (by kernel_rfl) e7
                have p105 := slot_norm q105
                have q109 := slot_at (t := 109) 11 ha (by kernel_rfl) (by kernel_rfl) (by kernel_rfl) e11
                have p109 := slot_norm q109
                clear ha hd hst
                exact StepI.pure (v := .pointer (some ⟨bl, ol + s, none⟩)) rfl rfl (by go_simp) ⟨rfl, hI⟩
              · intro us au w1 k13 hlo hhi ha hd hst hI
                obtain rfl : k13 = 0 := by omega
                have e12 := hd 12 _ (by kernel_rfl) rfl
                have q110 := slot_at (t := 110) 12 ha (by kernel_rfl) (by kernel_rfl) (by kernel_rfl) e12
                have p110 := slot_norm q110
                clear ha hd hst
                have c1 := (congrArg (fun w => World.cell? w ⟨bl, ol + s, none⟩) (show w1 = _ from hI)).trans C2.out
                exact StepI.pure (v := .int .i64 (ll)) rfl rfl (by go_simp) ⟨rfl, hI⟩
              · intro us au w1 ha hd hst hI
                have e6 := hd 6 _ (by kernel_rfl) rfl
                have e13 := hd 13 _ (by kernel_rfl) rfl
                have q11 := slot_far (t := 11) (v := .pointer (some ⟨g, 0, none⟩)) ha (by kernel_rfl) (by kernel_rfl)
                have p11 := slot_norm q11
                have q104 := slot_at (t := 104) 6 ha (by kernel_rfl) (by kernel_rfl) (by kernel_rfl) e6
                have p104 := slot_norm q104
                have q111 := slot_at (t := 111) 13 ha (by kernel_rfl) (by kernel_rfl) (by kernel_rfl) e13
                have p111 := slot_norm q111
                clear ha hd hst
                have hw1 : w1 = wr.drew := hI
                subst hw1
                refine StepI.call (f := 18) (args := #[.pointer (some ⟨g, 0, none⟩), .int .u32 (cn : Int), .int .i64 (ll : Int)]) rfl rfl (by go_simp) ?_
                refine HCODE.out.mono ?_
                rintro e w' ⟨rfl, v2, hw2, hl2⟩
                exact ⟨_, rfl, trivial, v2, hw2, hl2⟩
            case done =>
              intro us w1 hI hd
              obtain ⟨v2, hw2, hl2⟩ := hI
              have hcd := HS.out.drew.coded hz9 hl2
              have hzq : g ≤ w1.heap.size := Nat.le_trans hz9 hl2.chg.size
              have cy := HYC.out w1 hcd.2
              rw [← HTX.out] at hw2
              have hr2 := hcd.1
              rw [HNP.out] at hr2
              have HR2 := Lib.hid (hr2.alloc (.cells #[.int .i64 (s : Int)] 3))
              have hsr := Src.one_new (P := Try.prog) (w := w1) (u := .int .i64 (s : Int)) (t := 3) rfl
              have HSR := Lib.hid hsr
              have hmk : ∀ (pv' : Value) (w9 : World), (w1.alloc (.cells #[.int .i64 (s : Int)] 3)).grownBy w9 (Value.slice pv1 np pv2).ownBlock → OwnS w9 g 3 1 pv' (np + 1) ((put.map fun (x : Nat) => Value.int .i64 (x : Int)) ++ [.int .i64 (s : Int)]) → BkSt w3 w9 g L pv' v2 (put ++ [s]) := fun pv' w9 hg h9 => by
                refine BkSt.pushed (pv := .slice pv1 np pv2) ?_ hw2 hcd.2 hzq HOKP.out hg ?_
                · rw [HNP.out]; exact hr2
                · rw [HNP.out]; exact h9
              have HMK := Lib.hid hmk
              have hz3 : g ≤ (w1.alloc (.cells #[.int .i64 (s : Int)] 3)).heap.size := by simp; omega
              have hmx1 : np + 1 ≤ maxLen := by unfold maxLen; omega
              have hmx2 : (np + 1) * 8 ≤ 140737488355328 := by omega
              clear hd hw2 hl2 hcd hr2 hsr hmk C1 C2 C3 HCODE HTX
              simp only [putAll]
              go_simp
              go_wp2_with (at_builtin; refine wpList_append_S rfl (.tmp 113) (.tmp 118) 23 23 rfl i0 _ 8 (.slice 3) Try.underlying23 Try.underlying23 (fun _ h => by cases h) hi hz0 hz1 hz2 rfl rfl rfl HR2.out HSR.out hmx1 hmx2 hz3 ?_; intro A9 c9 w9 ho9 hg9 hw9; have hB9 := Lib.hid (HMK.out _ _ hg9 ho9))
              go_roundw
              case rel => exact ⟨i + 1, v2, put ++ [s], by go_num, by omega, by omega, by rw [List.length_append, HNP.out]; simp; omega, hB9.out⟩
              case measure => simp [intOf]; omega
          · have r3 : decide (0 < l) = false := decide_eq_false hl0
            go_wp2
            go_roundw
            case rel => exact ⟨i + 1, v, put, by go_num, by omega, by omega, by omega, HS.out⟩
            case measure => simp [intOf]; omega
        · have r1 : decide ((0 : Int) ≤ y) = true := decide_eq_true hy0
          have r2 : decide (y < (n : Int)) = false := decide_eq_false hyn
          go_wp2
          go_roundw
          case rel => exact ⟨i + 1, v, put, by go_num, by omega, by omega, by omega, HS.out⟩
          case measure => simp [intOf]; omega
      · have r1 : decide ((0 : Int) ≤ y) = false := decide_eq_false hy0
        go_wp2
        go_roundw
        case rel => exact ⟨i + 1, v, put, by go_num, by omega, by omega, by omega, HS.out⟩
        case measure => simp [intOf]; omega
    · have hstop : (i < m → ¬ i < 100) := fun h1 h2 => hlt ⟨h1, h2⟩
      obtain ⟨pv1, pv2, rfl⟩ := hst.row.shape
      obtain ⟨B, r, hrep, hho⟩ := hst.wr
      have htl := textBits_len (L := L) (fun i hi => (HWH.out.all i hi).2) put (fun i hi => (hst.ok i hi).1)
      have hBl : B.length ≤ 1000000 := by have := hho.len; omega
      have hby := wbytes_any g g wr v B r _ hrep hho hBl
      obtain ⟨hat1, hat2, hat3⟩ := hho.at_
      have hrd := fun (k j : Nat) (hk : put[k]? = some j) => rd_text HWH.out hst.ok hat1 hat3 hk
      have hblen : (bytesB B r).length ≤ 1000001 := by
        unfold bytesB
        split
        · omega
        · rw [List.length_append, List.length_singleton]; omega
      generalize bytesB B r = bs at *
      have hB256 : Bytes (bs.map fun (x : Nat) => (x : Int)) := fun x hx => by
        obtain ⟨y, hy, rfl⟩ := List.mem_map.1 hx
        have := hat2 y hy
        omega
      obtain ⟨np, hnp⟩ : ∃ k, put.length = k := ⟨_, rfl⟩
      have hrow := hst.row
      rw [hnp] at hrow
      have hbelw := hst.bel
      have HRD := Lib.hid hrd
      have HB256 := Lib.hid hB256
      have HROW := Lib.hid hrow
      have HBEL := Lib.hid hbelw
      have HLE := Lib.hid hat1
      have HNP := Lib.hid hnp
      rw [hnp]
      have hpl' : np ≤ 100 := by omega
      clear hst hrep hho htl hBl hat1 hat2 hat3 hrd hB256 hrow hbelw hnp hlt
      have hgo : Calls Try.prog 20 #[.pointer (some ⟨g, 0, none⟩)] wr (BytesPost wr bs) := hby
      clear hby
      have hzw : g ≤ wr.heap.size := by rw [← HG.out]; exact HBEL.out.size
      by_cases hb2 : i < m
      · have q1 : decide ((i : Int) < (m : Int)) = true := decide_eq_true (by omega)
        have q1' : decide (i < m) = true := decide_eq_true hb2
        have q2 : decide ((i : Int) < 100) = false := decide_eq_false (by have := hstop hb2; omega)
        have q2' : decide (i < 100) = false := decide_eq_false (hstop hb2)
        clear hstop
        go_wp2_with fail
        refine hgo.mono ?_
        rintro e w5 ⟨A5, c5, rfl, hin5, hb5⟩
        have hr := bitsRead_any A5 c5 (bs.map fun (x : Nat) => (x : Int)) w5 hin5 (by rw [List.length_map]; omega)
        rw [List.length_map] at hr
        have HB5 := Lib.hid hb5
        clear hgo hin5 hb5
        go_wp2_with fail
        refine hr.mono ?_
        rintro e w6 ⟨⟨g7, rfl, hg7, hr7⟩, hb6⟩
        have hb36 : Below g w3 w6 := HBEL.out.trans ((HB5.out.trans (hb6.mono HB5.out.size)).mono hzw)
        have hcf6 : CodeF g gc w6 (firstAt L L.length) (symsAt L L.length) (deepAt L L.length) := by
          rw [← HG.out] at hb36 ⊢
          exact HCF.out.same (fun k hk => hb36.block k hk)
        have hrow6 := HROW.out.chg (S := fun _ => False) (Chg.of_below (HB5.out.trans (hb6.mono HB5.out.size))) (fun _ _ h => h)
        have hzr : wr.heap.size ≤ g7 := Nat.le_trans HB5.out.size hg7
        have hput7 : ∀ k, (Value.slice pv1 np pv2).ownBlock = some k → ¬ k = g7 := fun k hk hs => by have := (HROW.out.lt k hk).2; omega
        have h0 : RdRep 92 g7 g7 w6 (bs.map fun (x : Nat) => (x : Int)) (textBits L (put.take 0)).length := by
          rw [List.take_zero]; exact hr7
        have H0 := Lib.hid h0
        have HB36 := Lib.hid hb36
        have HCF6 := Lib.hid hcf6
        have HROW6 := Lib.hid hrow6
        have HPUT7 := Lib.hid hput7
        have hg6 : g7 < w6.heap.size := hr7.blk
        have hgs : g ≤ w6.heap.size := Nat.le_trans hzw (Nat.le_trans hzr (Nat.le_of_lt hg6))
        clear hr hb36 hcf6 hrow6 hput7 h0 hr7 hb6 HCF HROW hg7
        go_wp2
        go_loopw [15] (fun kv wx => ∃ k : Nat, kv = .int .i64 k ∧ k ≤ np ∧ (textBits L (put.take k)).length ≤ 8 * (bs.map fun (x : Nat) => (x : Int)).length ∧ RdRep 92 g7 g7 wx (bs.map fun (x : Nat) => (x : Int)) (textBits L (put.take k)).length ∧ Chg (fun q => q = g7) w6 wx) (fun kv _ => np - (intOf kv).toNat)
        case atStart => exact ⟨0, rfl, Nat.zero_le _, by rw [List.take_zero]; exact Nat.zero_le _, H0.out, Chg.refl _ _⟩
        case round =>
          clear H0
          obtain ⟨k, rfl, hk, hpl8, hrr, hch⟩ := hrel
          by_cases hlk : k < np
          · obtain ⟨j, hj⟩ : ∃ j, put[k]? = some j := ⟨put[k]'(by have := HNP.out; omega), List.getElem?_eq_getElem (by have := HNP.out; omega)⟩
            have hrdk := HRD.out k j hj
            have hcfx := HCF6.out.chg hch hgs (fun q hq hs => by omega)
            have hread := codeRead_any g gc g7 g7 L (bs.map fun (x : Nat) => (x : Int)) _ wr hcfx hrr (by omega) HB256.out HWH.out.all HWH.out.n hpl8 (by rw [List.length_map]; omega)
            have hnext := rd_place L (bs.map fun (x : Nat) => (x : Int)) 15 0 _ hpl8
            unfold ReadPost at hread
            rw [hrdk] at hread hnext
            simp only at hread hnext
            have hrowx := HROW6.out.chg hch HPUT7.out
            obtain ⟨gp, op, cp, hvp, _, hgp, hcp⟩ := hrowx.cells (by rw [List.length_map]; have := HNP.out; omega)
            injection hvp with hAp _ hcpp
            subst hAp; subst hcpp
            have hck := hcp k (by rw [List.length_map]; have := HNP.out; omega)
            rw [List.getElem?_map, hj] at hck
            simp only [Option.map_some] at hck
            have hgp7 : gp ≠ g7 := HPUT7.out gp rfl
            have HCK := Lib.hid hck
            have HCH := Lib.hid hch
            have HNX := Lib.hid hnext
            have k0 : (0 : Int) ≤ (k : Int) := by omega
            have k1 : (k : Int) < (np : Int) := by omega
            clear hj hrdk hcfx hrr hpl8 hnext hrowx hcp hck hch
            go_wp2_with fail
            refine hread.mono ?_
            rintro e w7 ⟨rfl, hrr7, hch7⟩
            have hck7 : w7.cell? ⟨gp, op + k, none⟩ = some (.int .i64 (j : Int)) := (World.cell?_of_block (hch7.block gp hgp hgp7)).trans HCK.out
            have HRR7 := Lib.hid hrr7
            have HCH7 := Lib.hid (HCH.out.trans hch7 (fun _ _ h => h))
            have jj : ((j : Int) != (j : Int)) = false := by simp
            clear hread hrr7 hch7
            go_wp2
            go_roundw
            case rel => exact ⟨k + 1, by go_num, by omega, HNX.out, HRR7.out, HCH7.out⟩
            case measure => simp [intOf]; omega
          · obtain rfl : k = np := by omega
            have hb6x : Below g w6 wr := hch.below hgs (fun q hq hs => by omega)
            have hbx := HBW.out.trans ((HB36.out.trans hb6x).mono (by rw [← HG.out]; exact HBW.out.size))
            have HBX := Lib.hid hbx
            clear hrr hch hb6x hbx
            go_wp2_with (go_at_call 12; refine (awake5_any _).mono ?_; rintro e w8 ⟨rfl, hb8⟩)
            go_ret
            exact ⟨rfl, HBX.out.trans (hb8.mono HBX.out.size)⟩
      · have q1 : decide ((i : Int) < (m : Int)) = false := decide_eq_false (by omega)
        have q1' : decide (i < m) = false := decide_eq_false hb2
        clear hstop
        go_wp2_with fail
        refine hgo.mono ?_
        rintro e w5 ⟨A5, c5, rfl, hin5, hb5⟩
        have hr := bitsRead_any A5 c5 (bs.map fun (x : Nat) => (x : Int)) w5 hin5 (by rw [List.length_map]; omega)
        rw [List.length_map] at hr
        have HB5 := Lib.hid hb5
        clear hgo hin5 hb5
        go_wp2_with fail
        refine hr.mono ?_
        rintro e w6 ⟨⟨g7, rfl, hg7, hr7⟩, hb6⟩
        have hb36 : Below g w3 w6 := HBEL.out.trans ((HB5.out.trans (hb6.mono HB5.out.size)).mono hzw)
        have hcf6 : CodeF g gc w6 (firstAt L L.length) (symsAt L L.length) (deepAt L L.length) := by
          rw [← HG.out] at hb36 ⊢
          exact HCF.out.same (fun k hk => hb36.block k hk)
        have hrow6 := HROW.out.chg (S := fun _ => False) (Chg.of_below (HB5.out.trans (hb6.mono HB5.out.size))) (fun _ _ h => h)
        have hzr : wr.heap.size ≤ g7 := Nat.le_trans HB5.out.size hg7
        have hput7 : ∀ k, (Value.slice pv1 np pv2).ownBlock = some k → ¬ k = g7 := fun k hk hs => by have := (HROW.out.lt k hk).2; omega
        have h0 : RdRep 92 g7 g7 w6 (bs.map fun (x : Nat) => (x : Int)) (textBits L (put.take 0)).length := by
          rw [List.take_zero]; exact hr7
        have H0 := Lib.hid h0
        have HB36 := Lib.hid hb36
        have HCF6 := Lib.hid hcf6
        have HROW6 := Lib.hid hrow6
        have HPUT7 := Lib.hid hput7
        have hg6 : g7 < w6.heap.size := hr7.blk
        have hgs : g ≤ w6.heap.size := Nat.le_trans hzw (Nat.le_trans hzr (Nat.le_of_lt hg6))
        clear hr hb36 hcf6 hrow6 hput7 h0 hr7 hb6 HCF HROW hg7
        go_wp2
        go_loopw [15] (fun kv wx => ∃ k : Nat, kv = .int .i64 k ∧ k ≤ np ∧ (textBits L (put.take k)).length ≤ 8 * (bs.map fun (x : Nat) => (x : Int)).length ∧ RdRep 92 g7 g7 wx (bs.map fun (x : Nat) => (x : Int)) (textBits L (put.take k)).length ∧ Chg (fun q => q = g7) w6 wx) (fun kv _ => np - (intOf kv).toNat)
        case atStart => exact ⟨0, rfl, Nat.zero_le _, by rw [List.take_zero]; exact Nat.zero_le _, H0.out, Chg.refl _ _⟩
        case round =>
          clear H0
          obtain ⟨k, rfl, hk, hpl8, hrr, hch⟩ := hrel
          by_cases hlk : k < np
          · obtain ⟨j, hj⟩ : ∃ j, put[k]? = some j := ⟨put[k]'(by have := HNP.out; omega), List.getElem?_eq_getElem (by have := HNP.out; omega)⟩
            have hrdk := HRD.out k j hj
            have hcfx := HCF6.out.chg hch hgs (fun q hq hs => by omega)
            have hread := codeRead_any g gc g7 g7 L (bs.map fun (x : Nat) => (x : Int)) _ wr hcfx hrr (by omega) HB256.out HWH.out.all HWH.out.n hpl8 (by rw [List.length_map]; omega)
            have hnext := rd_place L (bs.map fun (x : Nat) => (x : Int)) 15 0 _ hpl8
            unfold ReadPost at hread
            rw [hrdk] at hread hnext
            simp only at hread hnext
            have hrowx := HROW6.out.chg hch HPUT7.out
            obtain ⟨gp, op, cp, hvp, _, hgp, hcp⟩ := hrowx.cells (by rw [List.length_map]; have := HNP.out; omega)
            injection hvp with hAp _ hcpp
            subst hAp; subst hcpp
            have hck := hcp k (by rw [List.length_map]; have := HNP.out; omega)
            rw [List.getElem?_map, hj] at hck
            simp only [Option.map_some] at hck
            have hgp7 : gp ≠ g7 := HPUT7.out gp rfl
            have HCK := Lib.hid hck
            have HCH := Lib.hid hch
            have HNX := Lib.hid hnext
            have k0 : (0 : Int) ≤ (k : Int) := by omega
            have k1 : (k : Int) < (np : Int) := by omega
            clear hj hrdk hcfx hrr hpl8 hnext hrowx hcp hck hch
            go_wp2_with fail
            refine hread.mono ?_
            rintro e w7 ⟨rfl, hrr7, hch7⟩
            have hck7 : w7.cell? ⟨gp, op + k, none⟩ = some (.int .i64 (j : Int)) := (World.cell?_of_block (hch7.block gp hgp hgp7)).trans HCK.out
            have HRR7 := Lib.hid hrr7
            have HCH7 := Lib.hid (HCH.out.trans hch7 (fun _ _ h => h))
            have jj : ((j : Int) != (j : Int)) = false := by simp
            clear hread hrr7 hch7
            go_wp2
            go_roundw
            case rel => exact ⟨k + 1, by go_num, by omega, HNX.out, HRR7.out, HCH7.out⟩
            case measure => simp [intOf]; omega
          · obtain rfl : k = np := by omega
            have hb6x : Below g w6 wr := hch.below hgs (fun q hq hs => by omega)
            have hbx := HBW.out.trans ((HB36.out.trans hb6x).mono (by rw [← HG.out]; exact HBW.out.size))
            have HBX := Lib.hid hbx
            clear hrr hch hb6x hbx
            go_wp2_with (go_at_call 12; refine (awake5_any _).mono ?_; rintro e w8 ⟨rfl, hb8⟩)
            go_ret
            exact ⟨rfl, HBX.out.trans (hb8.mono HBX.out.size)⟩
set_option maxRecDepth 100000 in
set_option maxHeartbeats 2000000 in
theorem back_long (A A' : Option Addr) (c c' n m : Nat) (w : World) (hn : 60 < n) :
    Calls Try.prog 6 #[.slice A n c, .slice A' m c'] w fun e w' => e = .returned (.bool true) ∧ Below w.heap.size w w' := by
  have d60 : decide ((60 : Int) < (n : Int)) = true := decide_eq_true (by omega)
  have d60' : decide (60 < n) = true := decide_eq_true hn
  go_enter Try.func6, Try.ntmps6
  go_wp2_with (go_at_call 12; refine (awake5_any _).mono ?_; rintro e w8 ⟨rfl, hb8⟩)
  go_ret
  exact ⟨rfl, hb8⟩
set_option maxRecDepth 100000 in
set_option maxHeartbeats 2000000 in
theorem back_bad (A A' : Option Addr) (c c' n m : Nat) (w : World) (hn : n ≤ 60) (hl : Calls Try.prog 11 #[.slice A n c, .int .i64 15] w (LnBad w)) :
    Calls Try.prog 6 #[.slice A n c, .slice A' m c'] w fun e w' => e = .returned (.bool true) ∧ Below w.heap.size w w' := by
  have d60 : decide ((60 : Int) < (n : Int)) = false := decide_eq_false (by omega)
  have d60' : decide (60 < n) = false := decide_eq_false (by omega)
  go_enter Try.func6, Try.ntmps6
  go_wp2_with fail
  refine hl.mono ?_
  rintro e w1 ⟨rfl, hb1⟩
  have HB := Lib.hid hb1
  clear hl hb1
  go_wp2_with (go_at_call 12; refine (awake5_any _).mono ?_; rintro e w8 ⟨rfl, hb8⟩)
  go_ret
  exact ⟨rfl, HB.out.trans (hb8.mono HB.out.size)⟩
theorem huffBack_walk (A : Option Addr) (c : Nat) (xs : List Int) (A' : Option Addr) (c' : Nat) (ys : List Int) (w : World) (h : Ints .i64 w A xs) (hy : Ints .i64 w A' ys) (hys : ys.length ≤ 9223372036854775806) :
    Calls Try.prog 6 #[.slice A xs.length c, .slice A' ys.length c'] w fun e w' => e = .returned (.bool true) ∧ Below w.heap.size w w' := by
  by_cases hn : 60 < xs.length
  · exact back_long A A' c c' _ _ w hn
  · have hgo := lengths_go A c xs 15 w h (by decide) (by decide) (by omega)
    by_cases hh : okX xs ∧ (bs xs xs.length).length ≤ 2 ^ 15
    · exact back_ok A A' c c' xs ys w h hy hh.1 hh.2 (by omega) hys (hgo.mono fun e w' hp => hp.elim (fun h => h.2.2) (fun h => absurd hh h.1))
    · exact back_bad A A' c c' _ _ w (by omega) (hgo.mono fun e w' hp => hp.elim (fun h => absurd ⟨h.1, h.2.1⟩ hh) (fun h => h.2))
end Go.Proofs.Ytdmggpngmlhboaa
