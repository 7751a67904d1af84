/- The walk of StreamEnds. -/
import Derived.Test.YtoeipgbnjcgbjaaEnY
import Derived.StillTailTactics
namespace Go.Proofs.Ytoeipgbnjcgbjaa
open Go.RowKit
set_option linter.unusedVariables false

set_option maxRecDepth 100000 in
set_option maxHeartbeats 16000000 in
theorem streamEnds_walk (A : Option Addr) (c : Nat) (a : List Int) (A' : Option Addr) (c' : Nat) (b : List Int) (Al : Option Addr) (cl m : Nat) (G : Nat → Bool) (rounds : Int) (W : World)
    (hIa : Ints .u8 W A a) (wfa : ∀ x ∈ a, (Lit.int .u8 x).wf = true) (sza : a.length ≤ 140737488355328) (hIb : Ints .u8 W A' b) (wfb : ∀ x ∈ b, (Lit.int .u8 x).wf = true) (szb : b.length ≤ 140737488355328) (hG : BoolsAt W Al m G) (hm : m ≤ 9223372036854775807) (wfr : (Lit.int .i64 rounds).wf = true) :
    Calls Try.prog 8 #[.slice A a.length c, .slice A' b.length c', .slice Al m cl, .int .i64 rounds] W fun e w' => e = .returned (.bool true) ∧ Below W.heap.size W w' := by
  have ha : Bytes a := fun x hx => by
    have := wfa x hx
    simp [Lit.wf, IntKind.min, IntKind.max, IntKind.bits, IntKind.signed] at this
    omega
  have hb : Bytes b := fun x hx => by
    have := wfb x hx
    simp [Lit.wf, IntKind.min, IntKind.max, IntKind.bits, IntKind.signed] at this
    omega
  have hrw : -9223372036854775808 ≤ rounds ∧ rounds < 9223372036854775808 := by
    simp [Lit.wf, IntKind.min, IntKind.max, IntKind.bits, IntKind.signed] at wfr
    omega
  have hand := and15i rounds hrw
  obtain ⟨R, hR⟩ : ∃ R : Nat, rounds % 16 = (R : Int) := ⟨(rounds % 16).toNat, by omega⟩
  rw [hR] at hand
  have hR16 : R < 16 := by omega
  have HAW0 := Lib.hid (fun w => awake18_any w)
  have s0 : IntKind.i64.wrap ((a.length : Int) + (b.length : Int)) = (a.length : Int) + (b.length : Int) := IntWalk.i64_in _ (by omega)
  clear wfa wfb wfr hrw hR
  by_cases h3 : 30000 < a.length + b.length
  · have d1 : decide ((30000 : Int) < (a.length : Int) + (b.length : Int)) = true := decide_eq_true (by omega)
    clear hIa hIb hG
    go_enter Try.func8, Try.ntmps8
    go_wp2_with fail
    refine (HAW0.out W).mono ?_
    rintro e w1 ⟨rfl, hB1⟩
    have HB1 := Lib.hid hB1
    clear hB1 HAW0
    go_wp2
    go_ret
    exact ⟨rfl, HB1.out⟩
  have d1 : decide ((30000 : Int) < (a.length : Int) + (b.length : Int)) = false := decide_eq_false (by omega)
  have hNa : a.length ≤ 30000 := by omega
  have hNb : b.length ≤ 30000 := by omega
  have HNA := Lib.hid hNa
  have HNB := Lib.hid hNb
  have HIA := Lib.hid hIa
  have HIB := Lib.hid hIb
  have HGL := Lib.hid hG
  have HBA := Lib.hid ha
  have HBB := Lib.hid hb
  clear hIa hIb hG ha hb h3
  go_enter Try.func8, Try.ntmps8
  go_wp2_with fail
  refine (dial_any 9 W).mono ?_
  intro e w1 hN1
  have HN1 := Lib.hid hN1
  obtain ⟨rfl, _, _⟩ := hN1
  go_wp2_with fail
  refine (listen_any 9 w1).mono ?_
  intro e w2 hN2
  have HN2 := Lib.hid hN2
  obtain ⟨rfl, _, _⟩ := hN2
  obtain ⟨hE0, hBW0⟩ := EM.begin_ HN1.out HN2.out
  generalize hwp : w2.alloc (.cells #[.pointer (some ⟨W.heap.size, 0, none⟩), .pointer (some ⟨w1.heap.size, 0, none⟩)] 32) = wp at *
  generalize hBB0 : W.heap.size = B at *
  have HE0 := Lib.hid hE0
  have HBW0 := Lib.hid hBW0
  have p0 := hE0.p0
  have p1 := hE0.p1
  have HWP := Lib.hid hwp
  have HBQ := Lib.hid hBB0
  clear HN1 HN2 hE0 hBW0
  generalize hg2 : w1.heap.size = g2 at *
  generalize hpb : w2.heap.size = pb at *
  have HWR := Lib.hid (write_any B (newEnd 9 1) (.slice none 0 0) (.slice none 0 0) A a.length c a wp HE0.out.two.e1 (newEnd_ok 9 1 (by decide)) (HIA.out.below (hBB0 ▸ HBW0.out)) rfl (by omega))
  go_wp2_with fail
  refine HWR.out.mono ?_
  intro e w3 hp3
  clear p0 p1
  have k3 := HE0.out.write1 hp3
  rw [write_new 9 1 a (by decide) HNA.out] at k3
  obtain ⟨vo1, rfl, hE3, hb3⟩ := k3
  have hB3 := HBW0.out.trans hb3
  have HE3 := Lib.hid hE3
  have HB3 := Lib.hid hB3
  have p0 := hE3.p0
  have p1 := hE3.p1
  have HWR2 := Lib.hid (write_any g2 (newEnd 9 2) (.slice none 0 0) (.slice none 0 0) A' b.length c' b w3 hE3.two.e2 (newEnd_ok 9 2 (by decide)) (HIB.out.below (by rw [HBQ.out]; exact hB3)) rfl (by omega))
  clear hE3 hb3 hB3 hp3 HWR
  go_wp2_with fail
  refine HWR2.out.mono ?_
  intro e w4 hp4
  clear p0 p1
  have k4 := HE3.out.write2 hp4
  rw [write_new 9 2 b (by decide) HNB.out] at k4
  obtain ⟨vo2, rfl, hE4, hb4⟩ := k4
  have HE4 := Lib.hid hE4
  have HB4 := Lib.hid (HB3.out.trans hb4)
  have p0 := hE4.p0
  have p1 := hE4.p1
  have hc5 := close_any B { newEnd 9 1 with out := a } vo1 (.slice none 0 0) w4 hE4.two.e1
  rw [close_new 9 1 a (by decide)] at hc5
  have HC5 := Lib.hid hc5
  clear hE4 hb4 hp4 HWR2 hc5 HE3 HB3
  go_wp2_with fail
  refine HC5.out.mono ?_
  rintro e w5 ⟨rfl, hq1, hq2⟩
  clear p0 p1
  obtain ⟨hE5, hb5⟩ := HE4.out.same1 hq1 hq2
  have HB5 := Lib.hid (HB4.out.trans hb5)
  have p0 := hE5.p0
  have p1 := hE5.p1
  have HE5 := Lib.hid hE5
  have hc6 := close_any g2 { newEnd 9 2 with out := b } vo2 (.slice none 0 0) w5 hE5.two.e2
  rw [close_new 9 2 b (by decide)] at hc6
  have HC6 := Lib.hid hc6
  clear hE5 hb5 hq1 hq2 HC5 hc6 HE4 HB4
  go_wp2_with fail
  refine HC6.out.mono ?_
  rintro e w6 ⟨rfl, hq1, hq2⟩
  clear p0 p1
  obtain ⟨hE6, hb6⟩ := HE5.out.same2 hq1 hq2
  have hE6 : EM B B g2 pb w6 (dialE a) (listenE b) vo1 (.slice none 0 0) vo2 (.slice none 0 0) (.slice none 0 0) (.slice none 0 0) [] [] := hE6
  have HE6 := Lib.hid hE6
  have HB6 := Lib.hid (HB5.out.trans hb6)
  clear hE6 hb6 hq1 hq2 HC6 HE5 HB5 HBW0 HE0
  obtain ⟨K, hK⟩ : ∃ K : Nat, R + 40 + (a.length + b.length) / 100 = K := ⟨_, rfl⟩
  have HK := Lib.hid hK
  have hK2 : K ≤ 700 := by omega
  have s1 : IntKind.i64.wrap ((R : Int) + 40) = (R : Int) + 40 := IntWalk.i64_in _ (by omega)
  go_wp2
  go_loopw [10, 11, 12, 13, 14] (fun nw n x y i wr => EndsO W B B g2 pb R K a b nw n x y i wr) (fun _ _ _ _ i _ => K - (intOf i).toNat)
  case atStart => exact ⟨0, 0, dialE a, listenE b, vo1, _, vo2, _, [], [], none, 0, none, 0, rfl, rfl, rfl, rfl, rfl, Nat.zero_le _, Nat.zero_le _, HE6.out, begin_rs a b R HBA.out HBB.out HNA.out HNB.out, HB6.out⟩
  case round =>
    obtain ⟨i', nn, d, l, vo1', vi1', vo2', vi2', xs, ys, Ax, cx, Ay, cy, rfl, rfl, rfl, rfl, rfl, hiK, hnn, hE, hRs, hBl⟩ := hrel
    clear HE6 HB6
    by_cases hlt : i' < K
    · have q1 : decide ((i' : Int) < (R : Int) + 40 + ((a.length : Int) + (b.length : Int)) / 100) = true := decide_eq_true (by have := HK.out; omega)
      have HE := Lib.hid hE
      have HRS := Lib.hid hRs
      have HBL := Lib.hid hBl
      clear hE hRs hBl
      go_wp2
      go_loopw [11, 15] (fun n k wr => EndsK W B B g2 pb R i' a b (.slice Ax xs.length cx) (.slice Ay ys.length cy) xs ys n k wr) (fun _ k _ => 2 - (intOf k).toNat)
      case atStart =>
        have hz : nn ≤ i' * 70000 + 0 * 30002 := Nat.le_trans hnn (Nat.le_add_right _ _)
        exact ⟨0, nn, d, l, vo1', vi1', vo2', vi2', rfl, rfl, hz, HE.out, HBL.out, .inl ⟨rfl, HRS.out⟩⟩
      case round =>
        clear HE HRS HBL
        clear hnn
        obtain ⟨k', nn, d, l, vo1, vi1, vo2, vi2, rfl, rfl, hnn, hE, hBl, hcase⟩ := hrel
        rcases hcase with ⟨rfl, hRs⟩ | ⟨rfl, hRs⟩ | ⟨rfl, hRs⟩
        · skip
          have p0 := hE.p0
          have p1 := hE.p1
          have hO := out_any B d vo1 vi1 (8 * (i' : Int)) wr hE.two.e1 hRs.ok.okd (wf_now _ (by omega))
          have HO := Lib.hid hO
          clear hO
          go_wp2_with fail
          refine HO.out.mono ?_
          intro e w1 hp
          obtain ⟨Ao, rfl, hOut, hE1, hb1⟩ := hE.out1 hp
          obtain ⟨h1, hOQ⟩ := hRs.half (by omega) HNA.out
          rw [hOQ] at hOut
          rw [hOQ]
          obtain ⟨ds, hds⟩ : ∃ ds, (outQ d (8 * (i' : Int))).map segL = ds := ⟨_, rfl⟩
          have hlen : (outQ d (8 * (i' : Int))).length = ds.length := by rw [← hds, List.length_map]
          have hL30 : ds.length ≤ 30002 := by rw [← hlen]; exact outQ_len d _ (by have := hRs.ok.p.da.len; have := HNA.out; omega)
          rw [hds] at hOut ⊢
          obtain ⟨L, hL⟩ : ∃ L, ds.length = L := ⟨_, rfl⟩
          rw [hL] at hOut hlen hL30 ⊢
          have hfp : ∀ k, Fp g2 vo2 vi2 k → k < wr.heap.size ∨ w1.heap.size ≤ k := fun k hk => .inl (hE.two.e2.fp_lt k hk)
          have HE1 := Lib.hid hE1
          have HOUT := Lib.hid hOut
          have HFP := Lib.hid hfp
          have HR1 := Lib.hid h1
          have HBl1 := Lib.hid (hBl.trans hb1)
          have HRS := Lib.hid hRs
          have HDS := Lib.hid hds
          have HLEN := Lib.hid hlen
          have HLL := Lib.hid hL
          obtain ⟨N0, hN0⟩ : ∃ N0, nn = N0 := ⟨_, rfl⟩
          have HBY := Lib.hid (fun j (hj : j < L) => outs_ok HR1.out.cq HDS.out j (by rw [HLEN.out]; exact hj))
          clear HO hE hE1 hp hOut hfp h1 hb1 hBl hRs hOQ hds hlen hL p0 p1
          generalize wr.heap.size = B1 at *
          obtain ⟨B2, hB2⟩ : ∃ B2, w1.heap.size = B2 := ⟨_, rfl⟩
          rw [hB2] at HOUT HFP
          have HB2 := Lib.hid hB2
          clear hB2
          go_wp2
          go_loopw [11, 17] (fun n j wr => EndsJ1 W B B g2 pb R i' N0 B1 B2 L a b (.slice Ax xs.length cx) (.slice Ay ys.length cy) xs ys d l ds Ao vo1 vi1 vo2 n j wr) (fun _ j _ => L - (intOf j).toNat)
          case atStart => exact ⟨0, N0, l, vi2, rfl, rfl, Nat.zero_le _, by omega, HE1.out, HBl1.out, HOUT.out, HFP.out, by rw [HB2.out]; exact Nat.le_refl _, HR1.out⟩
          case round =>
            obtain ⟨j', n9, t9, vi9, rfl, rfl, hjL, hn9, hE, hBl, hOut, hfp, hB2, hR⟩ := hrel
            clear HE1 HOUT HFP HR1 HBl1 HB2
            generalize wr = wq at *
            have HE := Lib.hid hE
            have HBL := Lib.hid hBl
            have HOUT := Lib.hid hOut
            have HFP := Lib.hid hfp
            have HB2 := Lib.hid hB2
            have HR := Lib.hid hR
            clear hE hBl hOut hfp hB2 hR
            by_cases hj : j' < L
            · have q5 : decide ((j' : Int) < (L : Int)) = true := decide_eq_true (by omega)
              have q5' : decide (j' < L) = true := decide_eq_true hj
              obtain ⟨n1, hn1⟩ : ∃ n1 : Nat, n9 + 1 = n1 := ⟨_, rfl⟩
              obtain ⟨j1, hj1⟩ : ∃ j1 : Nat, j' + 1 = j1 := ⟨_, rfl⟩
              have s2 : IntKind.i64.wrap ((n9 : Int) + 1) = (n1 : Int) := by rw [IntWalk.i64_in _ (by omega)]; omega
              have s3 : IntKind.i64.wrap ((j' : Int) + 1) = (j1 : Int) := by rw [IntWalk.i64_in _ (by omega)]; omega
              go_upto_region 19 with (fail)
              go_cut [116] (fun v wx => (∃ g : Bool, v = .bool g ∧ (g = false → ¬ R ≤ i')) ∧ wx = wq)
              case first => as_aux_lemma =>
                -- DONE{pick
                by_cases hRi : R ≤ i'
                · have q6 : decide ((R : Int) ≤ (i' : Int)) = true := decide_eq_true (by omega)
                  have q6' : decide (R ≤ i') = true := decide_eq_true hRi
                  go_wp2
                  go_meet
                  exact ⟨⟨true, rfl, fun h => by cases h⟩, rfl⟩
                · have q6 : decide ((R : Int) ≤ (i' : Int)) = false := decide_eq_false (by omega)
                  have q6' : decide (R ≤ i') = false := decide_eq_false hRi
                  by_cases hm9 : m ≤ n1
                  · have q7 : decide ((m : Int) ≤ (n1 : Int)) = true := decide_eq_true (by omega)
                    have q7' : decide (m ≤ n1) = true := decide_eq_true hm9
                    go_wp2
                    go_meet
                    exact ⟨⟨true, rfl, fun h => by cases h⟩, rfl⟩
                  · have q7 : decide ((m : Int) ≤ (n1 : Int)) = false := decide_eq_false (by omega)
                    have q7' : decide (m ≤ n1) = false := decide_eq_false hm9
                    have q8 : n1 < m := by omega
                    obtain ⟨b0, o0, rfl, hb0, hcells⟩ := HGL.out (by omega)
                    have g0 : wq.cell? ⟨b0, o0 + n1, none⟩ = some (.bool (G n1)) := (HBL.out.cell (p := ⟨b0, o0 + n1, none⟩) (by rw [← HBQ.out]; exact hb0)).trans (hcells n1 q8)
                    clear hcells HGL
                    cases hg : G n1
                    all_goals
                      rw [hg] at g0
                      go_wp2
                      go_meet
                      exact ⟨⟨_, rfl, fun _ => hRi⟩, rfl⟩
                -- }DONE
              case rest =>
                obtain ⟨⟨g, rfl, hg⟩, hw⟩ := hcut
                obtain rfl : wq = wc := hw.symm
                cases g
                · -- DONE{skip
                  have hR' := HR.out.skip (hg rfl)
                  rw [hj1] at hR'
                  have HRN := Lib.hid hR'
                  clear hR' hg HR
                  go_wp2
                  go_roundw
                  case rel => exact ⟨j1, n1, t9, vi9, rfl, rfl, by omega, by omega, HE.out, HBL.out, HOUT.out, HFP.out, HB2.out, HRN.out⟩
                  case measure => simp [intOf]; omega
                  -- }DONE
                · -- DONE{take
                  clear hg
                  obtain ⟨bo, oo, Ae, rfl, _, hbo, hce, hoe⟩ := HOUT.out.at_.elem j' (by rw [HLL.out]; exact hj)
                  have p0 := HE.out.p0
                  have p1 := HE.out.p1
                  obtain ⟨hby, hlen9⟩ := HBY.out j' hj
                  have HIN := Lib.hid (in_any g2 t9 vo2 vi9 Ae (ds.getD j' []).length (ds.getD j' []).length (ds.getD j' []) (8 * (i' : Int)) wq.drew (HE.out.drewN 1).two.e2 HR.out.ok.okl (OwnS.ints hoe.drew) rfl hby (Nat.le_refl _) (by omega) (by omega))
                  have hdl : (ds.getD j' []).length ≤ 9223372036854775807 := by omega
                  generalize (ds.getD j' []).length = dl at *
                  clear hoe hby hlen9
                  have hw1 : IntKind.i64.wrap 1 = 1 := IntWalk.i64_in _ (by decide)
                  have hw0 : IntKind.i64.wrap 0 = 0 := IntWalk.i64_in _ (by decide)
                  go_wp2
                  go_still_tail 10, (by kernel_rfl)
                  change wpList _ _ _ _ _ wq.drew
                  go_wp2_with fail
                  refine HIN.out.mono ?_
                  intro e w8 hp
                  obtain ⟨rfl, vi8, hE8, hO8, hf8, hb8⟩ := (HE.out.drewN 1).take2 (HOUT.out.chg (S := fun _ => False) (Chg.of_below (Below.drewN (Below.refl _ _) 1)) (fun _ _ _ h => h)) HFP.out HB2.out hp
                  have hR' := HR.out.take (by omega) HNA.out (by rw [HLEN.out]; exact hj)
                  rw [HDS.out, hj1] at hR'
                  have HRN := Lib.hid hR'
                  have HE8 := Lib.hid hE8
                  have HO8 := Lib.hid hO8
                  have HF8 := Lib.hid hf8
                  have HB8 := Lib.hid ((Below.drewN HBL.out 1).trans hb8)
                  have HS8 := Lib.hid (Nat.le_trans HB2.out hb8.size)
                  clear hE8 hO8 hf8 hb8 hp hR' HIN p0 p1 hce HR HE HOUT HFP HBL
                  go_wp2
                  go_roundw
                  case rel => exact ⟨j1, n1, _, vi8, rfl, rfl, by omega, by omega, HE8.out, HB8.out, HO8.out, HF8.out, HS8.out, HRN.out⟩
                  case measure => simp [intOf]; omega
                  -- }DONE
            · have q5 : decide ((j' : Int) < (L : Int)) = false := decide_eq_false (by omega)
              have q5' : decide (j' < L) = false := decide_eq_false hj
              have hRm := HR.out.done HRS.out (by rw [HLEN.out]; omega)
              have HRM := Lib.hid hRm
              clear hRm HR HOUT HFP HB2 HBY
              go_wp2
              go_roundw
              case rel => exact ⟨1, n9, _, _, vo1, vi1, vo2, vi9, rfl, rfl, by omega, HE.out, HBL.out, .inr (.inl ⟨rfl, HRM.out⟩)⟩
              case measure => simp [intOf]
        · skip
          have p0 := hE.p0
          have p1 := hE.p1
          have hO := out_any g2 l vo2 vi2 (8 * (i' : Int)) wr hE.two.e2 hRs.ok.okl (wf_now _ (by omega))
          have HO := Lib.hid hO
          clear hO
          go_wp2_with fail
          refine HO.out.mono ?_
          intro e w1 hp
          obtain ⟨Ao, rfl, hOut, hE1, hb1⟩ := hE.out2 hp
          obtain ⟨h1, hOQ⟩ := hRs.half (by omega) HNB.out
          rw [hOQ] at hOut
          rw [hOQ]
          obtain ⟨ds, hds⟩ : ∃ ds, (outQ l (8 * (i' : Int))).map segL = ds := ⟨_, rfl⟩
          have hlen : (outQ l (8 * (i' : Int))).length = ds.length := by rw [← hds, List.length_map]
          have hL30 : ds.length ≤ 30002 := by rw [← hlen]; exact outQ_len l _ (by have := hRs.ok.p.db.len; have := HNB.out; omega)
          rw [hds] at hOut ⊢
          obtain ⟨L, hL⟩ : ∃ L, ds.length = L := ⟨_, rfl⟩
          rw [hL] at hOut hlen hL30 ⊢
          have hfp : ∀ k, Fp B vo1 vi1 k → k < wr.heap.size ∨ w1.heap.size ≤ k := fun k hk => .inl (hE.two.e1.fp_lt k hk)
          have HE1 := Lib.hid hE1
          have HOUT := Lib.hid hOut
          have HFP := Lib.hid hfp
          have HR1 := Lib.hid h1
          have HBl1 := Lib.hid (hBl.trans hb1)
          have HRS := Lib.hid hRs
          have HDS := Lib.hid hds
          have HLEN := Lib.hid hlen
          have HLL := Lib.hid hL
          obtain ⟨N0, hN0⟩ : ∃ N0, nn = N0 := ⟨_, rfl⟩
          have HBY := Lib.hid (fun j (hj : j < L) => outs_ok HR1.out.cq HDS.out j (by rw [HLEN.out]; exact hj))
          clear HO hE hE1 hp hOut hfp h1 hb1 hBl hRs hOQ hds hlen hL p0 p1
          generalize wr.heap.size = B1 at *
          obtain ⟨B2, hB2⟩ : ∃ B2, w1.heap.size = B2 := ⟨_, rfl⟩
          rw [hB2] at HOUT HFP
          have HB2 := Lib.hid hB2
          clear hB2
          go_wp2
          go_loopw [11, 17] (fun n j wr => EndsJ2 W B B g2 pb R i' N0 B1 B2 L a b (.slice Ax xs.length cx) (.slice Ay ys.length cy) xs ys d l ds Ao vo1 vo2 vi2 n j wr) (fun _ j _ => L - (intOf j).toNat)
          case atStart => exact ⟨0, N0, d, vi1, rfl, rfl, Nat.zero_le _, by omega, HE1.out, HBl1.out, HOUT.out, HFP.out, by rw [HB2.out]; exact Nat.le_refl _, HR1.out⟩
          case round =>
            obtain ⟨j', n9, t9, vi9, rfl, rfl, hjL, hn9, hE, hBl, hOut, hfp, hB2, hR⟩ := hrel
            clear HE1 HOUT HFP HR1 HBl1 HB2
            generalize wr = wq at *
            have HE := Lib.hid hE
            have HBL := Lib.hid hBl
            have HOUT := Lib.hid hOut
            have HFP := Lib.hid hfp
            have HB2 := Lib.hid hB2
            have HR := Lib.hid hR
            clear hE hBl hOut hfp hB2 hR
            by_cases hj : j' < L
            · have q5 : decide ((j' : Int) < (L : Int)) = true := decide_eq_true (by omega)
              have q5' : decide (j' < L) = true := decide_eq_true hj
              obtain ⟨n1, hn1⟩ : ∃ n1 : Nat, n9 + 1 = n1 := ⟨_, rfl⟩
              obtain ⟨j1, hj1⟩ : ∃ j1 : Nat, j' + 1 = j1 := ⟨_, rfl⟩
              have s2 : IntKind.i64.wrap ((n9 : Int) + 1) = (n1 : Int) := by rw [IntWalk.i64_in _ (by omega)]; omega
              have s3 : IntKind.i64.wrap ((j' : Int) + 1) = (j1 : Int) := by rw [IntWalk.i64_in _ (by omega)]; omega
              go_upto_region 19 with (fail)
              go_cut [116] (fun v wx => (∃ g : Bool, v = .bool g ∧ (g = false → ¬ R ≤ i')) ∧ wx = wq)
              case first => as_aux_lemma =>
                -- DONE{pick
                by_cases hRi : R ≤ i'
                · have q6 : decide ((R : Int) ≤ (i' : Int)) = true := decide_eq_true (by omega)
                  have q6' : decide (R ≤ i') = true := decide_eq_true hRi
                  go_wp2
                  go_meet
                  exact ⟨⟨true, rfl, fun h => by cases h⟩, rfl⟩
                · have q6 : decide ((R : Int) ≤ (i' : Int)) = false := decide_eq_false (by omega)
                  have q6' : decide (R ≤ i') = false := decide_eq_false hRi
                  by_cases hm9 : m ≤ n1
                  · have q7 : decide ((m : Int) ≤ (n1 : Int)) = true := decide_eq_true (by omega)
                    have q7' : decide (m ≤ n1) = true := decide_eq_true hm9
                    go_wp2
                    go_meet
                    exact ⟨⟨true, rfl, fun h => by cases h⟩, rfl⟩
                  · have q7 : decide ((m : Int) ≤ (n1 : Int)) = false := decide_eq_false (by omega)
                    have q7' : decide (m ≤ n1) = false := decide_eq_false hm9
                    have q8 : n1 < m := by omega
                    obtain ⟨b0, o0, rfl, hb0, hcells⟩ := HGL.out (by omega)
                    have g0 : wq.cell? ⟨b0, o0 + n1, none⟩ = some (.bool (G n1)) := (HBL.out.cell (p := ⟨b0, o0 + n1, none⟩) (by rw [← HBQ.out]; exact hb0)).trans (hcells n1 q8)
                    clear hcells HGL
                    cases hg : G n1
                    all_goals
                      rw [hg] at g0
                      go_wp2
                      go_meet
                      exact ⟨⟨_, rfl, fun _ => hRi⟩, rfl⟩
                -- }DONE
              case rest =>
                obtain ⟨⟨g, rfl, hg⟩, hw⟩ := hcut
                obtain rfl : wq = wc := hw.symm
                cases g
                · -- DONE{skip
                  have hR' := HR.out.skip (hg rfl)
                  rw [hj1] at hR'
                  have HRN := Lib.hid hR'
                  clear hR' hg HR
                  go_wp2
                  go_roundw
                  case rel => exact ⟨j1, n1, t9, vi9, rfl, rfl, by omega, by omega, HE.out, HBL.out, HOUT.out, HFP.out, HB2.out, HRN.out⟩
                  case measure => simp [intOf]; omega
                  -- }DONE
                · -- DONE{take
                  clear hg
                  obtain ⟨bo, oo, Ae, rfl, _, hbo, hce, hoe⟩ := HOUT.out.at_.elem j' (by rw [HLL.out]; exact hj)
                  have p0 := HE.out.p0
                  have p1 := HE.out.p1
                  obtain ⟨hby, hlen9⟩ := HBY.out j' hj
                  have HIN := Lib.hid (in_any B t9 vo1 vi9 Ae (ds.getD j' []).length (ds.getD j' []).length (ds.getD j' []) (8 * (i' : Int)) wq.drew (HE.out.drewN 1).two.e1 HR.out.ok.okd (OwnS.ints hoe.drew) rfl hby (Nat.le_refl _) (by omega) (by omega))
                  have hdl : (ds.getD j' []).length ≤ 9223372036854775807 := by omega
                  generalize (ds.getD j' []).length = dl at *
                  clear hoe hby hlen9
                  have hw1 : IntKind.i64.wrap 1 = 1 := IntWalk.i64_in _ (by decide)
                  have hw0 : IntKind.i64.wrap 0 = 0 := IntWalk.i64_in _ (by decide)
                  go_wp2
                  go_still_tail 10, (by kernel_rfl)
                  change wpList _ _ _ _ _ wq.drew
                  go_wp2_with fail
                  refine HIN.out.mono ?_
                  intro e w8 hp
                  obtain ⟨rfl, vi8, hE8, hO8, hf8, hb8⟩ := (HE.out.drewN 1).take1 (HOUT.out.chg (S := fun _ => False) (Chg.of_below (Below.drewN (Below.refl _ _) 1)) (fun _ _ _ h => h)) HFP.out HB2.out hp
                  have hR' := HR.out.take (by omega) HNB.out (by rw [HLEN.out]; exact hj)
                  rw [HDS.out, hj1] at hR'
                  have HRN := Lib.hid hR'
                  have HE8 := Lib.hid hE8
                  have HO8 := Lib.hid hO8
                  have HF8 := Lib.hid hf8
                  have HB8 := Lib.hid ((Below.drewN HBL.out 1).trans hb8)
                  have HS8 := Lib.hid (Nat.le_trans HB2.out hb8.size)
                  clear hE8 hO8 hf8 hb8 hp hR' HIN p0 p1 hce HR HE HOUT HFP HBL
                  go_wp2
                  go_roundw
                  case rel => exact ⟨j1, n1, _, vi8, rfl, rfl, by omega, by omega, HE8.out, HB8.out, HO8.out, HF8.out, HS8.out, HRN.out⟩
                  case measure => simp [intOf]; omega
                  -- }DONE
            · have q5 : decide ((j' : Int) < (L : Int)) = false := decide_eq_false (by omega)
              have q5' : decide (j' < L) = false := decide_eq_false hj
              have hRm := HR.out.done HRS.out HNA.out HNB.out (by rw [HLEN.out]; omega)
              have HRM := Lib.hid hRm
              clear hRm HR HOUT HFP HB2 HBY
              go_wp2
              go_roundw
              case rel => exact ⟨2, n9, _, _, vo1, vi9, vo2, vi2, rfl, rfl, by omega, HE.out, HBL.out, .inr (.inr ⟨rfl, HRM.out⟩)⟩
              case measure => simp [intOf]
        · skip
          have hnn2 : nn ≤ i' * 70000 + 60004 := hnn
          clear hnn
          obtain ⟨i1, hi1⟩ : ∃ i1 : Nat, i' + 1 = i1 := ⟨_, rfl⟩
          have hb1 : i1 ≤ K := by omega
          have hb2 : nn ≤ i1 * 70000 := by
            rw [← hi1, Nat.add_mul]
            exact Nat.le_trans hnn2 (Nat.add_le_add_left (by decide) _)
          have s4 : IntKind.i64.wrap (8 * (i' : Int) + 8) = 8 * (i1 : Int) := by rw [IntWalk.i64_in _ (by omega)]; omega
          have s5 : IntKind.i64.wrap ((i' : Int) + 1) = (i1 : Int) := by rw [IntWalk.i64_in _ (by omega)]; omega
          obtain ⟨r1, r2, _⟩ := hRs.ok.read
          have hnx := hRs.next (by omega)
          rw [hi1] at hnx
          have p0 := hE.p0
          have p1 := hE.p1
          have hlx : l.inn.length ≤ 30000 := by have h1 := hRs.ok.p.da.nx; have h2 := hRs.ok.p.da.nn; have h3 := HNA.out; omega
          have hly : d.inn.length ≤ 30000 := by have h1 := hRs.ok.p.db.nx; have h2 := hRs.ok.p.db.nn; have h3 := HNB.out; omega
          have hzx : xs.length + (readS l).1.length = l.inn.length := by rw [← r1, List.length_append]
          have hzy : ys.length + (readS d).1.length = d.inn.length := by rw [← r2, List.length_append]
          have hmx : xs.map (Value.int .u8) ++ (readS l).1.map (Value.int .u8) = l.inn.map (Value.int .u8) := by rw [← List.map_append, r1]
          have hmy : ys.map (Value.int .u8) ++ (readS d).1.map (Value.int .u8) = d.inn.map (Value.int .u8) := by rw [← List.map_append, r2]
          have hRD1 := read_any g2 l vo2 vi2 wr hE.two.e2 hRs.ok.okl
          have hokd := hRs.ok.okd
          have HRD1 := Lib.hid hRD1
          have HLX := Lib.hid hlx
          have HLY := Lib.hid hly
          have HNX := Lib.hid hnx
          have HZX := Lib.hid hzx
          have HZY := Lib.hid hzy
          have HMX := Lib.hid hmx
          have HMY := Lib.hid hmy
          have HOKD := Lib.hid hokd
          have HE := Lib.hid hE
          have HBL := Lib.hid hBl
          obtain ⟨i0, hi, hz0, hz1, hz2⟩ := info_parts Try.info_u8
          clear hRD1 hnx hzx hzy hmx hmy hokd hE hBl hRs r1 r2 hlx hly
          skip
          go_wp2_with fail
          refine HRD1.out.mono ?_
          intro e w1 hp
          obtain ⟨Ar, rfl, hIr, hE1, hb1⟩ := HE.out.read2 hp
          have HE1 := Lib.hid hE1
          have HIR := Lib.hid hIr
          have HB1 := Lib.hid (HBL.out.trans hb1)
          clear hIr hE1 hb1 hp p0 p1 HE HBL HRD1
          go_wp2_with (at_builtin; go_loud (refine wpList_append_S rfl (.tmp 130) (.tmp 134) 22 22 rfl i0 (.int .u8 0) 1 (.slice 5) Try.underlying22 Try.underlying22 (fun _ h => by cases h) hi hz0 hz1 hz2 rfl rfl rfl HE1.out.ox (Src.ints HIR.out) (by rw [HZX.out]; unfold maxLen; have := HLX.out; omega) (by rw [HZX.out]; have := HLX.out; omega) HE1.out.size ?_; intro A2 c2 w2 ho2 hg2 hv2; rw [HZX.out, HMX.out] at ho2; rw [HZX.out] at hv2 ⊢; obtain ⟨hE2, hb2⟩ := HE1.out.appx ho2 hg2 hv2; have p0 := hE2.p0; have HE2 := Lib.hid hE2; have HB2 := Lib.hid (HB1.out.trans hb2); clear ho2 hg2 hv2 hE2 hb2 HIR HMX))
          have HRD2 := Lib.hid (read_any B d vo1 vi1 w2 HE2.out.two.e1 HOKD.out)
          refine HRD2.out.mono ?_
          intro e w3 hp
          obtain ⟨Ar2, rfl, hIr, hE3, hb3⟩ := HE2.out.read1 hp
          have HE3 := Lib.hid hE3
          have HIR := Lib.hid hIr
          have HB3 := Lib.hid (HB2.out.trans hb3)
          clear hIr hE3 hb3 hp p0 HE2 HB2 HE1 HB1 HRD2
          go_wp2_with (at_builtin; go_loud (refine wpList_append_S rfl (.tmp 136) (.tmp 140) 22 22 rfl i0 (.int .u8 0) 1 (.slice 5) Try.underlying22 Try.underlying22 (fun _ h => by cases h) hi hz0 hz1 hz2 rfl rfl rfl HE3.out.oy (Src.ints HIR.out) (by rw [HZY.out]; unfold maxLen; have := HLY.out; omega) (by rw [HZY.out]; have := HLY.out; omega) HE3.out.size ?_; intro A4 c4 w4 ho4 hg4 hv4; rw [HZY.out, HMY.out] at ho4; rw [HZY.out] at hv4 ⊢; obtain ⟨hE4, hb4⟩ := HE3.out.appy ho4 hg4 hv4; have HE4 := Lib.hid hE4; have HB4 := Lib.hid (HB3.out.trans hb4); clear ho4 hg4 hv4 hE4 hb4 HIR HMY))
          go_roundw
          case rel => exact ⟨i1, nn, (readS d).2, (readS l).2, vo1, vi1, vo2, vi2, l.inn, d.inn, A2, c2, A4, c4, rfl, rfl, rfl, rfl, rfl, hb1, hb2, HE4.out, HNX.out, HB4.out⟩
          case measure => simp [intOf]; omega
    · have q1 : decide ((i' : Int) < (R : Int) + 40 + ((a.length : Int) + (b.length : Int)) / 100) = false := decide_eq_false (by have := HK.out; omega)
      skip
      have hKR := HK.out
      have F := Lv.fin hRs.ok.p (hRs.lv (by omega)) (by omega) (by omega) (by omega)
      have ex : xs = a := hRs.xl.trans F.li
      have ey : ys = b := hRs.yd.trans F.di
      have hBW : Below W.heap.size W wr := by rw [HBQ.out]; exact hBl
      have hr1 : (convert 22 9 (.slice Ax xs.length cx)).run Try.prog wr = .ok (.string (strOfNums xs)) wr := run_str_ints 22 9 5 Try.underlying22 Try.underlying5 Try.underlying9 Ax cx xs (OwnS.ints hE.ox)
      have hr2 : (convert 22 9 (.slice A a.length c)).run Try.prog wr = .ok (.string (strOfNums a)) wr := run_str_ints 22 9 5 Try.underlying22 Try.underlying5 Try.underlying9 A c a (HIA.out.below hBW)
      have hr3 : (convert 22 9 (.slice Ay ys.length cy)).run Try.prog wr = .ok (.string (strOfNums ys)) wr := run_str_ints 22 9 5 Try.underlying22 Try.underlying5 Try.underlying9 Ay cy ys (OwnS.ints hE.oy)
      have hr4 : (convert 22 9 (.slice A' b.length c')).run Try.prog wr = .ok (.string (strOfNums b)) wr := run_str_ints 22 9 5 Try.underlying22 Try.underlying5 Try.underlying9 A' c' b (HIB.out.below hBW)
      rw [ex] at hr1 ⊢
      rw [ey] at hr3 ⊢
      have p0 := hE.p0
      have p1 := hE.p1
      have hd1 := done_any B d vo1' vi1' wr hE.two.e1
      rw [F.dea, F.dot] at hd1
      have hd2 := done_any g2 l vo2' vi2' wr hE.two.e2
      rw [F.lea, F.lot] at hd2
      have hi1 := idle_any B d vo1' vi1' wr hE.two.e1 hRs.ok.okd
      rw [idle_of F.dst F.dea F.dow F.dn] at hi1
      have hi2 := fun n => idle_any g2 l vo2' vi2' (wr.drewN n) (hE.drewN n).two.e2 hRs.ok.okl
      rw [idle_of F.lst F.lea F.low F.ln] at hi2
      have HD1 := Lib.hid hd1
      have HD2 := Lib.hid hd2
      have HI1 := Lib.hid hi1
      have HI2 := Lib.hid hi2
      have HE := Lib.hid hE
      have HBW := Lib.hid hBW
      clear hd1 hd2 hi1 hi2 hE hBW hRs F ex ey hBl
      generalize strOfNums a = SA at *
      generalize strOfNums b = SB at *
      generalize wr = w7 at *
      go_wp2_with fail
      refine HD1.out.mono ?_
      rintro e w8 ⟨rfl, rfl⟩
      go_wp2_with fail
      refine HD2.out.mono ?_
      rintro e w8 ⟨rfl, rfl⟩
      go_wp2_with fail
      refine HI1.out.mono ?_
      rintro e w8 ⟨rfl, n8, rfl⟩
      have p1 := (HE.out.drewN n8).p1
      go_wp2_with fail
      refine (HI2.out n8).mono ?_
      rintro e w9 ⟨rfl, n9, rfl⟩
      go_wp2_with fail
      refine (awake18_any _).mono ?_
      rintro e w10 ⟨rfl, hb10⟩
      have HB10 := Lib.hid hb10
      clear hb10
      go_wp2
      go_ret
      exact ⟨rfl, (Below.drewN HBW.out (n8 + n9)).trans (HB10.out.mono (by exact HBW.out.size))⟩
end Go.Proofs.Ytoeipgbnjcgbjaa
