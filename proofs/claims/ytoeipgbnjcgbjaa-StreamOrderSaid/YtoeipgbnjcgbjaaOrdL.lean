/- The walk of StreamOrder. -/
import Derived.Test.YtoeipgbnjcgbjaaOrdC
import Derived.Test.YtoeipgbnjcgbjaaRelC
import Derived.Test.YtoeipgbnjcgbjaaOrdD
import Derived.Deep.RegionHeld3
import Derived.Deep.RegionLaw
import Derived.Deep.CutBlock
namespace Go.Proofs.Ytoeipgbnjcgbjaa
open Go.RowKit
set_option linter.unusedVariables false

/-- The script in memory. -/
def OpsAt (W : World) (As : Option Addr) (n : Nat) : Prop :=
  0 < n → ∃ b o, As = some ⟨b, o, none⟩ ∧ b < W.heap.size ∧ ∀ i, i < n → ∃ (kd who ix : Int) (A : Option Addr) (c : Nat) (xs : List Int),
    W.cell? ⟨b, o + i * 4, none⟩ = some (.int .i64 kd) ∧ W.cell? ⟨b, o + i * 4 + 1, none⟩ = some (.int .i64 who) ∧ W.cell? ⟨b, o + i * 4 + 2, none⟩ = some (.int .i64 ix) ∧ W.cell? ⟨b, o + i * 4 + 3, none⟩ = some (.slice A xs.length c) ∧
    (Lit.int .i64 kd).wf = true ∧ (Lit.int .i64 who).wf = true ∧ (Lit.int .i64 ix).wf = true ∧ Ints .u8 W A xs ∧ Bytes xs ∧ xs.length ≤ c ∧ c ≤ 9223372036854775807
theorem place2 (a : Int) (D : Nat) (h : 0 < D) (h2 : D ≤ 157290000) : ∃ j : Nat, j < D ∧ (wrap64 (a.tmod D + D)).tmod D = (j : Int) := by
  have hb : -(D : Int) < a.tmod D ∧ a.tmod D < D := by
    rcases Int.le_total 0 a with ha | ha
    · rw [Int.tmod_eq_emod_of_nonneg ha]
      have := Int.emod_nonneg a (show (D : Int) ≠ 0 by omega)
      have := Int.emod_lt_of_pos a (show (0 : Int) < D by omega)
      omega
    · have h3 : a.tmod D = -((-a) % D) := by
        rw [← Int.tmod_eq_emod_of_nonneg (show 0 ≤ -a by omega), Int.neg_tmod, Int.neg_neg]
      have := Int.emod_nonneg (-a) (show (D : Int) ≠ 0 by omega)
      have := Int.emod_lt_of_pos (-a) (show (0 : Int) < D by omega)
      omega
  generalize a.tmod D = x at *
  rw [IntWalk.wrap64_in _ (by omega), Int.tmod_eq_emod_of_nonneg (by omega)]
  have h3 := Int.emod_nonneg (x + (D : Int)) (show (D : Int) ≠ 0 by omega)
  have h4 := Int.emod_lt_of_pos (x + (D : Int)) (show (0 : Int) < D by omega)
  generalize (x + (D : Int)) % D = y at *
  exact ⟨y.toNat, by omega, by omega⟩
set_option maxRecDepth 100000 in
set_option maxHeartbeats 40000000 in
theorem streamOrder_walk (As : Option Addr) (n c : Nat) (W : World) (hS : OpsAt W As n) (hn : n ≤ 9223372036854775807) :
    Calls Try.prog 6 #[.slice As n c] W fun e w' => e = .returned (.bool true) ∧ Below W.heap.size W w' := by
  go_enter Try.func6, Try.ntmps6
  go_wp2_with fail
  refine (dial_any 3 _).mono ?_
  intro e w1 hN1
  obtain ⟨rfl, hE1, hb1⟩ := hN1
  go_wp2_with fail
  refine (listen_any 3 _).mono ?_
  intro e w2 hN2
  obtain ⟨rfl, hE2, hb2⟩ := hN2
  go_wp2
  have hR0 : OrdRel 32 49 50 W ⟨w2.heap.size, w2.heap.size + 1, w2.heap.size + 1 + 1, w2.heap.size + 1 + 1 + 1⟩ n (.int .i64 0) (.int .i64 0) _ :=
    ⟨0, 0, _, _, _, rfl, rfl, Nat.zero_le _, Nat.zero_le _, Int.le_refl _, by decide, Mem.init (W := W) (w1 := w1) (w2 := w2) ⟨rfl, hE1, hb1⟩ ⟨rfl, hE2, hb2⟩ _ _ rfl rfl, Pl.zero _ _⟩
  have HR0 := Lib.hid hR0
  clear hR0 hE1 hE2 hb1 hb2
  generalize w2.heap.size + 1 + 1 + 1 = rb at *
  generalize w2.heap.size + 1 + 1 = tb at *
  generalize w2.heap.size + 1 = wb at *
  generalize w2.heap.size = eb at *
  go_loopw [7, 8] (fun nw i wr => OrdRel 32 49 50 W ⟨eb, wb, tb, rb⟩ n nw i wr) (fun _ i _ => n - (intOf i).toNat)
  case atStart => exact HR0.out
  case round =>
    clear HR0
    obtain ⟨N, now, f, a, b, rfl, rfl, hNn, hN1, hn0, hn1, hM, hP⟩ := hrel
    by_cases hlt : N < n ∧ N < 150
    · obtain ⟨hlt, hl5⟩ := hlt
      have d1 : decide ((N : Int) < (n : Int)) = true := decide_eq_true (by omega)
      have d1' : decide (N < n) = true := decide_eq_true hlt
      have d2 : decide ((N : Int) < 150) = true := decide_eq_true (by omega)
      have d2' : decide (N < 150) = true := decide_eq_true hl5
      obtain ⟨bs, os, rfl, hbs, hcells⟩ := hS (by omega)
      obtain ⟨kd, who, ix, Ad, cd, xs, k0, k1, k2, k3, f0, f1, f2, hI, hby, hc1, hc2⟩ := hcells N hlt
      clear hcells hS
      have hbel := hM.bel
      have g0 : wr.cell? ⟨bs, os + N * 4, none⟩ = some (.int .i64 kd) := (hbel.cell (p := ⟨bs, os + N * 4, none⟩) hbs).trans k0
      have g1 : wr.cell? ⟨bs, os + N * 4 + 1, none⟩ = some (.int .i64 who) := (hbel.cell (p := ⟨bs, os + N * 4 + 1, none⟩) hbs).trans k1
      have g2 : wr.cell? ⟨bs, os + N * 4 + 2, none⟩ = some (.int .i64 ix) := (hbel.cell (p := ⟨bs, os + N * 4 + 2, none⟩) hbs).trans k2
      have g3 : wr.cell? ⟨bs, os + N * 4 + 3, none⟩ = some (.slice Ad xs.length cd) := (hbel.cell (p := ⟨bs, os + N * 4 + 3, none⟩) hbs).trans k3
      clear k0 k1 k2 k3
      obtain ⟨k, hk1, hk⟩ : ∃ k : Nat, k ≤ 1 ∧ bits BinOp.and IntKind.i64 who 1 = (k : Int) := ⟨(who % 2).toNat, by omega, by rw [i64_and1]; omega⟩
      obtain ⟨j, a, b, hM, hP⟩ := roles hk1 hM hP
      clear hbel
      go_upto_region 13 with (fail)
      have hSt := St.new (tO := 52) hM rfl (opF_cells kd who ix (.slice Ad xs.length cd))
      clear hk g0 g1 g2 g3 hM f0
      generalize wr.alloc (.cells #[.int .i64 kd, .int .i64 who, .int .i64 ix, .slice Ad xs.length cd] 52) = w0 at *
      generalize wr.heap.size = ob at *
      have kb0 : (0 : Int) ≤ (k : Int) := by omega
      have kb1 : (k : Int) < 2 := by omega
      obtain ⟨L, hL⟩ : ∃ L, a.way.length = L := ⟨_, rfl⟩
      have hLb : L ≤ 157290000 := by have := hP.1.wl; omega
      have HL := Lib.hid hL
      clear hL
      obtain ⟨Aw, cw, hvw⟩ := hSt.wo
      have cW := hSt.cW
      rw [hvw, HL.out] at cW
      have cI : w0.cell? ⟨ob, 2, none⟩ = some (.int .i64 ix) := hSt.cO 2 (by decide)
      clear hvw
      obtain ⟨hEnd, hOk, hFin⟩ := hSt.end_
      clear hEnd hOk hFin
      go_upto_if 47 with (fail)
      go_cut [11] (fun v wx => (∃ m : Nat, v = .int .i64 m ∧ (0 < L → m < L)) ∧ St 32 49 50 52 W wx ⟨eb, wb, tb, rb⟩ ob k j a b (opF kd who ix (.slice Ad xs.length cd)))
      case first => as_aux_lemma =>
        by_cases hL0 : 0 < L
        · have e1 : decide ((0 : Int) < (L : Int)) = true := decide_eq_true (by omega)
          have e1' : decide (0 < L) = true := decide_eq_true hL0
          have z0 : ¬ (L : Int) = 0 := by omega
          have z1 : ¬ L = 0 := by omega
          have z2 : ((L : Int) == 0) = false := by simpa using z1
          obtain ⟨m, hm, em⟩ := place2 ix L hL0 hLb
          have EM := Lib.hid em
          clear em
          go_wp2
          go_quiet (fail)
          go_wp2
          go_meet
          rw [EM.out]
          exact ⟨⟨m, rfl, fun _ => hm⟩, hSt.drew nq⟩
        · have e1 : decide ((0 : Int) < (L : Int)) = false := decide_eq_false (by omega)
          have e1' : decide (0 < L) = false := decide_eq_false hL0
          go_wp2
          go_meet
          exact ⟨⟨0, rfl, fun h => absurd h hL0⟩, hSt⟩
      case rest =>
        obtain ⟨⟨m, rfl, hmL⟩, hSt⟩ := hcut
        clear cW cI
        generalize wc = wd at *
        have cK : wd.cell? ⟨ob, 0, none⟩ = some (.int .i64 kd) := hSt.cO 0 (by decide)
        have cI : wd.cell? ⟨ob, 2, none⟩ = some (.int .i64 ix) := hSt.cO 2 (by decide)
        have cD : wd.cell? ⟨ob, 3, none⟩ = some (.slice Ad xs.length cd) := hSt.cO 3 (by decide)
        have hIx : Ints .u8 wd Ad xs := hI.below hSt.low
        go_upto_block 2 with (fail)
        go_cut [7] (fun v wx => ∃ (now' : Int) (a' b' : Sd), v = .int .i64 now' ∧ 0 ≤ now' ∧ now' ≤ 15 * (N + 1) ∧ PlM (N + 1) a' b' ∧ St 32 49 50 52 W wx ⟨eb, wb, tb, rb⟩ ob k j a' b' (opF kd who ix (.slice Ad xs.length cd)))
        case first => as_aux_lemma =>
          obtain ⟨hE, hOk, hFin⟩ := hSt.end_
          have cE := hSt.cE
          by_cases q0 : kd = 0
          · subst q0
            by_cases h6 : 6000 < xs.length
            · have d6 : decide ((6000 : Int) < (xs.length : Int)) = true := decide_eq_true (by omega)
              have d6' : decide (6000 < xs.length) = true := decide_eq_true h6
              have hlow := hSt.low
              clear hE cE cI cK hIx hOk hFin hI
              have HL := Lib.hid hlow
              have HSZ := Lib.hid hlow.size
              clear hlow
              go_wp2_with fail
              refine (awake18_any _).mono ?_
              rintro e w5 ⟨rfl, hb5⟩
              go_wp2
              go_ret
              exact ⟨rfl, HL.out.trans (hb5.mono HSZ.out)⟩
            · have d6 : decide ((6000 : Int) < (xs.length : Int)) = false := decide_eq_false (by omega)
              have d6' : decide (6000 < xs.length) = false := decide_eq_false h6
              go_upto_region 19 with (fail)
              go_cut [81] (fun v wx => v = .bool ((writeS a.s xs).1 == 0) ∧ ∃ vo', St 32 49 50 52 W wx ⟨eb, wb, tb, rb⟩ ob k j { a with s := (writeS a.s xs).2, vo := vo', vi := a.vi } b (opF 0 who ix (.slice Ad xs.length cd)))
              case first =>
                have HS := Lib.hid hSt.drw
                have HOk := Lib.hid hOk
                have HB := Lib.hid hby
                have HIN := Lib.hid hI
                have hxl : xs.length ≤ 6000 := by omega
                clear hSt hE hOk hFin hby hI
                refine wp_region_ph (by kernel_rfl) [6] [.span 0 0, .span 0 0, .span 0 0, .span 0 0, .span 0 0, .span 0 0, .phase 0, .span 1 1] [fun v => v = .slice (some ⟨eb, 0, none⟩) 2 2, fun v => v = .int .i64 k, fun v => v = .pointer (some ⟨eb, k, none⟩), fun v => v = .pointer (some ⟨a.g, 0, none⟩), fun v => v = .pointer (some ⟨ob, 3, none⟩), fun v => v = .slice Ad xs.length cd, fun v => v = .int .i64 (writeS a.s xs).1, fun v => v = .bool ((writeS a.s xs).1 == 0)] (I19 32 49 50 52 W ⟨eb, wb, tb, rb⟩ ob k j a b (opF 0 who ix (.slice Ad xs.length cd)) (writeS a.s xs).2) (by kernel_rfl) (by kernel_rfl) (by kernel_rfl) (by kernel_rfl) (by kernel_rfl) (by kernel_rfl) rfl rfl (HS.out) ?steps ?done
                case steps =>
                  refine ⟨?_, ?_, ?_, ?_, ?_, ?_, ?_, ?_, trivial⟩
                  · intro us au w1 k0 hlo hhi ha hd hI
                    obtain rfl : k0 = 0 := by omega
                    have q3 := slot_far (t := 3) (v := .slice (some ⟨eb, 0, none⟩) 2 2) ha (by kernel_rfl) (by kernel_rfl)
                    have p3 := slot_norm q3
                    clear ha hd
                    exact StepI.pure (v := .slice (some ⟨eb, 0, none⟩) 2 2) rfl rfl (by go_simp) ⟨rfl, hI⟩
                  · intro us au w1 k1 hlo hhi ha hd hI
                    obtain rfl : k1 = 0 := by omega
                    have q10 := slot_far (t := 10) (v := .int .i64 k) ha (by kernel_rfl) (by kernel_rfl)
                    have p10 := slot_norm q10
                    clear ha hd
                    exact StepI.pure (v := .int .i64 k) rfl rfl (by go_simp) ⟨rfl, hI⟩
                  · intro us au w1 k2 hlo hhi ha hd hI
                    obtain rfl : k2 = 0 := by omega
                    have e0 := hd 0 _ (by kernel_rfl) rfl
                    have e1 := hd 1 _ (by kernel_rfl) rfl
                    have q74 := slot_at (t := 74) 0 ha (by kernel_rfl) (by kernel_rfl) (by kernel_rfl) e0
                    have p74 := slot_norm q74
                    have q75 := slot_at (t := 75) 1 ha (by kernel_rfl) (by kernel_rfl) (by kernel_rfl) e1
                    have p75 := slot_norm q75
                    clear ha hd
                    exact StepI.pure (v := .pointer (some ⟨eb, k, none⟩)) rfl rfl (by go_simp) ⟨rfl, hI⟩
                  · intro us au w1 k3 hlo hhi ha hd hI
                    obtain rfl : k3 = 0 := by omega
                    have e2 := hd 2 _ (by kernel_rfl) rfl
                    have q76 := slot_at (t := 76) 2 ha (by kernel_rfl) (by kernel_rfl) (by kernel_rfl) e2
                    have p76 := slot_norm q76
                    clear ha hd
                    have cl := hI.cE
                    exact StepI.pure (v := .pointer (some ⟨a.g, 0, none⟩)) rfl rfl (by go_simp) ⟨rfl, hI⟩
                  · intro us au w1 k4 hlo hhi ha hd hI
                    obtain rfl : k4 = 0 := by omega
                    have q9 := slot_far (t := 9) (v := .pointer (some ⟨ob, 0, none⟩)) ha (by kernel_rfl) (by kernel_rfl)
                    have p9 := slot_norm q9
                    clear ha hd
                    exact StepI.pure (v := .pointer (some ⟨ob, 3, none⟩)) rfl rfl (by go_simp) ⟨rfl, hI⟩
                  · intro us au w1 k5 hlo hhi ha hd hI
                    obtain rfl : k5 = 0 := by omega
                    have e4 := hd 4 _ (by kernel_rfl) rfl
                    have q78 := slot_at (t := 78) 4 ha (by kernel_rfl) (by kernel_rfl) (by kernel_rfl) e4
                    have p78 := slot_norm q78
                    clear ha hd
                    have cl : w1.cell? ⟨ob, 3, none⟩ = some (.slice Ad xs.length cd) := hI.cO 3 (by decide)
                    exact StepI.pure (v := .slice Ad xs.length cd) rfl rfl (by go_simp) ⟨rfl, hI⟩
                  · intro us au w1 ha hd hI
                    have e3 := hd 3 _ (by kernel_rfl) rfl
                    have e5 := hd 5 _ (by kernel_rfl) rfl
                    have q77 := slot_at (t := 77) 3 ha (by kernel_rfl) (by kernel_rfl) (by kernel_rfl) e3
                    have p77 := slot_norm q77
                    have q79 := slot_at (t := 79) 5 ha (by kernel_rfl) (by kernel_rfl) (by kernel_rfl) e5
                    have p79 := slot_norm q79
                    clear ha hd
                    refine StepI.call (f := 21) (args := #[.pointer (some ⟨a.g, 0, none⟩), .slice Ad xs.length cd]) rfl rfl (by go_simp) ?_
                    refine (write_any a.g a.s a.vo a.vi Ad xs.length cd xs w1 hI.end_.1 HOk.out (HIN.out.below hI.low) rfl (by omega)).mono ?_
                    intro e w5 hW5
                    obtain ⟨vo', he, hSt5⟩ := hI.write HB.out hW5
                    exact ⟨_, he, rfl, ⟨vo', hSt5⟩⟩
                  · intro us au w1 k7 hlo hhi ha hd hI
                    obtain rfl : k7 = 1 := by omega
                    have e6 := hd 6 _ (by kernel_rfl) rfl
                    have q80 := slot_at (t := 80) 6 ha (by kernel_rfl) (by kernel_rfl) (by kernel_rfl) e6
                    have p80 := slot_norm q80
                    clear ha hd
                    exact StepI.pure (v := .bool ((writeS a.s xs).1 == 0)) rfl rfl (by go_simp) ⟨rfl, hI⟩
                case done =>
                  intro us w1 hI hd
                  have e7 := hd 7 _ (by decide) rfl
                  obtain ⟨vo', hSt5⟩ := hI
                  clear hd HS HIN HOk HB
                  simp only [putAll]
                  go_simp
                  go_wp2
                  go_meet
                  exact ⟨(by first | rfl | exact e7), _, hSt5⟩
              case rest =>
                have hxl : xs.length ≤ 6000 := by omega
                obtain ⟨rfl, vo', hSt⟩ := hcut
                clear cE cI cK cD hIx hE
                generalize wc = we at *
                by_cases hw : (writeS a.s xs).1 = 0
                · have dw : ((writeS a.s xs).1 == 0) = true := by rw [hw]; rfl
                  have hIx : Ints .u8 we Ad xs := hI.below hSt.low
                  have cD : we.cell? ⟨ob, 3, none⟩ = some (.slice Ad xs.length cd) := hSt.cO 3 (by decide)
                  have cT : we.cell? ⟨tb, k, none⟩ = some a.vt := hSt.cT
                  have hr : OwnS we 0 5 1 a.vt a.tl.length (a.tl.map (Value.int .u8)) := hSt.rows.1
                  have htl : a.tl.length ≤ 1048576 := by rw [hP.1.t]; exact_mod_cast hOk.outl
                  have hPW := Lib.hid (fun vt => (hP.wrote xs hw vo' a.vi vt).1)
                  have HS := Lib.hid hSt.drw
                  have HIN := Lib.hid hI
                  clear hSt hr hI hw hOk hFin hby
                  obtain ⟨i0, hi, hz0, hz1, hz2⟩ := info_parts Try.info_u8
                  go_upto_region 20 with (fail)
                  refine wp_region_ph (by kernel_rfl) [6, 8] [.span 0 1, .span 0 0, .span 0 0, .span 0 0, .span 0 0, .span 0 0, .phase 0, .span 0 1, .phase 1] [fun v => v = .int .i64 k, fun v => v = .int .i64 k, fun v => v = .pointer (some ⟨tb, k, none⟩), fun v => v = a.vt, fun v => v = .pointer (some ⟨ob, 3, none⟩), fun v => v = .slice Ad xs.length cd, fun v => ∃ A c, v = .slice A (a.tl.length + xs.length) c, fun v => v = .pointer (some ⟨tb, k, none⟩), fun _ => True] (IApp (fun w => St 32 49 50 52 W w ⟨eb, wb, tb, rb⟩ ob k j { a with s := (writeS a.s xs).2, vo := vo', vi := a.vi } b (opF 0 who ix (.slice Ad xs.length cd))) (fun w => ∃ f, Cel w tb 50 2 f) (fun v w => St 32 49 50 52 W w ⟨eb, wb, tb, rb⟩ ob k j { a with s := (writeS a.s xs).2, vo := vo', vi := a.vi, vt := v, tl := a.tl ++ xs } b (opF 0 who ix (.slice Ad xs.length cd))) ⟨tb, k, none⟩) (by kernel_rfl) (by kernel_rfl) (by kernel_rfl) (by kernel_rfl) (by kernel_rfl) (by kernel_rfl) rfl rfl (HS.out) ?steps ?done
                  case steps =>
                    refine ⟨?_, ?_, ?_, ?_, ?_, ?_, ?_, ?_, ?_, trivial⟩
                    · intro us au w1 k0 hlo hhi ha hd hI
                      have q10 := slot_far (t := 10) (v := .int .i64 k) ha (by kernel_rfl) (by kernel_rfl)
                      have p10 := slot_norm q10
                      clear ha hd
                      exact StepI.pure (v := .int .i64 k) rfl rfl (by go_simp) ⟨rfl, hI⟩
                    · intro us au w1 k1 hlo hhi ha hd hI
                      obtain rfl : k1 = 0 := by omega
                      have q10 := slot_far (t := 10) (v := .int .i64 k) ha (by kernel_rfl) (by kernel_rfl)
                      have p10 := slot_norm q10
                      clear ha hd
                      exact StepI.pure (v := .int .i64 k) rfl rfl (by go_simp) ⟨rfl, hI⟩
                    · intro us au w1 k2 hlo hhi ha hd hI
                      obtain rfl : k2 = 0 := by omega
                      have e1 := hd 1 _ (by kernel_rfl) rfl
                      have q5 := slot_far (t := 5) (v := .pointer (some ⟨tb, 0, none⟩)) ha (by kernel_rfl) (by kernel_rfl)
                      have p5 := slot_norm q5
                      have q83 := slot_at (t := 83) 1 ha (by kernel_rfl) (by kernel_rfl) (by kernel_rfl) e1
                      have p83 := slot_norm q83
                      clear ha hd
                      exact StepI.pure (v := .pointer (some ⟨tb, k, none⟩)) rfl rfl (by go_simp) ⟨rfl, hI⟩
                    · intro us au w1 k3 hlo hhi ha hd hI
                      obtain rfl : k3 = 0 := by omega
                      have e2 := hd 2 _ (by kernel_rfl) rfl
                      have q84 := slot_at (t := 84) 2 ha (by kernel_rfl) (by kernel_rfl) (by kernel_rfl) e2
                      have p84 := slot_norm q84
                      clear ha hd
                      have cl := hI.cT
                      exact StepI.pure (v := a.vt) rfl rfl (by go_simp) ⟨rfl, hI⟩
                    · intro us au w1 k4 hlo hhi ha hd hI
                      obtain rfl : k4 = 0 := by omega
                      have q9 := slot_far (t := 9) (v := .pointer (some ⟨ob, 0, none⟩)) ha (by kernel_rfl) (by kernel_rfl)
                      have p9 := slot_norm q9
                      clear ha hd
                      exact StepI.pure (v := .pointer (some ⟨ob, 3, none⟩)) rfl rfl (by go_simp) ⟨rfl, hI⟩
                    · intro us au w1 k5 hlo hhi ha hd hI
                      obtain rfl : k5 = 0 := by omega
                      have e4 := hd 4 _ (by kernel_rfl) rfl
                      have q86 := slot_at (t := 86) 4 ha (by kernel_rfl) (by kernel_rfl) (by kernel_rfl) e4
                      have p86 := slot_norm q86
                      clear ha hd
                      have cl : w1.cell? ⟨ob, 3, none⟩ = some (.slice Ad xs.length cd) := hI.cO 3 (by decide)
                      exact StepI.pure (v := .slice Ad xs.length cd) rfl rfl (by go_simp) ⟨rfl, hI⟩
                    · intro us au w1 ha hd hI
                      have e3 := hd 3 _ (by kernel_rfl) rfl
                      have e5 := hd 5 _ (by kernel_rfl) rfl
                      have q85 := slot_at (t := 85) 3 ha (by kernel_rfl) (by kernel_rfl) (by kernel_rfl) e3
                      have p85 := slot_norm q85
                      have q87 := slot_at (t := 87) 5 ha (by kernel_rfl) (by kernel_rfl) (by kernel_rfl) e5
                      have p87 := slot_norm q87
                      clear ha hd
                      refine StepI.wp rfl rfl (fun K hK => ?_)
                      refine wp_append_S (.tmp 85) (.tmp 87) 22 22 rfl i0 (.int .u8 0) 1 (.slice 5) Try.underlying22 Try.underlying22 (fun _ h => by cases h) hi hz0 hz1 hz2 rfl (v := a.vt) (x := .slice Ad xs.length cd) q85 q87 hI.rows.1 (Src.ints (HIN.out.below hI.low)) (by show a.tl.length + xs.length ≤ _; unfold maxLen; omega) (by show (a.tl.length + xs.length) * 1 ≤ _; omega) (Nat.zero_le _) (fun A c w9 ho9 hg9 hw9 => hK _ _ ⟨⟨A, c, rfl⟩, ⟨⟨_, (hI.celT hg9).choose_spec.1⟩, hI.rowT ho9 rfl hg9 hw9⟩⟩)
                    · intro us au w1 k7 hlo hhi ha hd hI
                      have e0 := hd 0 _ (by kernel_rfl) rfl
                      have q5 := slot_far (t := 5) (v := .pointer (some ⟨tb, 0, none⟩)) ha (by kernel_rfl) (by kernel_rfl)
                      have p5 := slot_norm q5
                      have q82 := slot_at (t := 82) 0 ha (by kernel_rfl) (by kernel_rfl) (by kernel_rfl) e0
                      have p82 := slot_norm q82
                      clear ha hd
                      exact StepI.pure (v := .pointer (some ⟨tb, k, none⟩)) rfl rfl (by go_simp) ⟨rfl, hI⟩
                    · intro us au w1 ha hd hI
                      have e7 := hd 7 _ (by kernel_rfl) rfl
                      obtain ⟨A6, c6, e6⟩ := hd 6 _ (by kernel_rfl) rfl
                      have q89 := slot_at (t := 89) 7 ha (by kernel_rfl) (by kernel_rfl) (by kernel_rfl) e7
                      have p89 := slot_norm q89
                      have q88 := slot_at (t := 88) 6 ha (by kernel_rfl) (by kernel_rfl) (by kernel_rfl) (Eq.refl (us 6))
                      have p88 := slot_norm q88
                      clear ha hd
                      obtain ⟨⟨F9, hC9⟩, hfin⟩ := hI
                      have hjlt : k < 2 := by omega
                      have y9 := hC9.cell k hjlt
                      have yf := hC9.frozen k
                      exact StepI.stored (w' := w1.setCell ⟨tb, k, none⟩ (us 6)) rfl rfl (by go_simp) ⟨trivial, ⟨_, hfin⟩⟩
                  case done =>
                    intro us w1 hI hd
                    obtain ⟨vt', hSt5⟩ := hI
                    clear hd HS HIN
                    simp only [putAll]
                    go_simp
                    go_wp2
                    go_meet
                    exact ⟨now, _, b, rfl, hn0, by omega, hPW.out _, hSt5⟩
                · have dw : ((writeS a.s xs).1 == 0) = false := by rw [beq_eq_false_iff_ne]; exact hw
                  go_wp2
                  go_meet
                  exact ⟨now, _, b, rfl, hn0, by omega, hP.notWrote xs hw vo' a.vi, hSt⟩
          · have n0 : (kd == 0) = false := by rw [beq_eq_false_iff_ne]; exact q0
            by_cases q1 : kd = 1
            · subst q1
              have HP := Lib.hid (fun (s' : En) (h : s'.out = a.s.out ∧ s'.inn = a.s.inn ∧ s'.read = a.s.read) => hP.same (s' := s') (vo := a.vo) (vi := a.vi) h.1 h.2.1 h.2.2)
              have hcl := close_any a.g a.s a.vo a.vi wd hE
              have HS := Lib.hid hSt
              clear hSt hE hP hOk hFin hIx cD cI
              go_wp2_with fail
              refine hcl.mono ?_
              rintro e w5 ⟨rfl, hE5, hC5⟩
              go_wp2
              go_meet
              exact ⟨now, _, b, rfl, hn0, by omega, HP.out _ (closeS_out _), HS.out.close hE5 hC5⟩
            · have n1 : (kd == 1) = false := by rw [beq_eq_false_iff_ne]; exact q1
              by_cases q8 : kd = 8
              · subst q8
                have hx : bits BinOp.and IntKind.i64 ix 15 = ix % 16 := i64_and15 ix
                have hx0 := Int.emod_nonneg ix (show (16 : Int) ≠ 0 by decide)
                have hx1 := Int.emod_lt_of_pos ix (show (0 : Int) < 16 by decide)
                generalize ix % 16 = y at *
                have hwy : IntKind.i64.wrap (now + y) = now + y := IntWalk.i64_in _ (by omega)
                have HS := Lib.hid hSt
                have HP := Lib.hid hP.mid
                clear hSt hE hP hOk hFin hIx cD cE
                go_wp2
                go_meet
                exact ⟨now + y, a, b, rfl, by omega, by omega, HP.out, HS.out⟩
              · have n8 : (kd == 8) = false := by rw [beq_eq_false_iff_ne]; exact q8
                by_cases q3 : kd = 3
                · subst q3
                  obtain ⟨Aj, cj, hvj⟩ : ∃ A c, b.vw = .slice A b.way.length c := by
                    obtain ⟨f9, hM9⟩ := hSt.mem
                    obtain ⟨vs9, ho9, _⟩ := hM9.sb.wo
                    exact ho9.shape
                  have hkj := hSt.kj
                  have cWj := hSt.cWj
                  have wj : IntKind.i64.wrap (1 - (k : Int)) = (j : Int) := by rw [IntWalk.i64_in _ (by omega)]; omega
                  have wj' : (1 : Int) - (k : Int) = (j : Int) := by omega
                  have j0 : (0 : Int) ≤ (j : Int) := by omega
                  have j1 : (j : Int) < 2 := by omega
                  have hnw : (Lit.int .i64 now).wf = true := WalkArith.wf_i64 (by omega)
                  have hlw : b.way.length ≤ 157290000 := by have := hP.2.wl; omega
                  have hlo := outS_len a.s now hOk
                  have HP := Lib.hid (fun vw => hP.out now hOk hnw a.vo a.vi vw)
                  have HS := Lib.hid hSt.drw
                  have HO := Lib.hid (out_any a.g a.s a.vo a.vi now wd.drew hSt.drw.end_.1 hOk hnw)
                  have HNW := Lib.hid hnw
                  have HOK := Lib.hid hOk
                  have hbd : b.way.length + (outS a.s now).1.length ≤ 160000000 := by omega
                  clear hSt hE hP hOk hFin hIx cD cI hkj hnw hI
                  obtain ⟨i0, hi, hz0, hz1, hz2⟩ := info_parts Try.info_bs
                  go_upto_region 24 with (fail)
                  refine wp_region_ph (by kernel_rfl) [11, 12, 14] [.span 0 2, .span 0 2, .span 0 1, .span 0 1, .span 0 1, .span 0 1, .span 0 0, .span 0 0, .span 0 0, .span 0 0, .span 0 0, .phase 0, .phase 1, .span 0 2, .phase 2] [fun v => v = .int .i64 k, fun v => v = .int .i64 j, fun v => v = .int .i64 k, fun v => v = .int .i64 j, fun v => v = .pointer (some ⟨wb, j, none⟩), fun v => v = b.vw, fun v => v = .slice (some ⟨eb, 0, none⟩) 2 2, fun v => v = .int .i64 k, fun v => v = .pointer (some ⟨eb, k, none⟩), fun v => v = .pointer (some ⟨a.g, 0, none⟩), fun v => v = .int .i64 now, fun v => ∃ A, v = .slice A (outS a.s now).1.length (outS a.s now).1.length, fun v => ∃ A c, v = .slice A (b.way.length + (outS a.s now).1.length) c, fun v => v = .pointer (some ⟨wb, j, none⟩), fun _ => True] (I24 32 49 50 52 W ⟨eb, wb, tb, rb⟩ ob k j a b (opF 3 who ix (.slice Ad xs.length cd)) (outS a.s now).2 (outS a.s now).1) (by kernel_rfl) (by kernel_rfl) (by kernel_rfl) (by kernel_rfl) (by kernel_rfl) (by kernel_rfl) rfl rfl (HS.out) ?steps ?done
                  case steps =>
                    refine ⟨?_, ?_, ?_, ?_, ?_, ?_, ?_, ?_, ?_, ?_, ?_, ?_, ?_, ?_, ?_, trivial⟩
                    · intro us au w1 k0 hlo hhi ha hd hI
                      have q10 := slot_far (t := 10) (v := .int .i64 k) ha (by kernel_rfl) (by kernel_rfl)
                      have p10 := slot_norm q10
                      clear ha hd
                      exact StepI.pure (v := .int .i64 k) rfl rfl (by go_simp) ⟨rfl, hI⟩
                    · intro us au w1 k1 hlo hhi ha hd hI
                      have e0 := hd 0 _ (by kernel_rfl) rfl
                      have q99 := slot_at (t := 99) 0 ha (by kernel_rfl) (by kernel_rfl) (by kernel_rfl) e0
                      have p99 := slot_norm q99
                      clear ha hd
                      exact StepI.pure (v := .int .i64 j) rfl rfl (by go_simp; exact IntWalk.i64_in _ (by omega)) ⟨rfl, hI⟩
                    · intro us au w1 k2 hlo hhi ha hd hI
                      have q10 := slot_far (t := 10) (v := .int .i64 k) ha (by kernel_rfl) (by kernel_rfl)
                      have p10 := slot_norm q10
                      clear ha hd
                      exact StepI.pure (v := .int .i64 k) rfl rfl (by go_simp) ⟨rfl, hI⟩
                    · intro us au w1 k3 hlo hhi ha hd hI
                      have e2 := hd 2 _ (by kernel_rfl) rfl
                      have q101 := slot_at (t := 101) 2 ha (by kernel_rfl) (by kernel_rfl) (by kernel_rfl) e2
                      have p101 := slot_norm q101
                      clear ha hd
                      exact StepI.pure (v := .int .i64 j) rfl rfl (by go_simp; exact IntWalk.i64_in _ (by omega)) ⟨rfl, hI⟩
                    · intro us au w1 k4 hlo hhi ha hd hI
                      have e3 := hd 3 _ (by kernel_rfl) rfl
                      have q4 := slot_far (t := 4) (v := .pointer (some ⟨wb, 0, none⟩)) ha (by kernel_rfl) (by kernel_rfl)
                      have p4 := slot_norm q4
                      have q102 := slot_at (t := 102) 3 ha (by kernel_rfl) (by kernel_rfl) (by kernel_rfl) e3
                      have p102 := slot_norm q102
                      clear ha hd
                      exact StepI.pure (v := .pointer (some ⟨wb, j, none⟩)) rfl rfl (by go_simp) ⟨rfl, hI⟩
                    · intro us au w1 k5 hlo hhi ha hd hI
                      have e4 := hd 4 _ (by kernel_rfl) rfl
                      have q103 := slot_at (t := 103) 4 ha (by kernel_rfl) (by kernel_rfl) (by kernel_rfl) e4
                      have p103 := slot_norm q103
                      clear ha hd
                      have cl := I24.cell hhi hI
                      exact StepI.pure (v := b.vw) rfl rfl (by go_simp) ⟨rfl, hI⟩
                    · intro us au w1 k6 hlo hhi ha hd hI
                      obtain rfl : k6 = 0 := by omega
                      have q3 := slot_far (t := 3) (v := .slice (some ⟨eb, 0, none⟩) 2 2) ha (by kernel_rfl) (by kernel_rfl)
                      have p3 := slot_norm q3
                      clear ha hd
                      exact StepI.pure (v := .slice (some ⟨eb, 0, none⟩) 2 2) rfl rfl (by go_simp) ⟨rfl, hI⟩
                    · intro us au w1 k7 hlo hhi ha hd hI
                      obtain rfl : k7 = 0 := by omega
                      have q10 := slot_far (t := 10) (v := .int .i64 k) ha (by kernel_rfl) (by kernel_rfl)
                      have p10 := slot_norm q10
                      clear ha hd
                      exact StepI.pure (v := .int .i64 k) rfl rfl (by go_simp) ⟨rfl, hI⟩
                    · intro us au w1 k8 hlo hhi ha hd hI
                      obtain rfl : k8 = 0 := by omega
                      have e6 := hd 6 _ (by kernel_rfl) rfl
                      have e7 := hd 7 _ (by kernel_rfl) rfl
                      have q105 := slot_at (t := 105) 6 ha (by kernel_rfl) (by kernel_rfl) (by kernel_rfl) e6
                      have p105 := slot_norm q105
                      have q106 := slot_at (t := 106) 7 ha (by kernel_rfl) (by kernel_rfl) (by kernel_rfl) e7
                      have p106 := slot_norm q106
                      clear ha hd
                      exact StepI.pure (v := .pointer (some ⟨eb, k, none⟩)) rfl rfl (by go_simp) ⟨rfl, hI⟩
                    · intro us au w1 k9 hlo hhi ha hd hI
                      obtain rfl : k9 = 0 := by omega
                      have e8 := hd 8 _ (by kernel_rfl) rfl
                      have q107 := slot_at (t := 107) 8 ha (by kernel_rfl) (by kernel_rfl) (by kernel_rfl) e8
                      have p107 := slot_norm q107
                      clear ha hd
                      have cl := hI.cE
                      exact StepI.pure (v := .pointer (some ⟨a.g, 0, none⟩)) rfl rfl (by go_simp) ⟨rfl, hI⟩
                    · intro us au w1 k10 hlo hhi ha hd hI
                      obtain rfl : k10 = 0 := by omega
                      have q7 := slot_far (t := 7) (v := .int .i64 now) ha (by kernel_rfl) (by kernel_rfl)
                      have p7 := slot_norm q7
                      clear ha hd
                      exact StepI.pure (v := .int .i64 now) rfl rfl (by go_simp) ⟨rfl, hI⟩
                    · intro us au w1 ha hd hI
                      have e9 := hd 9 _ (by kernel_rfl) rfl
                      have e10 := hd 10 _ (by kernel_rfl) rfl
                      have q108 := slot_at (t := 108) 9 ha (by kernel_rfl) (by kernel_rfl) (by kernel_rfl) e9
                      have p108 := slot_norm q108
                      have q109 := slot_at (t := 109) 10 ha (by kernel_rfl) (by kernel_rfl) (by kernel_rfl) e10
                      have p109 := slot_norm q109
                      clear ha hd
                      refine StepI.call (f := 22) (args := #[.pointer (some ⟨a.g, 0, none⟩), .int .i64 now]) rfl rfl (by go_simp) ?_
                      refine (out_any a.g a.s a.vo a.vi now w1 hI.end_.1 HOK.out HNW.out).mono ?_
                      intro e w5 hO5
                      obtain ⟨Ao, he, hSO⟩ := hI.out HNW.out hO5
                      exact ⟨_, he, ⟨Ao, rfl⟩, ⟨Ao, rfl, hSO⟩⟩
                    · intro us au w1 ha hd hI
                      have e5 := hd 5 _ (by kernel_rfl) rfl
                      obtain ⟨A11, e11⟩ := hd 11 _ (by kernel_rfl) rfl
                      have q104 := slot_at (t := 104) 5 ha (by kernel_rfl) (by kernel_rfl) (by kernel_rfl) e5
                      have p104 := slot_norm q104
                      have q110 := slot_at (t := 110) 11 ha (by kernel_rfl) (by kernel_rfl) (by kernel_rfl) (Eq.refl (us 11))
                      have p110 := slot_norm q110
                      clear ha hd
                      obtain ⟨Ao, hv, hSO⟩ := hI
                      rw [hv] at q110
                      obtain ⟨vs, us, hov, hou, hone, hfin⟩ := hSO.join (v' := undef)
                      refine StepI.wp rfl rfl (fun K hK => ?_)
                      refine wp_append_S (.tmp 104) (.tmp 110) 36 36 rfl i0 (.slice none 0 0) 24 (.slice 22) Try.underlying36 Try.underlying36 (fun _ h => by cases h) hi hz0 hz1 hz2 rfl (v := b.vw) (x := .slice Ao (outS a.s now).1.length (outS a.s now).1.length) q104 q110 hov (Src.owns hou hone) (by unfold maxLen; omega) (by omega) (Nat.zero_le _) (fun A c w9 ho9 hg9 hw9 => hK _ _ ⟨⟨A, c, rfl⟩, ⟨⟨_, (hSO.celW hg9).choose_spec.1⟩, hfin _ _ _ ho9 rfl hg9 hw9⟩⟩)
                    · intro us au w1 k13 hlo hhi ha hd hI
                      have e1 := hd 1 _ (by kernel_rfl) rfl
                      have q4 := slot_far (t := 4) (v := .pointer (some ⟨wb, 0, none⟩)) ha (by kernel_rfl) (by kernel_rfl)
                      have p4 := slot_norm q4
                      have q100 := slot_at (t := 100) 1 ha (by kernel_rfl) (by kernel_rfl) (by kernel_rfl) e1
                      have p100 := slot_norm q100
                      clear ha hd
                      exact StepI.pure (v := .pointer (some ⟨wb, j, none⟩)) rfl rfl (by go_simp) ⟨rfl, hI⟩
                    · intro us au w1 ha hd hI
                      have e13 := hd 13 _ (by kernel_rfl) rfl
                      obtain ⟨A12, c12, e12⟩ := hd 12 _ (by kernel_rfl) rfl
                      have q112 := slot_at (t := 112) 13 ha (by kernel_rfl) (by kernel_rfl) (by kernel_rfl) e13
                      have p112 := slot_norm q112
                      have q111 := slot_at (t := 111) 12 ha (by kernel_rfl) (by kernel_rfl) (by kernel_rfl) (Eq.refl (us 12))
                      have p111 := slot_norm q111
                      clear ha hd
                      obtain ⟨⟨F9, hC9⟩, hfin⟩ := hI
                      have hjlt : j < 2 := by omega
                      have y9 := hC9.cell j hjlt
                      have yf := hC9.frozen j
                      exact StepI.stored (w' := w1.setCell ⟨wb, j, none⟩ (us 12)) rfl rfl (by go_simp) ⟨trivial, ⟨_, hfin⟩⟩
                  case done =>
                    intro us w1 hI hd
                    obtain ⟨vw', hSt5⟩ := hI
                    clear hd HS
                    simp only [putAll]
                    go_simp
                    go_wp2
                    go_meet
                    exact ⟨now, _, _, rfl, hn0, by omega, HP.out _, hSt5⟩
                · have n3 : (kd == 3) = false := by rw [beq_eq_false_iff_ne]; exact q3
                  by_cases q456 : kd = 4 ∨ kd = 5 ∨ kd = 6
                  · skip
                    have hnw : (Lit.int .i64 now).wf = true := WalkArith.wf_i64 (by omega)
                    have HNW := Lib.hid hnw
                    clear hnw hI hIx cD q0 q1 q8 q3
                    obtain ⟨Aw, cw, hvw⟩ := hSt.wo
                    have cW := hSt.cW
                    rw [hvw, HL.out] at cW
                    by_cases hL0 : L = 0
                    · have z2 : ((L : Int) == 0) = true := by simp [hL0]
                      have z3 : decide ((L : Int) = 0) = true := decide_eq_true (by omega)
                      obtain ⟨⟨f9, hM9, _⟩, _⟩ := hSt
                      have HM := Lib.hid hM9
                      have HP := Lib.hid hP
                      clear hE hOk hFin hvw hM9 hP
                      rcases q456 with rfl | rfl | rfl
                      all_goals
                        go_wp2
                        go_roundw
                        case rel => exact OrdRel.of (N := N + 1) (by omega) (by omega) hn0 (by omega) HM.out ⟨HP.out.1.next, HP.out.2.next⟩
                        case measure => simp [intOf]; omega
                    · have z2 : ((L : Int) == 0) = false := by simpa using hL0
                      have z3 : decide ((L : Int) = 0) = false := decide_eq_false (by omega)
                      have hml := hmL (by omega)
                      have hml' : m < a.way.length := by rw [HL.out]; exact hml
                      obtain ⟨vs, As, hvm, hod, how, htw, hcu⟩ := hSt.twice hml'
                      have hdm : a.way.getD m [] ∈ a.way := by
                        rw [List.getD_eq_getElem?_getD, List.getElem?_eq_getElem hml']; exact List.getElem_mem hml'
                      generalize a.way.getD m [] = d at *
                      obtain ⟨gw, ow, cw', hvw', hcw1, hcw2, hgw, hcell⟩ := how.place (by omega)
                      rw [hvw] at hvw'
                      injection hvw' with hAw _ hcc
                      subst hAw; subst hcc
                      have cS : wd.cell? ⟨gw, ow + m, none⟩ = some (.slice As d.length d.length) := (hcell m (by rw [how.1]; omega)).trans hvm
                      clear hcell
                      have m0 : (0 : Int) ≤ (m : Int) := by omega
                      have m1 : (m : Int) < (L : Int) := by omega
                      obtain ⟨hdb, hdl⟩ := (hP.1.sent d hdm).ok
                      rcases q456 with rfl | rfl | rfl
                      · have hin := in_any a.g a.s a.vo a.vi As d.length d.length d now wd hE hOk hod.ints rfl hdb (Nat.le_refl _) (by omega) (by omega)
                        have HS0 := Lib.hid hSt
                        have hPmk := fun vi => hP.took d hdm now a.vo vi
                        have HPK := Lib.hid hPmk
                        clear hSt hE hOk hFin hvw hP hPmk hdm htw hcu how hod hvm
                        go_wp2_with fail
                        refine hin.mono ?_
                        intro e w5 hT5
                        obtain ⟨rfl, vi5, hSt5⟩ := HS0.out.take hdb HNW.out hT5
                        have hPm := HPK.out vi5
                        clear hin hT5 HS0 HPK cW cS cE cK cI
                        generalize ha6 : ({ a with s := inS a.s d now, vo := a.vo, vi := vi5 } : Sd) = a6 at *
                        have hL6 : a6.way.length = L := by rw [← ha6]; exact HL.out
                        have hml6 : m < a6.way.length := by rw [hL6]; exact hml
                        clear ha6
                        have hSt6 := hSt5.drw
                        have cK : w5.cell? ⟨ob, 0, none⟩ = some (.int .i64 4) := hSt5.cO 0 (by decide)
                        clear hSt5
                        obtain ⟨vs6, g6, o6, c6, hv6, hc61, hc62, how6, hon6, hwb6, hce6, hcu6⟩ := hSt6.cutRow hml6
                        have cW6 := hSt6.cW
                        rw [hv6] at cW6
                        have HS := Lib.hid hSt6
                        have HL6 := Lib.hid hL6
                        have hL6b : a6.way.length ≤ 157290000 := by rw [hL6]; exact hLb
                        have hmi : (m : Int) + 1 ≤ (a6.way.length : Int) := by omega
                        have hmi2 : (m : Int) ≤ (c6 : Int) := by omega
                        have hmi3 : (0 : Int) ≤ (m : Int) + 1 := by omega
                        have hmn : ((m : Int) + 1).toNat = m + 1 := by omega
                        have hdrop := how6.drop1 (k := m + 1) (by omega)
                        obtain ⟨V6, hV6⟩ : ∃ V, V = Value.slice (if c6 = m + 1 then (some ⟨g6, o6, none⟩ : Option Addr) else (some ⟨g6, o6, none⟩ : Option Addr).map (·.add (m + 1))) (a6.way.length - (m + 1)) (c6 - (m + 1)) := ⟨_, rfl⟩
                        have HV1 := Lib.hid (show c6 = m + 1 → V6 = .slice (some ⟨g6, o6, none⟩) (a6.way.length - (m + 1)) (c6 - (m + 1)) from fun h => by rw [hV6, if_pos h])
                        have HV2 := Lib.hid (show ¬ c6 = m + 1 → V6 = .slice (some ⟨g6, o6 + (m + 1), none⟩) (a6.way.length - (m + 1)) (c6 - (m + 1)) from fun h => by rw [hV6, if_neg h, Option.map_some, Addr.add_lit])
                        have HV3 := Lib.hid hV6
                        rw [← hV6] at hdrop
                        obtain ⟨i0, hi, hz0, hz1, hz2⟩ := info_parts Try.info_bs
                        have HPM := Lib.hid (fun vw => hPm.cut m vw)
                        clear hSt6 hv6 hL6 hV6 hPm
                        unfold maxLen at hc62
                        go_upto_region 34 with (fail)
                        refine wp_region_ph (by kernel_rfl) [1, 7, 14, 16] [.span 0 3, .phase 0, .span 0 1, .span 0 1, .span 0 1, .span 0 1, .span 0 1, .phase 1, .span 0 2, .span 0 2, .span 0 2, .span 0 2, .span 0 2, .span 0 2, .phase 2, .span 0 3, .phase 3] [fun v => v = .int .i64 k, fun v => ∃ g, v = .slice (some ⟨g, 0, none⟩) 0 0, fun v => v = .int .i64 k, fun v => v = .pointer (some ⟨wb, k, none⟩), fun v => v = .slice (some ⟨g6, o6, none⟩) a6.way.length c6, fun v => v = .int .i64 m, fun v => v = .slice (some ⟨g6, o6, none⟩) m c6, fun v => ∃ A c, v = .slice A (0 + m) c, fun v => v = .int .i64 k, fun v => v = .pointer (some ⟨wb, k, none⟩), fun v => v = .slice (some ⟨g6, o6, none⟩) a6.way.length c6, fun v => v = .int .i64 m, fun v => v = .int .i64 ((m : Int) + 1), fun v => v = V6, fun v => ∃ A c, v = .slice A (m + (a6.way.length - (m + 1))) c, fun v => v = .pointer (some ⟨wb, k, none⟩), fun _ => True] (I34 w5.drew a6.way.length m vs6 (fun w => ∃ f, Cel w wb 49 2 f) (fun v w => St 32 49 50 52 W w ⟨eb, wb, tb, rb⟩ ob k j { a6 with vw := v, way := a6.way.take m ++ a6.way.drop (m + 1) } b (opF 4 who ix (.slice Ad xs.length cd))) ⟨wb, k, none⟩) (by kernel_rfl) (by kernel_rfl) (by kernel_rfl) (by kernel_rfl) (by kernel_rfl) (by kernel_rfl) rfl rfl (Below.refl _ _) ?steps ?done
                        case steps =>
                          refine ⟨?_, ?_, ?_, ?_, ?_, ?_, ?_, ?_, ?_, ?_, ?_, ?_, ?_, ?_, ?_, ?_, ?_, trivial⟩
                          · intro us au w1 k0 hlo hhi ha hd hI
                            have q10 := slot_far (t := 10) (v := .int .i64 k) ha (by kernel_rfl) (by kernel_rfl)
                            have p10 := slot_norm q10
                            clear ha hd
                            exact StepI.pure (v := .int .i64 k) rfl rfl (by go_simp) ⟨rfl, hI⟩
                          · intro us au w1 ha hd hI
                            clear ha hd
                            exact StepI.runs (v := .slice (some ⟨w1.heap.size, 0, none⟩) 0 0) (w' := w1.alloc (.cells #[] 22)) rfl rfl (by go_simp) ⟨⟨_, rfl⟩, ⟨Below.trans hI ((Below.refl _ _).alloc hI.size _), _, rfl, OwnS.none_new hI.size⟩⟩
                          · intro us au w1 k2 hlo hhi ha hd hI
                            have q10 := slot_far (t := 10) (v := .int .i64 k) ha (by kernel_rfl) (by kernel_rfl)
                            have p10 := slot_norm q10
                            clear ha hd
                            exact StepI.pure (v := .int .i64 k) rfl rfl (by go_simp) ⟨rfl, hI⟩
                          · intro us au w1 k3 hlo hhi ha hd hI
                            have e2 := hd 2 _ (by kernel_rfl) rfl
                            have q4 := slot_far (t := 4) (v := .pointer (some ⟨wb, 0, none⟩)) ha (by kernel_rfl) (by kernel_rfl)
                            have p4 := slot_norm q4
                            have q151 := slot_at (t := 151) 2 ha (by kernel_rfl) (by kernel_rfl) (by kernel_rfl) e2
                            have p151 := slot_norm q151
                            clear ha hd
                            exact StepI.pure (v := .pointer (some ⟨wb, k, none⟩)) rfl rfl (by go_simp) ⟨rfl, hI⟩
                          · intro us au w1 k4 hlo hhi ha hd hI
                            have e3 := hd 3 _ (by kernel_rfl) rfl
                            have q152 := slot_at (t := 152) 3 ha (by kernel_rfl) (by kernel_rfl) (by kernel_rfl) e3
                            have p152 := slot_norm q152
                            clear ha hd
                            have cl : w1.cell? ⟨wb, k, none⟩ = some (.slice (some ⟨g6, o6, none⟩) a6.way.length c6) := ((I34.below (Nat.le_trans hhi (by decide)) hI).cell (p := ⟨wb, k, none⟩) hwb6).trans cW6
                            exact StepI.pure (v := .slice (some ⟨g6, o6, none⟩) a6.way.length c6) rfl rfl (by go_simp) ⟨rfl, hI⟩
                          · intro us au w1 k5 hlo hhi ha hd hI
                            have q11 := slot_far (t := 11) (v := .int .i64 m) ha (by kernel_rfl) (by kernel_rfl)
                            have p11 := slot_norm q11
                            clear ha hd
                            exact StepI.pure (v := .int .i64 m) rfl rfl (by go_simp) ⟨rfl, hI⟩
                          · intro us au w1 k6 hlo hhi ha hd hI
                            have e4 := hd 4 _ (by kernel_rfl) rfl
                            have e5 := hd 5 _ (by kernel_rfl) rfl
                            have q153 := slot_at (t := 153) 4 ha (by kernel_rfl) (by kernel_rfl) (by kernel_rfl) e4
                            have p153 := slot_norm q153
                            have q154 := slot_at (t := 154) 5 ha (by kernel_rfl) (by kernel_rfl) (by kernel_rfl) e5
                            have p154 := slot_norm q154
                            clear ha hd
                            exact StepI.pure (v := .slice (some ⟨g6, o6, none⟩) m c6) rfl rfl (by go_simp) ⟨rfl, hI⟩
                          · intro us au w1 ha hd hI
                            obtain ⟨g1, e1⟩ := hd 1 _ (by kernel_rfl) rfl
                            have e6 := hd 6 _ (by kernel_rfl) rfl
                            have q150 := slot_at (t := 150) 1 ha (by kernel_rfl) (by kernel_rfl) (by kernel_rfl) (Eq.refl (us 1))
                            have p150 := slot_norm q150
                            have q155 := slot_at (t := 155) 6 ha (by kernel_rfl) (by kernel_rfl) (by kernel_rfl) e6
                            have p155 := slot_norm q155
                            clear ha hd
                            obtain ⟨hbl, g0, hv, hO⟩ := hI
                            rw [hv] at hO
                            rw [hv] at q150
                            have hsr := (how6.take1 (k := m) (by omega) (by omega)).chg (Chg.of_below (S := fun _ => False) hbl) (fun _ _ h => h)
                            refine StepI.wp rfl rfl (fun K hK => ?_)
                            refine wp_append_S (.tmp 150) (.tmp 155) 36 36 rfl i0 (.slice none 0 0) 24 (.slice 22) Try.underlying36 Try.underlying36 (fun _ h => by cases h) hi hz0 hz1 hz2 rfl (v := .slice (some ⟨g0, 0, none⟩) 0 0) (x := .slice (some ⟨g6, o6, none⟩) m c6) q150 q155 hO (Src.owns hsr (fun u hu => hon6 u (List.mem_of_mem_take hu))) (by unfold maxLen; omega) (by omega) hbl.size (fun A c w9 ho9 hg9 hw9 => hK _ _ ⟨⟨A, c, rfl⟩, ⟨grown_below hbl hg9 (fun x hx => (hO.lt x hx).1), by have := ho9; simpa using this⟩⟩)
                          · intro us au w1 k8 hlo hhi ha hd hI
                            have q10 := slot_far (t := 10) (v := .int .i64 k) ha (by kernel_rfl) (by kernel_rfl)
                            have p10 := slot_norm q10
                            clear ha hd
                            exact StepI.pure (v := .int .i64 k) rfl rfl (by go_simp) ⟨rfl, hI⟩
                          · intro us au w1 k9 hlo hhi ha hd hI
                            have e8 := hd 8 _ (by kernel_rfl) rfl
                            have q4 := slot_far (t := 4) (v := .pointer (some ⟨wb, 0, none⟩)) ha (by kernel_rfl) (by kernel_rfl)
                            have p4 := slot_norm q4
                            have q157 := slot_at (t := 157) 8 ha (by kernel_rfl) (by kernel_rfl) (by kernel_rfl) e8
                            have p157 := slot_norm q157
                            clear ha hd
                            exact StepI.pure (v := .pointer (some ⟨wb, k, none⟩)) rfl rfl (by go_simp) ⟨rfl, hI⟩
                          · intro us au w1 k10 hlo hhi ha hd hI
                            have e9 := hd 9 _ (by kernel_rfl) rfl
                            have q158 := slot_at (t := 158) 9 ha (by kernel_rfl) (by kernel_rfl) (by kernel_rfl) e9
                            have p158 := slot_norm q158
                            clear ha hd
                            have cl : w1.cell? ⟨wb, k, none⟩ = some (.slice (some ⟨g6, o6, none⟩) a6.way.length c6) := ((I34.below (Nat.le_trans hhi (by decide)) hI).cell (p := ⟨wb, k, none⟩) hwb6).trans cW6
                            exact StepI.pure (v := .slice (some ⟨g6, o6, none⟩) a6.way.length c6) rfl rfl (by go_simp) ⟨rfl, hI⟩
                          · intro us au w1 k11 hlo hhi ha hd hI
                            have q11 := slot_far (t := 11) (v := .int .i64 m) ha (by kernel_rfl) (by kernel_rfl)
                            have p11 := slot_norm q11
                            clear ha hd
                            exact StepI.pure (v := .int .i64 m) rfl rfl (by go_simp) ⟨rfl, hI⟩
                          · intro us au w1 k12 hlo hhi ha hd hI
                            have e11 := hd 11 _ (by kernel_rfl) rfl
                            have q160 := slot_at (t := 160) 11 ha (by kernel_rfl) (by kernel_rfl) (by kernel_rfl) e11
                            have p160 := slot_norm q160
                            clear ha hd
                            exact StepI.pure (v := .int .i64 ((m : Int) + 1)) rfl rfl (by go_simp; exact IntWalk.i64_in _ (by omega)) ⟨rfl, hI⟩
                          · intro us au w1 k13 hlo hhi ha hd hI
                            have e10 := hd 10 _ (by kernel_rfl) rfl
                            have e12 := hd 12 _ (by kernel_rfl) rfl
                            have q159 := slot_at (t := 159) 10 ha (by kernel_rfl) (by kernel_rfl) (by kernel_rfl) e10
                            have p159 := slot_norm q159
                            have q161 := slot_at (t := 161) 12 ha (by kernel_rfl) (by kernel_rfl) (by kernel_rfl) e12
                            have p161 := slot_norm q161
                            clear ha hd
                            by_cases hck : c6 = m + 1
                            · have hci : (c6 : Int) = (m : Int) + 1 := by omega
                              exact StepI.pure (v := V6) rfl rfl (by rw [HV1.out hck]; go_simp) ⟨rfl, hI⟩
                            · have hci : ¬ (c6 : Int) = (m : Int) + 1 := by omega
                              exact StepI.pure (v := V6) rfl rfl (by rw [HV2.out hck]; go_simp) ⟨rfl, hI⟩
                          · intro us au w1 ha hd hI
                            obtain ⟨A7, c7, e7⟩ := hd 7 _ (by kernel_rfl) rfl
                            have e13 := hd 13 _ (by kernel_rfl) rfl
                            have q156 := slot_at (t := 156) 7 ha (by kernel_rfl) (by kernel_rfl) (by kernel_rfl) (Eq.refl (us 7))
                            have p156 := slot_norm q156
                            have q162 := slot_at (t := 162) 13 ha (by kernel_rfl) (by kernel_rfl) (by kernel_rfl) e13
                            have p162 := slot_norm q162
                            clear ha hd
                            obtain ⟨hbl, hO⟩ := hI
                            obtain ⟨A0, c0, hv⟩ := OwnS.shape hO
                            rw [hv] at hO
                            rw [hv] at q156
                            have hsr := hdrop.chg (Chg.of_below (S := fun _ => False) hbl) (fun _ _ h => h)
                            rw [HV3.out] at hsr
                            obtain ⟨f6, hC6⟩ := hce6
                            refine StepI.wp rfl rfl (fun K hK => ?_)
                            refine wp_append_S (.tmp 156) (.tmp 162) 36 36 rfl i0 (.slice none 0 0) 24 (.slice 22) Try.underlying36 Try.underlying36 (fun _ h => by cases h) hi hz0 hz1 hz2 rfl (v := .slice A0 m c0) (x := V6) q156 q162 hO (by rw [HV3.out]; exact Src.owns hsr (fun u hu => hon6 u (List.mem_of_mem_drop hu))) (by unfold maxLen; omega) (by omega) hbl.size (fun A c w9 ho9 hg9 hw9 => hK _ _ ⟨⟨A, c, rfl⟩, ⟨⟨_, hC6.below (grown_below hbl hg9 (fun x hx => (hO.lt x hx).1)) hwb6⟩, hcu6 _ _ _ ho9 (by rw [List.length_append, List.length_take, List.length_drop]; omega) (grown_below hbl hg9 (fun x hx => (hO.lt x hx).1))⟩⟩)
                          · intro us au w1 k15 hlo hhi ha hd hI
                            have e0 := hd 0 _ (by kernel_rfl) rfl
                            have q4 := slot_far (t := 4) (v := .pointer (some ⟨wb, 0, none⟩)) ha (by kernel_rfl) (by kernel_rfl)
                            have p4 := slot_norm q4
                            have q149 := slot_at (t := 149) 0 ha (by kernel_rfl) (by kernel_rfl) (by kernel_rfl) e0
                            have p149 := slot_norm q149
                            clear ha hd
                            exact StepI.pure (v := .pointer (some ⟨wb, k, none⟩)) rfl rfl (by go_simp) ⟨rfl, hI⟩
                          · intro us au w1 ha hd hI
                            have e15 := hd 15 _ (by kernel_rfl) rfl
                            obtain ⟨A14, c14, e14⟩ := hd 14 _ (by kernel_rfl) rfl
                            have q164 := slot_at (t := 164) 15 ha (by kernel_rfl) (by kernel_rfl) (by kernel_rfl) e15
                            have p164 := slot_norm q164
                            have q163 := slot_at (t := 163) 14 ha (by kernel_rfl) (by kernel_rfl) (by kernel_rfl) (Eq.refl (us 14))
                            have p163 := slot_norm q163
                            clear ha hd
                            obtain ⟨⟨F9, hC9⟩, hfin⟩ := hI
                            have hjlt : k < 2 := by omega
                            have y9 := hC9.cell k hjlt
                            have yf := hC9.frozen k
                            exact StepI.stored (w' := w1.setCell ⟨wb, k, none⟩ (us 14)) rfl rfl (by go_simp) ⟨trivial, ⟨_, hfin⟩⟩
                        case done =>
                          intro us w1 hI hd
                          obtain ⟨vw6, hSt7⟩ := hI
                          clear hd HS HL6 HV1 HV2 HV3 cW6
                          simp only [putAll]
                          go_simp
                          go_wp2
                          go_meet
                          exact ⟨now, _, b, rfl, hn0, by omega, HPM.out _, hSt7⟩
                      · have hSt6 := hSt.drw
                        have hPm := hP.mid
                        have hL6 := HL.out
                        have hml6 := hml'
                        clear hSt hE hOk hFin hvw hP hdm htw hcu how hod hvm
                        generalize a = a6 at *
                        obtain ⟨vs6, g6, o6, c6, hv6, hc61, hc62, how6, hon6, hwb6, hce6, hcu6⟩ := hSt6.cutRow hml6
                        have cW6 := hSt6.cW
                        rw [hv6] at cW6
                        have HS := Lib.hid hSt6
                        have HL6 := Lib.hid hL6
                        have hL6b : a6.way.length ≤ 157290000 := by rw [hL6]; exact hLb
                        have hmi : (m : Int) + 1 ≤ (a6.way.length : Int) := by omega
                        have hmi2 : (m : Int) ≤ (c6 : Int) := by omega
                        have hmi3 : (0 : Int) ≤ (m : Int) + 1 := by omega
                        have hmn : ((m : Int) + 1).toNat = m + 1 := by omega
                        have hdrop := how6.drop1 (k := m + 1) (by omega)
                        obtain ⟨V6, hV6⟩ : ∃ V, V = Value.slice (if c6 = m + 1 then (some ⟨g6, o6, none⟩ : Option Addr) else (some ⟨g6, o6, none⟩ : Option Addr).map (·.add (m + 1))) (a6.way.length - (m + 1)) (c6 - (m + 1)) := ⟨_, rfl⟩
                        have HV1 := Lib.hid (show c6 = m + 1 → V6 = .slice (some ⟨g6, o6, none⟩) (a6.way.length - (m + 1)) (c6 - (m + 1)) from fun h => by rw [hV6, if_pos h])
                        have HV2 := Lib.hid (show ¬ c6 = m + 1 → V6 = .slice (some ⟨g6, o6 + (m + 1), none⟩) (a6.way.length - (m + 1)) (c6 - (m + 1)) from fun h => by rw [hV6, if_neg h, Option.map_some, Addr.add_lit])
                        have HV3 := Lib.hid hV6
                        rw [← hV6] at hdrop
                        obtain ⟨i0, hi, hz0, hz1, hz2⟩ := info_parts Try.info_bs
                        have HPM := Lib.hid (fun vw => hPm.cut m vw)
                        clear hSt6 hv6 hL6 hV6 hPm
                        unfold maxLen at hc62
                        go_upto_region 34 with (fail)
                        refine wp_region_ph (by kernel_rfl) [1, 7, 14, 16] [.span 0 3, .phase 0, .span 0 1, .span 0 1, .span 0 1, .span 0 1, .span 0 1, .phase 1, .span 0 2, .span 0 2, .span 0 2, .span 0 2, .span 0 2, .span 0 2, .phase 2, .span 0 3, .phase 3] [fun v => v = .int .i64 k, fun v => ∃ g, v = .slice (some ⟨g, 0, none⟩) 0 0, fun v => v = .int .i64 k, fun v => v = .pointer (some ⟨wb, k, none⟩), fun v => v = .slice (some ⟨g6, o6, none⟩) a6.way.length c6, fun v => v = .int .i64 m, fun v => v = .slice (some ⟨g6, o6, none⟩) m c6, fun v => ∃ A c, v = .slice A (0 + m) c, fun v => v = .int .i64 k, fun v => v = .pointer (some ⟨wb, k, none⟩), fun v => v = .slice (some ⟨g6, o6, none⟩) a6.way.length c6, fun v => v = .int .i64 m, fun v => v = .int .i64 ((m : Int) + 1), fun v => v = V6, fun v => ∃ A c, v = .slice A (m + (a6.way.length - (m + 1))) c, fun v => v = .pointer (some ⟨wb, k, none⟩), fun _ => True] (I34 wd.drew a6.way.length m vs6 (fun w => ∃ f, Cel w wb 49 2 f) (fun v w => St 32 49 50 52 W w ⟨eb, wb, tb, rb⟩ ob k j { a6 with vw := v, way := a6.way.take m ++ a6.way.drop (m + 1) } b (opF 5 who ix (.slice Ad xs.length cd))) ⟨wb, k, none⟩) (by kernel_rfl) (by kernel_rfl) (by kernel_rfl) (by kernel_rfl) (by kernel_rfl) (by kernel_rfl) rfl rfl (Below.refl _ _) ?steps ?done
                        case steps =>
                          refine ⟨?_, ?_, ?_, ?_, ?_, ?_, ?_, ?_, ?_, ?_, ?_, ?_, ?_, ?_, ?_, ?_, ?_, trivial⟩
                          · intro us au w1 k0 hlo hhi ha hd hI
                            have q10 := slot_far (t := 10) (v := .int .i64 k) ha (by kernel_rfl) (by kernel_rfl)
                            have p10 := slot_norm q10
                            clear ha hd
                            exact StepI.pure (v := .int .i64 k) rfl rfl (by go_simp) ⟨rfl, hI⟩
                          · intro us au w1 ha hd hI
                            clear ha hd
                            exact StepI.runs (v := .slice (some ⟨w1.heap.size, 0, none⟩) 0 0) (w' := w1.alloc (.cells #[] 22)) rfl rfl (by go_simp) ⟨⟨_, rfl⟩, ⟨Below.trans hI ((Below.refl _ _).alloc hI.size _), _, rfl, OwnS.none_new hI.size⟩⟩
                          · intro us au w1 k2 hlo hhi ha hd hI
                            have q10 := slot_far (t := 10) (v := .int .i64 k) ha (by kernel_rfl) (by kernel_rfl)
                            have p10 := slot_norm q10
                            clear ha hd
                            exact StepI.pure (v := .int .i64 k) rfl rfl (by go_simp) ⟨rfl, hI⟩
                          · intro us au w1 k3 hlo hhi ha hd hI
                            have e2 := hd 2 _ (by kernel_rfl) rfl
                            have q4 := slot_far (t := 4) (v := .pointer (some ⟨wb, 0, none⟩)) ha (by kernel_rfl) (by kernel_rfl)
                            have p4 := slot_norm q4
                            have q151 := slot_at (t := 151) 2 ha (by kernel_rfl) (by kernel_rfl) (by kernel_rfl) e2
                            have p151 := slot_norm q151
                            clear ha hd
                            exact StepI.pure (v := .pointer (some ⟨wb, k, none⟩)) rfl rfl (by go_simp) ⟨rfl, hI⟩
                          · intro us au w1 k4 hlo hhi ha hd hI
                            have e3 := hd 3 _ (by kernel_rfl) rfl
                            have q152 := slot_at (t := 152) 3 ha (by kernel_rfl) (by kernel_rfl) (by kernel_rfl) e3
                            have p152 := slot_norm q152
                            clear ha hd
                            have cl : w1.cell? ⟨wb, k, none⟩ = some (.slice (some ⟨g6, o6, none⟩) a6.way.length c6) := ((I34.below (Nat.le_trans hhi (by decide)) hI).cell (p := ⟨wb, k, none⟩) hwb6).trans cW6
                            exact StepI.pure (v := .slice (some ⟨g6, o6, none⟩) a6.way.length c6) rfl rfl (by go_simp) ⟨rfl, hI⟩
                          · intro us au w1 k5 hlo hhi ha hd hI
                            have q11 := slot_far (t := 11) (v := .int .i64 m) ha (by kernel_rfl) (by kernel_rfl)
                            have p11 := slot_norm q11
                            clear ha hd
                            exact StepI.pure (v := .int .i64 m) rfl rfl (by go_simp) ⟨rfl, hI⟩
                          · intro us au w1 k6 hlo hhi ha hd hI
                            have e4 := hd 4 _ (by kernel_rfl) rfl
                            have e5 := hd 5 _ (by kernel_rfl) rfl
                            have q153 := slot_at (t := 153) 4 ha (by kernel_rfl) (by kernel_rfl) (by kernel_rfl) e4
                            have p153 := slot_norm q153
                            have q154 := slot_at (t := 154) 5 ha (by kernel_rfl) (by kernel_rfl) (by kernel_rfl) e5
                            have p154 := slot_norm q154
                            clear ha hd
                            exact StepI.pure (v := .slice (some ⟨g6, o6, none⟩) m c6) rfl rfl (by go_simp) ⟨rfl, hI⟩
                          · intro us au w1 ha hd hI
                            obtain ⟨g1, e1⟩ := hd 1 _ (by kernel_rfl) rfl
                            have e6 := hd 6 _ (by kernel_rfl) rfl
                            have q150 := slot_at (t := 150) 1 ha (by kernel_rfl) (by kernel_rfl) (by kernel_rfl) (Eq.refl (us 1))
                            have p150 := slot_norm q150
                            have q155 := slot_at (t := 155) 6 ha (by kernel_rfl) (by kernel_rfl) (by kernel_rfl) e6
                            have p155 := slot_norm q155
                            clear ha hd
                            obtain ⟨hbl, g0, hv, hO⟩ := hI
                            rw [hv] at hO
                            rw [hv] at q150
                            have hsr := (how6.take1 (k := m) (by omega) (by omega)).chg (Chg.of_below (S := fun _ => False) hbl) (fun _ _ h => h)
                            refine StepI.wp rfl rfl (fun K hK => ?_)
                            refine wp_append_S (.tmp 150) (.tmp 155) 36 36 rfl i0 (.slice none 0 0) 24 (.slice 22) Try.underlying36 Try.underlying36 (fun _ h => by cases h) hi hz0 hz1 hz2 rfl (v := .slice (some ⟨g0, 0, none⟩) 0 0) (x := .slice (some ⟨g6, o6, none⟩) m c6) q150 q155 hO (Src.owns hsr (fun u hu => hon6 u (List.mem_of_mem_take hu))) (by unfold maxLen; omega) (by omega) hbl.size (fun A c w9 ho9 hg9 hw9 => hK _ _ ⟨⟨A, c, rfl⟩, ⟨grown_below hbl hg9 (fun x hx => (hO.lt x hx).1), by have := ho9; simpa using this⟩⟩)
                          · intro us au w1 k8 hlo hhi ha hd hI
                            have q10 := slot_far (t := 10) (v := .int .i64 k) ha (by kernel_rfl) (by kernel_rfl)
                            have p10 := slot_norm q10
                            clear ha hd
                            exact StepI.pure (v := .int .i64 k) rfl rfl (by go_simp) ⟨rfl, hI⟩
                          · intro us au w1 k9 hlo hhi ha hd hI
                            have e8 := hd 8 _ (by kernel_rfl) rfl
                            have q4 := slot_far (t := 4) (v := .pointer (some ⟨wb, 0, none⟩)) ha (by kernel_rfl) (by kernel_rfl)
                            have p4 := slot_norm q4
                            have q157 := slot_at (t := 157) 8 ha (by kernel_rfl) (by kernel_rfl) (by kernel_rfl) e8
                            have p157 := slot_norm q157
                            clear ha hd
                            exact StepI.pure (v := .pointer (some ⟨wb, k, none⟩)) rfl rfl (by go_simp) ⟨rfl, hI⟩
                          · intro us au w1 k10 hlo hhi ha hd hI
                            have e9 := hd 9 _ (by kernel_rfl) rfl
                            have q158 := slot_at (t := 158) 9 ha (by kernel_rfl) (by kernel_rfl) (by kernel_rfl) e9
                            have p158 := slot_norm q158
                            clear ha hd
                            have cl : w1.cell? ⟨wb, k, none⟩ = some (.slice (some ⟨g6, o6, none⟩) a6.way.length c6) := ((I34.below (Nat.le_trans hhi (by decide)) hI).cell (p := ⟨wb, k, none⟩) hwb6).trans cW6
                            exact StepI.pure (v := .slice (some ⟨g6, o6, none⟩) a6.way.length c6) rfl rfl (by go_simp) ⟨rfl, hI⟩
                          · intro us au w1 k11 hlo hhi ha hd hI
                            have q11 := slot_far (t := 11) (v := .int .i64 m) ha (by kernel_rfl) (by kernel_rfl)
                            have p11 := slot_norm q11
                            clear ha hd
                            exact StepI.pure (v := .int .i64 m) rfl rfl (by go_simp) ⟨rfl, hI⟩
                          · intro us au w1 k12 hlo hhi ha hd hI
                            have e11 := hd 11 _ (by kernel_rfl) rfl
                            have q160 := slot_at (t := 160) 11 ha (by kernel_rfl) (by kernel_rfl) (by kernel_rfl) e11
                            have p160 := slot_norm q160
                            clear ha hd
                            exact StepI.pure (v := .int .i64 ((m : Int) + 1)) rfl rfl (by go_simp; exact IntWalk.i64_in _ (by omega)) ⟨rfl, hI⟩
                          · intro us au w1 k13 hlo hhi ha hd hI
                            have e10 := hd 10 _ (by kernel_rfl) rfl
                            have e12 := hd 12 _ (by kernel_rfl) rfl
                            have q159 := slot_at (t := 159) 10 ha (by kernel_rfl) (by kernel_rfl) (by kernel_rfl) e10
                            have p159 := slot_norm q159
                            have q161 := slot_at (t := 161) 12 ha (by kernel_rfl) (by kernel_rfl) (by kernel_rfl) e12
                            have p161 := slot_norm q161
                            clear ha hd
                            by_cases hck : c6 = m + 1
                            · have hci : (c6 : Int) = (m : Int) + 1 := by omega
                              exact StepI.pure (v := V6) rfl rfl (by rw [HV1.out hck]; go_simp) ⟨rfl, hI⟩
                            · have hci : ¬ (c6 : Int) = (m : Int) + 1 := by omega
                              exact StepI.pure (v := V6) rfl rfl (by rw [HV2.out hck]; go_simp) ⟨rfl, hI⟩
                          · intro us au w1 ha hd hI
                            obtain ⟨A7, c7, e7⟩ := hd 7 _ (by kernel_rfl) rfl
                            have e13 := hd 13 _ (by kernel_rfl) rfl
                            have q156 := slot_at (t := 156) 7 ha (by kernel_rfl) (by kernel_rfl) (by kernel_rfl) (Eq.refl (us 7))
                            have p156 := slot_norm q156
                            have q162 := slot_at (t := 162) 13 ha (by kernel_rfl) (by kernel_rfl) (by kernel_rfl) e13
                            have p162 := slot_norm q162
                            clear ha hd
                            obtain ⟨hbl, hO⟩ := hI
                            obtain ⟨A0, c0, hv⟩ := OwnS.shape hO
                            rw [hv] at hO
                            rw [hv] at q156
                            have hsr := hdrop.chg (Chg.of_below (S := fun _ => False) hbl) (fun _ _ h => h)
                            rw [HV3.out] at hsr
                            obtain ⟨f6, hC6⟩ := hce6
                            refine StepI.wp rfl rfl (fun K hK => ?_)
                            refine wp_append_S (.tmp 156) (.tmp 162) 36 36 rfl i0 (.slice none 0 0) 24 (.slice 22) Try.underlying36 Try.underlying36 (fun _ h => by cases h) hi hz0 hz1 hz2 rfl (v := .slice A0 m c0) (x := V6) q156 q162 hO (by rw [HV3.out]; exact Src.owns hsr (fun u hu => hon6 u (List.mem_of_mem_drop hu))) (by unfold maxLen; omega) (by omega) hbl.size (fun A c w9 ho9 hg9 hw9 => hK _ _ ⟨⟨A, c, rfl⟩, ⟨⟨_, hC6.below (grown_below hbl hg9 (fun x hx => (hO.lt x hx).1)) hwb6⟩, hcu6 _ _ _ ho9 (by rw [List.length_append, List.length_take, List.length_drop]; omega) (grown_below hbl hg9 (fun x hx => (hO.lt x hx).1))⟩⟩)
                          · intro us au w1 k15 hlo hhi ha hd hI
                            have e0 := hd 0 _ (by kernel_rfl) rfl
                            have q4 := slot_far (t := 4) (v := .pointer (some ⟨wb, 0, none⟩)) ha (by kernel_rfl) (by kernel_rfl)
                            have p4 := slot_norm q4
                            have q149 := slot_at (t := 149) 0 ha (by kernel_rfl) (by kernel_rfl) (by kernel_rfl) e0
                            have p149 := slot_norm q149
                            clear ha hd
                            exact StepI.pure (v := .pointer (some ⟨wb, k, none⟩)) rfl rfl (by go_simp) ⟨rfl, hI⟩
                          · intro us au w1 ha hd hI
                            have e15 := hd 15 _ (by kernel_rfl) rfl
                            obtain ⟨A14, c14, e14⟩ := hd 14 _ (by kernel_rfl) rfl
                            have q164 := slot_at (t := 164) 15 ha (by kernel_rfl) (by kernel_rfl) (by kernel_rfl) e15
                            have p164 := slot_norm q164
                            have q163 := slot_at (t := 163) 14 ha (by kernel_rfl) (by kernel_rfl) (by kernel_rfl) (Eq.refl (us 14))
                            have p163 := slot_norm q163
                            clear ha hd
                            obtain ⟨⟨F9, hC9⟩, hfin⟩ := hI
                            have hjlt : k < 2 := by omega
                            have y9 := hC9.cell k hjlt
                            have yf := hC9.frozen k
                            exact StepI.stored (w' := w1.setCell ⟨wb, k, none⟩ (us 14)) rfl rfl (by go_simp) ⟨trivial, ⟨_, hfin⟩⟩
                        case done =>
                          intro us w1 hI hd
                          obtain ⟨vw6, hSt7⟩ := hI
                          clear hd HS HL6 HV1 HV2 HV3 cW6
                          simp only [putAll]
                          go_simp
                          go_wp2
                          go_meet
                          exact ⟨now, _, b, rfl, hn0, by omega, HPM.out _, hSt7⟩
                      · have HTW := Lib.hid htw
                        have HOW := Lib.hid how
                        have hlw : a.way.length ≤ 157290000 := by rw [HL.out]; exact hLb
                        have HPM := Lib.hid (fun vw => hP.twice d hdm vw)
                        obtain ⟨f9, hM9⟩ := hSt.mem
                        have HCW := Lib.hid hM9
                        obtain ⟨i0, hi, hz0, hz1, hz2⟩ := info_parts Try.info_bs
                        clear hSt hE hOk hFin hP hdm htw hcu how hod hvm hM9
                        rw [← HL.out] at cW
                        have hvw0 := HOW.out
                        rw [hvw] at hvw0
                        have HVW := Lib.hid hvw
                        clear hvw
                        have hmx1 : a.way.length + 1 ≤ maxLen := by unfold maxLen; omega
                        have hmx2 : (a.way.length + 1) * 24 ≤ 140737488355328 := by omega
                        have hjlt : k < 2 := by omega
                        go_wp2_with (at_builtin; go_loud (refine wpList_append_S rfl (.tmp 144) (.tmp 146) 36 36 rfl i0 (.slice none 0 0) 24 (.slice 22) Try.underlying36 Try.underlying36 (fun _ h => by cases h) hi hz0 hz1 hz2 rfl rfl rfl (hvw0.alloc _) (Src.one_new (u := .slice As d.length d.length) rfl) hmx1 hmx2 (Nat.zero_le _) ?_; intro A9 c9 w9 ho9 hg9 hw9; obtain ⟨F9, hC9⟩ := way_cel HCW.out HVW.out hg9; have y9 := hC9.cell k hjlt; have yf := hC9.frozen k))
                        all_goals
                          go_wp2
                          go_meet
                          exact ⟨now, _, b, rfl, hn0, by omega, HPM.out _, HTW.out _ _ _ _ ((Below.refl _ _).alloc (Nat.le_refl _) _) ho9 rfl (by rw [HVW.out]; exact hg9) (by rw [HVW.out]; exact hw9)⟩
                  · have n4 : (kd == 4) = false := by rw [beq_eq_false_iff_ne]; omega
                    have n5 : (kd == 5) = false := by rw [beq_eq_false_iff_ne]; omega
                    have n6 : (kd == 6) = false := by rw [beq_eq_false_iff_ne]; omega
                    have HS := Lib.hid hSt
                    have HP := Lib.hid hP.mid
                    clear hSt hE hP hOk hFin hIx cD cE q0 q1 q8 q3 q456
                    go_wp2
                    go_meet
                    exact ⟨now, a, b, rfl, hn0, by omega, HP.out, HS.out⟩
        case rest =>
          obtain ⟨now', a', b', rfl, hw0, hw1, hPm, hSt⟩ := hcut
          clear hP hn0 hn1 cK cI cD hIx hmL HL hI
          generalize wc = we at *
          have hkj := hSt.kj
          have kj1 : (1 : Int) - (k : Int) = (j : Int) := by omega
          have kj2 : IntKind.i64.wrap (1 - (k : Int)) = (j : Int) := by rw [IntWalk.i64_in _ (by omega)]; omega
          have hj0 : (0 : Int) ≤ (j : Int) := by omega
          have hj1 : (j : Int) < 2 := by omega
          have hrl : a'.rl.length + (readS a'.s).1.length ≤ 1048576 := by
            have h1 := congrArg List.length hPm.r
            have h2 := hSt.end_.2.1.innl
            rw [List.length_append] at h1
            omega
          have HP := Lib.hid (fun vr => hPm.read a'.vo a'.vi vr)
          have HS := Lib.hid hSt.drw
          clear hSt hPm hkj
          obtain ⟨i0, hi, hz0, hz1, hz2⟩ := info_parts Try.info_u8
          go_upto_region 37 with (fail)
          refine wp_region_ph (by kernel_rfl) [8, 9, 11] [.span 0 2, .span 0 1, .span 0 1, .span 0 1, .span 0 0, .span 0 0, .span 0 0, .span 0 0, .phase 0, .phase 1, .span 0 2, .phase 2] [fun v => v = .int .i64 k, fun v => v = .int .i64 k, fun v => v = .pointer (some ⟨rb, k, none⟩), fun v => v = a'.vr, fun v => v = .slice (some ⟨eb, 0, none⟩) 2 2, fun v => v = .int .i64 k, fun v => v = .pointer (some ⟨eb, k, none⟩), fun v => v = .pointer (some ⟨a'.g, 0, none⟩), fun v => ∃ A, v = .slice A (readS a'.s).1.length (readS a'.s).1.length, fun v => ∃ A c, v = .slice A (a'.rl.length + (readS a'.s).1.length) c, fun v => v = .pointer (some ⟨rb, k, none⟩), fun _ => True] (I37 32 49 50 52 W ⟨eb, wb, tb, rb⟩ ob k j a' b' (opF kd who ix (.slice Ad xs.length cd)) (readS a'.s).2 (readS a'.s).1) (by kernel_rfl) (by kernel_rfl) (by kernel_rfl) (by kernel_rfl) (by kernel_rfl) (by kernel_rfl) rfl rfl (HS.out) ?steps ?done
          case steps =>
            refine ⟨?_, ?_, ?_, ?_, ?_, ?_, ?_, ?_, ?_, ?_, ?_, ?_, trivial⟩
            · intro us au w1 k0 hlo hhi ha hd hI
              have q10 := slot_far (t := 10) (v := .int .i64 k) ha (by kernel_rfl) (by kernel_rfl)
              have p10 := slot_norm q10
              clear ha hd
              exact StepI.pure (v := .int .i64 k) rfl rfl (by go_simp) ⟨rfl, hI⟩
            · intro us au w1 k1 hlo hhi ha hd hI
              have q10 := slot_far (t := 10) (v := .int .i64 k) ha (by kernel_rfl) (by kernel_rfl)
              have p10 := slot_norm q10
              clear ha hd
              exact StepI.pure (v := .int .i64 k) rfl rfl (by go_simp) ⟨rfl, hI⟩
            · intro us au w1 k2 hlo hhi ha hd hI
              have e1 := hd 1 _ (by kernel_rfl) rfl
              have q6 := slot_far (t := 6) (v := .pointer (some ⟨rb, 0, none⟩)) ha (by kernel_rfl) (by kernel_rfl)
              have p6 := slot_norm q6
              have q173 := slot_at (t := 173) 1 ha (by kernel_rfl) (by kernel_rfl) (by kernel_rfl) e1
              have p173 := slot_norm q173
              clear ha hd
              exact StepI.pure (v := .pointer (some ⟨rb, k, none⟩)) rfl rfl (by go_simp) ⟨rfl, hI⟩
            · intro us au w1 k3 hlo hhi ha hd hI
              have e2 := hd 2 _ (by kernel_rfl) rfl
              have q174 := slot_at (t := 174) 2 ha (by kernel_rfl) (by kernel_rfl) (by kernel_rfl) e2
              have p174 := slot_norm q174
              clear ha hd
              have cl := I37.cell hhi hI
              exact StepI.pure (v := a'.vr) rfl rfl (by go_simp) ⟨rfl, hI⟩
            · intro us au w1 k4 hlo hhi ha hd hI
              obtain rfl : k4 = 0 := by omega
              have q3 := slot_far (t := 3) (v := .slice (some ⟨eb, 0, none⟩) 2 2) ha (by kernel_rfl) (by kernel_rfl)
              have p3 := slot_norm q3
              clear ha hd
              exact StepI.pure (v := .slice (some ⟨eb, 0, none⟩) 2 2) rfl rfl (by go_simp) ⟨rfl, hI⟩
            · intro us au w1 k5 hlo hhi ha hd hI
              obtain rfl : k5 = 0 := by omega
              have q10 := slot_far (t := 10) (v := .int .i64 k) ha (by kernel_rfl) (by kernel_rfl)
              have p10 := slot_norm q10
              clear ha hd
              exact StepI.pure (v := .int .i64 k) rfl rfl (by go_simp) ⟨rfl, hI⟩
            · intro us au w1 k6 hlo hhi ha hd hI
              obtain rfl : k6 = 0 := by omega
              have e4 := hd 4 _ (by kernel_rfl) rfl
              have e5 := hd 5 _ (by kernel_rfl) rfl
              have q176 := slot_at (t := 176) 4 ha (by kernel_rfl) (by kernel_rfl) (by kernel_rfl) e4
              have p176 := slot_norm q176
              have q177 := slot_at (t := 177) 5 ha (by kernel_rfl) (by kernel_rfl) (by kernel_rfl) e5
              have p177 := slot_norm q177
              clear ha hd
              exact StepI.pure (v := .pointer (some ⟨eb, k, none⟩)) rfl rfl (by go_simp) ⟨rfl, hI⟩
            · intro us au w1 k7 hlo hhi ha hd hI
              obtain rfl : k7 = 0 := by omega
              have e6 := hd 6 _ (by kernel_rfl) rfl
              have q178 := slot_at (t := 178) 6 ha (by kernel_rfl) (by kernel_rfl) (by kernel_rfl) e6
              have p178 := slot_norm q178
              clear ha hd
              have cl := hI.cE
              exact StepI.pure (v := .pointer (some ⟨a'.g, 0, none⟩)) rfl rfl (by go_simp) ⟨rfl, hI⟩
            · intro us au w1 ha hd hI
              have e7 := hd 7 _ (by kernel_rfl) rfl
              have q179 := slot_at (t := 179) 7 ha (by kernel_rfl) (by kernel_rfl) (by kernel_rfl) e7
              have p179 := slot_norm q179
              clear ha hd
              refine StepI.call (f := 27) (args := #[.pointer (some ⟨a'.g, 0, none⟩)]) rfl rfl (by go_simp) ?_
              refine (read_any a'.g a'.s a'.vo a'.vi w1 hI.end_.1 hI.end_.2.1).mono ?_
              intro e w5 hO5
              obtain ⟨Ao, he, hSO, hS5⟩ := hI.read hO5
              exact ⟨_, he, ⟨Ao, rfl⟩, ⟨Ao, rfl, hSO.base_ (Nat.zero_le _), hS5⟩⟩
            · intro us au w1 ha hd hI
              have e3 := hd 3 _ (by kernel_rfl) rfl
              obtain ⟨A8, e8⟩ := hd 8 _ (by kernel_rfl) rfl
              have q175 := slot_at (t := 175) 3 ha (by kernel_rfl) (by kernel_rfl) (by kernel_rfl) e3
              have p175 := slot_norm q175
              have q180 := slot_at (t := 180) 8 ha (by kernel_rfl) (by kernel_rfl) (by kernel_rfl) (Eq.refl (us 8))
              have p180 := slot_norm q180
              clear ha hd
              obtain ⟨Ao, hv, hO, hS5⟩ := hI
              rw [hv] at q180
              refine StepI.wp rfl rfl (fun K hK => ?_)
              refine wp_append_S (.tmp 175) (.tmp 180) 22 22 rfl i0 (.int .u8 0) 1 (.slice 5) Try.underlying22 Try.underlying22 (fun _ h => by cases h) hi hz0 hz1 hz2 rfl (v := a'.vr) (x := .slice Ao (readS a'.s).1.length (readS a'.s).1.length) q175 q180 hS5.rows.2.1 (Src.ints hO.ints) (by show a'.rl.length + (readS a'.s).1.length ≤ _; unfold maxLen; omega) (by show (a'.rl.length + (readS a'.s).1.length) * 1 ≤ _; omega) (Nat.zero_le _) (fun A c w9 ho9 hg9 hw9 => hK _ _ ⟨⟨A, c, rfl⟩, ⟨⟨_, (hS5.celR hg9).choose_spec.1⟩, hS5.rowR ho9 rfl hg9 hw9⟩⟩)
            · intro us au w1 k10 hlo hhi ha hd hI
              have e0 := hd 0 _ (by kernel_rfl) rfl
              have q6 := slot_far (t := 6) (v := .pointer (some ⟨rb, 0, none⟩)) ha (by kernel_rfl) (by kernel_rfl)
              have p6 := slot_norm q6
              have q172 := slot_at (t := 172) 0 ha (by kernel_rfl) (by kernel_rfl) (by kernel_rfl) e0
              have p172 := slot_norm q172
              clear ha hd
              exact StepI.pure (v := .pointer (some ⟨rb, k, none⟩)) rfl rfl (by go_simp) ⟨rfl, hI⟩
            · intro us au w1 ha hd hI
              have e10 := hd 10 _ (by kernel_rfl) rfl
              obtain ⟨A9, c9, e9⟩ := hd 9 _ (by kernel_rfl) rfl
              have q182 := slot_at (t := 182) 10 ha (by kernel_rfl) (by kernel_rfl) (by kernel_rfl) e10
              have p182 := slot_norm q182
              have q181 := slot_at (t := 181) 9 ha (by kernel_rfl) (by kernel_rfl) (by kernel_rfl) (Eq.refl (us 9))
              have p181 := slot_norm q181
              clear ha hd
              obtain ⟨⟨F9, hC9⟩, hfin⟩ := hI
              have hjlt : k < 2 := by omega
              have y9 := hC9.cell k hjlt
              have yf := hC9.frozen k
              exact StepI.stored (w' := w1.setCell ⟨rb, k, none⟩ (us 9)) rfl rfl (by go_simp) ⟨trivial, ⟨_, hfin⟩⟩
          case done =>
            intro us w1 hI hd
            obtain ⟨vr', hSt⟩ := hI
            have hPl := HP.out vr'
            clear hd HS HP
            simp only [putAll]
            go_simp
            generalize hae : ({ a' with s := (readS a'.s).2, vo := a'.vo, vi := a'.vi, vr := vr', rl := a'.rl ++ (readS a'.s).1 } : Sd) = a at *
            generalize b' = b at *
            clear hae
            obtain ⟨hask1, hask2⟩ := hPl.asked
            obtain ⟨Ar, cr, hvr⟩ := hSt.rows.2.1.shape
            obtain ⟨At, ct, hvt⟩ := hSt.rows.2.2.shape
            have hcap := (hvt ▸ hSt.rows.2.2).capLe
            have HS := Lib.hid hSt.drw
            have HPl := Lib.hid hPl
            have g1 : decide ((b.tl.length : Int) < (a.rl.length : Int)) = false := decide_eq_false (by omega)
            have g2 : decide (b.tl.length < a.rl.length) = false := decide_eq_false (by omega)
            clear hSt hPl
            go_wp2
            refine wp_region_ph (by kernel_rfl) [] [.span 0 0, .span 0 0, .span 0 0, .span 0 0, .span 0 0, .span 0 0, .span 0 0, .span 0 0, .span 0 0, .span 0 0, .span 0 0, .span 0 0, .span 0 0, .span 0 0, .span 0 0, .span 0 0, .span 0 0, .span 0 0, .span 0 0, .span 0 0, .span 0 0, .span 0 0, .span 0 0, .span 0 0, .span 0 0, .span 0 0, .span 0 0] [fun v => v = .int .i64 k, fun v => v = .pointer (some ⟨rb, k, none⟩), fun v => v = .slice Ar a.rl.length cr, fun v => v = .int .i64 a.rl.length, fun v => v = .int .i64 k, fun v => v = .int .i64 j, fun v => v = .pointer (some ⟨tb, j, none⟩), fun v => v = .slice At b.tl.length ct, fun v => v = .int .i64 b.tl.length, fun v => v = .bool false, fun v => v = .bool false, fun v => v = .int .i64 k, fun v => v = .pointer (some ⟨rb, k, none⟩), fun v => v = .slice Ar a.rl.length cr, fun v => v = .string (strOfNums a.rl), fun v => v = .int .i64 k, fun v => v = .int .i64 j, fun v => v = .pointer (some ⟨tb, j, none⟩), fun v => v = .slice At b.tl.length ct, fun v => v = .int .i64 k, fun v => v = .pointer (some ⟨rb, k, none⟩), fun v => v = .slice Ar a.rl.length cr, fun v => v = .int .i64 a.rl.length, fun v => v = .slice At a.rl.length ct, fun v => v = .string (strOfNums a.rl), fun v => v = .bool false, fun v => v = .bool false] (fun _ w => St 32 49 50 52 W w ⟨eb, wb, tb, rb⟩ ob k j a b (opF kd who ix (.slice Ad xs.length cd))) (by kernel_rfl) (by kernel_rfl) (by kernel_rfl) (by kernel_rfl) (by kernel_rfl) (by kernel_rfl) rfl rfl (HS.out) ?steps ?done
            case steps =>
              refine ⟨?_, ?_, ?_, ?_, ?_, ?_, ?_, ?_, ?_, ?_, ?_, ?_, ?_, ?_, ?_, ?_, ?_, ?_, ?_, ?_, ?_, ?_, ?_, ?_, ?_, ?_, ?_, trivial⟩
              · intro us au w1 k0 hlo hhi ha hd hI
                obtain rfl : k0 = 0 := by omega
                have q10 := slot_far (t := 10) (v := .int .i64 k) ha (by kernel_rfl) (by kernel_rfl)
                have p10 := slot_norm q10
                clear ha hd
                exact StepI.pure (v := .int .i64 k) rfl rfl (by go_simp) ⟨rfl, hI⟩
              · intro us au w1 k1 hlo hhi ha hd hI
                obtain rfl : k1 = 0 := by omega
                have e0 := hd 0 _ (by kernel_rfl) rfl
                have q6 := slot_far (t := 6) (v := .pointer (some ⟨rb, 0, none⟩)) ha (by kernel_rfl) (by kernel_rfl)
                have p6 := slot_norm q6
                have q183 := slot_at (t := 183) 0 ha (by kernel_rfl) (by kernel_rfl) (by kernel_rfl) e0
                have p183 := slot_norm q183
                clear ha hd
                exact StepI.pure (v := .pointer (some ⟨rb, k, none⟩)) rfl rfl (by go_simp) ⟨rfl, hI⟩
              · intro us au w1 k2 hlo hhi ha hd hI
                obtain rfl : k2 = 0 := by omega
                have e1 := hd 1 _ (by kernel_rfl) rfl
                have q184 := slot_at (t := 184) 1 ha (by kernel_rfl) (by kernel_rfl) (by kernel_rfl) e1
                have p184 := slot_norm q184
                clear ha hd
                have cl := hI.cR
                rw [hvr] at cl
                exact StepI.pure (v := .slice Ar a.rl.length cr) rfl rfl (by go_simp) ⟨rfl, hI⟩
              · intro us au w1 k3 hlo hhi ha hd hI
                obtain rfl : k3 = 0 := by omega
                have e2 := hd 2 _ (by kernel_rfl) rfl
                have q185 := slot_at (t := 185) 2 ha (by kernel_rfl) (by kernel_rfl) (by kernel_rfl) e2
                have p185 := slot_norm q185
                clear ha hd
                exact StepI.pure (v := .int .i64 a.rl.length) rfl rfl (by go_simp) ⟨rfl, hI⟩
              · intro us au w1 k4 hlo hhi ha hd hI
                obtain rfl : k4 = 0 := by omega
                have q10 := slot_far (t := 10) (v := .int .i64 k) ha (by kernel_rfl) (by kernel_rfl)
                have p10 := slot_norm q10
                clear ha hd
                exact StepI.pure (v := .int .i64 k) rfl rfl (by go_simp) ⟨rfl, hI⟩
              · intro us au w1 k5 hlo hhi ha hd hI
                obtain rfl : k5 = 0 := by omega
                have e4 := hd 4 _ (by kernel_rfl) rfl
                have q187 := slot_at (t := 187) 4 ha (by kernel_rfl) (by kernel_rfl) (by kernel_rfl) e4
                have p187 := slot_norm q187
                clear ha hd
                exact StepI.pure (v := .int .i64 j) rfl rfl (by go_simp; exact IntWalk.i64_in _ (by omega)) ⟨rfl, hI⟩
              · intro us au w1 k6 hlo hhi ha hd hI
                obtain rfl : k6 = 0 := by omega
                have e5 := hd 5 _ (by kernel_rfl) rfl
                have q5 := slot_far (t := 5) (v := .pointer (some ⟨tb, 0, none⟩)) ha (by kernel_rfl) (by kernel_rfl)
                have p5 := slot_norm q5
                have q188 := slot_at (t := 188) 5 ha (by kernel_rfl) (by kernel_rfl) (by kernel_rfl) e5
                have p188 := slot_norm q188
                clear ha hd
                exact StepI.pure (v := .pointer (some ⟨tb, j, none⟩)) rfl rfl (by go_simp) ⟨rfl, hI⟩
              · intro us au w1 k7 hlo hhi ha hd hI
                obtain rfl : k7 = 0 := by omega
                have e6 := hd 6 _ (by kernel_rfl) rfl
                have q189 := slot_at (t := 189) 6 ha (by kernel_rfl) (by kernel_rfl) (by kernel_rfl) e6
                have p189 := slot_norm q189
                clear ha hd
                have cl := hI.cTj
                rw [hvt] at cl
                exact StepI.pure (v := .slice At b.tl.length ct) rfl rfl (by go_simp) ⟨rfl, hI⟩
              · intro us au w1 k8 hlo hhi ha hd hI
                obtain rfl : k8 = 0 := by omega
                have e7 := hd 7 _ (by kernel_rfl) rfl
                have q190 := slot_at (t := 190) 7 ha (by kernel_rfl) (by kernel_rfl) (by kernel_rfl) e7
                have p190 := slot_norm q190
                clear ha hd
                exact StepI.pure (v := .int .i64 b.tl.length) rfl rfl (by go_simp) ⟨rfl, hI⟩
              · intro us au w1 k9 hlo hhi ha hd hI
                obtain rfl : k9 = 0 := by omega
                have e3 := hd 3 _ (by kernel_rfl) rfl
                have e8 := hd 8 _ (by kernel_rfl) rfl
                have q186 := slot_at (t := 186) 3 ha (by kernel_rfl) (by kernel_rfl) (by kernel_rfl) e3
                have p186 := slot_norm q186
                have q191 := slot_at (t := 191) 8 ha (by kernel_rfl) (by kernel_rfl) (by kernel_rfl) e8
                have p191 := slot_norm q191
                clear ha hd
                exact StepI.pure (v := .bool false) rfl rfl (by go_simp) ⟨rfl, hI⟩
              · intro us au w1 k10 hlo hhi ha hd hI
                obtain rfl : k10 = 0 := by omega
                have e9 := hd 9 _ (by kernel_rfl) rfl
                have q192 := slot_at (t := 192) 9 ha (by kernel_rfl) (by kernel_rfl) (by kernel_rfl) e9
                have p192 := slot_norm q192
                clear ha hd
                exact StepI.pure (v := .bool false) rfl rfl (by go_simp) ⟨rfl, hI⟩
              · intro us au w1 k11 hlo hhi ha hd hI
                obtain rfl : k11 = 0 := by omega
                have e10 := hd 10 _ (by kernel_rfl) rfl
                have q10 := slot_far (t := 10) (v := .int .i64 k) ha (by kernel_rfl) (by kernel_rfl)
                have p10 := slot_norm q10
                have hg := slot_at (t := 193) 10 ha (by kernel_rfl) (by kernel_rfl) (by kernel_rfl) e10
                clear ha hd
                exact StepI.pure (v := .int .i64 k) rfl (wanted_at rfl rfl hg) (by go_simp) ⟨rfl, hI⟩
              · intro us au w1 k12 hlo hhi ha hd hI
                obtain rfl : k12 = 0 := by omega
                have e11 := hd 11 _ (by kernel_rfl) rfl
                have e10 := hd 10 _ (by kernel_rfl) rfl
                have q6 := slot_far (t := 6) (v := .pointer (some ⟨rb, 0, none⟩)) ha (by kernel_rfl) (by kernel_rfl)
                have p6 := slot_norm q6
                have q194 := slot_at (t := 194) 11 ha (by kernel_rfl) (by kernel_rfl) (by kernel_rfl) e11
                have p194 := slot_norm q194
                have hg := slot_at (t := 193) 10 ha (by kernel_rfl) (by kernel_rfl) (by kernel_rfl) e10
                clear ha hd
                exact StepI.pure (v := .pointer (some ⟨rb, k, none⟩)) rfl (wanted_at rfl rfl hg) (by go_simp) ⟨rfl, hI⟩
              · intro us au w1 k13 hlo hhi ha hd hI
                obtain rfl : k13 = 0 := by omega
                have e12 := hd 12 _ (by kernel_rfl) rfl
                have e10 := hd 10 _ (by kernel_rfl) rfl
                have q195 := slot_at (t := 195) 12 ha (by kernel_rfl) (by kernel_rfl) (by kernel_rfl) e12
                have p195 := slot_norm q195
                have hg := slot_at (t := 193) 10 ha (by kernel_rfl) (by kernel_rfl) (by kernel_rfl) e10
                clear ha hd
                have cl := hI.cR
                rw [hvr] at cl
                exact StepI.pure (v := .slice Ar a.rl.length cr) rfl (wanted_at rfl rfl hg) (by go_simp) ⟨rfl, hI⟩
              · intro us au w1 k14 hlo hhi ha hd hI
                obtain rfl : k14 = 0 := by omega
                have e13 := hd 13 _ (by kernel_rfl) rfl
                have e10 := hd 10 _ (by kernel_rfl) rfl
                have q196 := slot_at (t := 196) 13 ha (by kernel_rfl) (by kernel_rfl) (by kernel_rfl) e13
                have p196 := slot_norm q196
                have hg := slot_at (t := 193) 10 ha (by kernel_rfl) (by kernel_rfl) (by kernel_rfl) e10
                clear ha hd
                have hcv := run_str_ints (P := Try.prog) (w := w1) 22 9 5 Try.underlying22 Try.underlying5 Try.underlying9 Ar cr (a.rl) (hvr ▸ hI.rows.2.1).ints
                exact StepI.pure (v := .string (strOfNums a.rl)) rfl (wanted_at rfl rfl hg) (by go_simp) ⟨rfl, hI⟩
              · intro us au w1 k15 hlo hhi ha hd hI
                obtain rfl : k15 = 0 := by omega
                have e10 := hd 10 _ (by kernel_rfl) rfl
                have q10 := slot_far (t := 10) (v := .int .i64 k) ha (by kernel_rfl) (by kernel_rfl)
                have p10 := slot_norm q10
                have hg := slot_at (t := 193) 10 ha (by kernel_rfl) (by kernel_rfl) (by kernel_rfl) e10
                clear ha hd
                exact StepI.pure (v := .int .i64 k) rfl (wanted_at rfl rfl hg) (by go_simp) ⟨rfl, hI⟩
              · intro us au w1 k16 hlo hhi ha hd hI
                obtain rfl : k16 = 0 := by omega
                have e15 := hd 15 _ (by kernel_rfl) rfl
                have e10 := hd 10 _ (by kernel_rfl) rfl
                have q198 := slot_at (t := 198) 15 ha (by kernel_rfl) (by kernel_rfl) (by kernel_rfl) e15
                have p198 := slot_norm q198
                have hg := slot_at (t := 193) 10 ha (by kernel_rfl) (by kernel_rfl) (by kernel_rfl) e10
                clear ha hd
                exact StepI.pure (v := .int .i64 j) rfl (wanted_at rfl rfl hg) (by go_simp; exact IntWalk.i64_in _ (by omega)) ⟨rfl, hI⟩
              · intro us au w1 k17 hlo hhi ha hd hI
                obtain rfl : k17 = 0 := by omega
                have e16 := hd 16 _ (by kernel_rfl) rfl
                have e10 := hd 10 _ (by kernel_rfl) rfl
                have q5 := slot_far (t := 5) (v := .pointer (some ⟨tb, 0, none⟩)) ha (by kernel_rfl) (by kernel_rfl)
                have p5 := slot_norm q5
                have q199 := slot_at (t := 199) 16 ha (by kernel_rfl) (by kernel_rfl) (by kernel_rfl) e16
                have p199 := slot_norm q199
                have hg := slot_at (t := 193) 10 ha (by kernel_rfl) (by kernel_rfl) (by kernel_rfl) e10
                clear ha hd
                exact StepI.pure (v := .pointer (some ⟨tb, j, none⟩)) rfl (wanted_at rfl rfl hg) (by go_simp) ⟨rfl, hI⟩
              · intro us au w1 k18 hlo hhi ha hd hI
                obtain rfl : k18 = 0 := by omega
                have e17 := hd 17 _ (by kernel_rfl) rfl
                have e10 := hd 10 _ (by kernel_rfl) rfl
                have q200 := slot_at (t := 200) 17 ha (by kernel_rfl) (by kernel_rfl) (by kernel_rfl) e17
                have p200 := slot_norm q200
                have hg := slot_at (t := 193) 10 ha (by kernel_rfl) (by kernel_rfl) (by kernel_rfl) e10
                clear ha hd
                have cl := hI.cTj
                rw [hvt] at cl
                exact StepI.pure (v := .slice At b.tl.length ct) rfl (wanted_at rfl rfl hg) (by go_simp) ⟨rfl, hI⟩
              · intro us au w1 k19 hlo hhi ha hd hI
                obtain rfl : k19 = 0 := by omega
                have e10 := hd 10 _ (by kernel_rfl) rfl
                have q10 := slot_far (t := 10) (v := .int .i64 k) ha (by kernel_rfl) (by kernel_rfl)
                have p10 := slot_norm q10
                have hg := slot_at (t := 193) 10 ha (by kernel_rfl) (by kernel_rfl) (by kernel_rfl) e10
                clear ha hd
                exact StepI.pure (v := .int .i64 k) rfl (wanted_at rfl rfl hg) (by go_simp) ⟨rfl, hI⟩
              · intro us au w1 k20 hlo hhi ha hd hI
                obtain rfl : k20 = 0 := by omega
                have e19 := hd 19 _ (by kernel_rfl) rfl
                have e10 := hd 10 _ (by kernel_rfl) rfl
                have q6 := slot_far (t := 6) (v := .pointer (some ⟨rb, 0, none⟩)) ha (by kernel_rfl) (by kernel_rfl)
                have p6 := slot_norm q6
                have q202 := slot_at (t := 202) 19 ha (by kernel_rfl) (by kernel_rfl) (by kernel_rfl) e19
                have p202 := slot_norm q202
                have hg := slot_at (t := 193) 10 ha (by kernel_rfl) (by kernel_rfl) (by kernel_rfl) e10
                clear ha hd
                exact StepI.pure (v := .pointer (some ⟨rb, k, none⟩)) rfl (wanted_at rfl rfl hg) (by go_simp) ⟨rfl, hI⟩
              · intro us au w1 k21 hlo hhi ha hd hI
                obtain rfl : k21 = 0 := by omega
                have e20 := hd 20 _ (by kernel_rfl) rfl
                have e10 := hd 10 _ (by kernel_rfl) rfl
                have q203 := slot_at (t := 203) 20 ha (by kernel_rfl) (by kernel_rfl) (by kernel_rfl) e20
                have p203 := slot_norm q203
                have hg := slot_at (t := 193) 10 ha (by kernel_rfl) (by kernel_rfl) (by kernel_rfl) e10
                clear ha hd
                have cl := hI.cR
                rw [hvr] at cl
                exact StepI.pure (v := .slice Ar a.rl.length cr) rfl (wanted_at rfl rfl hg) (by go_simp) ⟨rfl, hI⟩
              · intro us au w1 k22 hlo hhi ha hd hI
                obtain rfl : k22 = 0 := by omega
                have e21 := hd 21 _ (by kernel_rfl) rfl
                have e10 := hd 10 _ (by kernel_rfl) rfl
                have q204 := slot_at (t := 204) 21 ha (by kernel_rfl) (by kernel_rfl) (by kernel_rfl) e21
                have p204 := slot_norm q204
                have hg := slot_at (t := 193) 10 ha (by kernel_rfl) (by kernel_rfl) (by kernel_rfl) e10
                clear ha hd
                exact StepI.pure (v := .int .i64 a.rl.length) rfl (wanted_at rfl rfl hg) (by go_simp) ⟨rfl, hI⟩
              · intro us au w1 k23 hlo hhi ha hd hI
                obtain rfl : k23 = 0 := by omega
                have e18 := hd 18 _ (by kernel_rfl) rfl
                have e22 := hd 22 _ (by kernel_rfl) rfl
                have e10 := hd 10 _ (by kernel_rfl) rfl
                have q201 := slot_at (t := 201) 18 ha (by kernel_rfl) (by kernel_rfl) (by kernel_rfl) e18
                have p201 := slot_norm q201
                have q205 := slot_at (t := 205) 22 ha (by kernel_rfl) (by kernel_rfl) (by kernel_rfl) e22
                have p205 := slot_norm q205
                have hg := slot_at (t := 193) 10 ha (by kernel_rfl) (by kernel_rfl) (by kernel_rfl) e10
                clear ha hd
                have hct1 : ¬ ct < a.rl.length := by omega
                have hct2 : a.rl.length ≤ ct := by omega
                exact StepI.pure (v := .slice At a.rl.length ct) rfl (wanted_at rfl rfl hg) (by go_simp) ⟨rfl, hI⟩
              · intro us au w1 k24 hlo hhi ha hd hI
                obtain rfl : k24 = 0 := by omega
                have e23 := hd 23 _ (by kernel_rfl) rfl
                have e10 := hd 10 _ (by kernel_rfl) rfl
                have q206 := slot_at (t := 206) 23 ha (by kernel_rfl) (by kernel_rfl) (by kernel_rfl) e23
                have p206 := slot_norm q206
                have hg := slot_at (t := 193) 10 ha (by kernel_rfl) (by kernel_rfl) (by kernel_rfl) e10
                clear ha hd
                have hIt := (hvt ▸ hI.rows.2.2).ints.take a.rl.length
                rw [hask2] at hIt
                have hcv := run_str_ints (P := Try.prog) (w := w1) 22 9 5 Try.underlying22 Try.underlying5 Try.underlying9 At ct (a.rl) hIt
                exact StepI.pure (v := .string (strOfNums a.rl)) rfl (wanted_at rfl rfl hg) (by go_simp) ⟨rfl, hI⟩
              · intro us au w1 k25 hlo hhi ha hd hI
                obtain rfl : k25 = 0 := by omega
                have e14 := hd 14 _ (by kernel_rfl) rfl
                have e24 := hd 24 _ (by kernel_rfl) rfl
                have e10 := hd 10 _ (by kernel_rfl) rfl
                have q197 := slot_at (t := 197) 14 ha (by kernel_rfl) (by kernel_rfl) (by kernel_rfl) e14
                have p197 := slot_norm q197
                have q207 := slot_at (t := 207) 24 ha (by kernel_rfl) (by kernel_rfl) (by kernel_rfl) e24
                have p207 := slot_norm q207
                have hg := slot_at (t := 193) 10 ha (by kernel_rfl) (by kernel_rfl) (by kernel_rfl) e10
                clear ha hd
                exact StepI.pure (v := .bool false) rfl (wanted_at rfl rfl hg) (by go_simp) ⟨rfl, hI⟩
              · intro us au w1 k26 hlo hhi ha hd hI
                obtain rfl : k26 = 0 := by omega
                have e10 := hd 10 _ (by kernel_rfl) rfl
                have e25 := hd 25 _ (by kernel_rfl) rfl
                have q193 := slot_at (t := 193) 10 ha (by kernel_rfl) (by kernel_rfl) (by kernel_rfl) e10
                have p193 := slot_norm q193
                have q208 := slot_at (t := 208) 25 ha (by kernel_rfl) (by kernel_rfl) (by kernel_rfl) e25
                have p208 := slot_norm q208
                clear ha hd
                exact StepI.pure (v := .bool false) rfl rfl (by go_simp) ⟨rfl, hI⟩
            case done =>
              intro us w1 hI hd
              have e26 := hd 26 _ (by decide) rfl
              obtain ⟨⟨f9, hM9, _⟩, _⟩ := hI
              have HM := Lib.hid hM9
              clear hd hM9 HS hask1 hask2 hvr hvt hcap
              simp only [putAll]
              go_simp
              go_wp2
              go_roundw
              case rel => exact OrdRel.of (N := N + 1) (by omega) (by omega) hw0 (by omega) HM.out HPl.out
              case measure => simp [intOf]; omega
    · have hlow := hM.bel
      have HB := Lib.hid hlow
      have HSZ := Lib.hid hlow.size
      clear hM hP hlow hS
      by_cases hA : N < n
      · have d1 : decide ((N : Int) < (n : Int)) = true := decide_eq_true (by omega)
        have d1' : decide (N < n) = true := decide_eq_true hA
        have d2 : decide ((N : Int) < 150) = false := decide_eq_false (by omega)
        have d2' : decide (N < 150) = false := decide_eq_false (by omega)
        clear hlt
        go_wp2_with fail
        refine (awake18_any _).mono ?_
        rintro e w5 ⟨rfl, hb5⟩
        go_wp2
        go_ret
        exact ⟨rfl, HB.out.trans (hb5.mono HSZ.out)⟩
      · have d1 : decide ((N : Int) < (n : Int)) = false := decide_eq_false (by omega)
        have d1' : decide (N < n) = false := decide_eq_false hA
        clear hlt
        go_wp2_with fail
        refine (awake18_any _).mono ?_
        rintro e w5 ⟨rfl, hb5⟩
        go_wp2
        go_ret
        exact ⟨rfl, HB.out.trans (hb5.mono HSZ.out)⟩
end Go.Proofs.Ytoeipgbnjcgbjaa
