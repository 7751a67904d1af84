/- The walk of StreamPlays. -/
import Derived.Test.YtoeipgbnjcgbjaaPlaMem
import Derived.Test.YtoeipgbnjcgbjaaPlaMem
import Derived.Test.YtoeipgbnjcgbjaaPlaMem
import Derived.Test.YtoeipgbnjcgbjaaRelC
import Derived.Deep.RegionHeld3
import Derived.Deep.RegionLaw
import Derived.Deep.CutBlock
namespace Go.Proofs.Ytoeipgbnjcgbjaa
open Go.RowKit
set_option linter.unusedVariables false

/-- The script in memory. -/
def OpsP (W : World) (As : Option Addr) (n : Nat) : Prop :=
  0 < n → ∃ b o, As = some ⟨b, o, none⟩ ∧ b < W.heap.size ∧ ∀ i, i < n → ∃ (kd who ix : Int) (A : Option Addr) (c : Nat) (xs : List Int),
    W.cell? ⟨b, o + i * 4, none⟩ = some (.int .i64 kd) ∧ W.cell? ⟨b, o + i * 4 + 1, none⟩ = some (.int .i64 who) ∧ W.cell? ⟨b, o + i * 4 + 2, none⟩ = some (.int .i64 ix) ∧ W.cell? ⟨b, o + i * 4 + 3, none⟩ = some (.slice A xs.length c) ∧
    (Lit.int .i64 kd).wf = true ∧ (Lit.int .i64 who).wf = true ∧ (Lit.int .i64 ix).wf = true ∧ Ints .u8 W A xs ∧ Bytes xs ∧ xs.length ≤ c ∧ c ≤ 9223372036854775807 ∧ xs.length ≤ 140737488351232
theorem placeP (a : Int) (D : Nat) (h : 0 < D) (h2 : D ≤ 157290000) : ∃ j : Nat, j < D ∧ (wrap64 (a.tmod D + D)).tmod D = (j : Int) := by
  have hb : -(D : Int) < a.tmod D ∧ a.tmod D < D := by
    rcases Int.le_total 0 a with ha | ha
    · rw [Int.tmod_eq_emod_of_nonneg ha]
      have := Int.emod_nonneg a (show (D : Int) ≠ 0 by omega)
      have := Int.emod_lt_of_pos a (show (0 : Int) < D by omega)
      omega
    · have h3 : a.tmod D = -((-a) % D) := by
        rw [← Int.tmod_eq_emod_of_nonneg (show 0 ≤ -a by omega), Int.neg_tmod, Int.neg_neg]
      have := Int.emod_nonneg (-a) (show (D : Int) ≠ 0 by omega)
      have := Int.emod_lt_of_pos (-a) (show (0 : Int) < D by omega)
      omega
  generalize a.tmod D = x at *
  rw [IntWalk.wrap64_in _ (by omega), Int.tmod_eq_emod_of_nonneg (by omega)]
  have h3 := Int.emod_nonneg (x + (D : Int)) (show (D : Int) ≠ 0 by omega)
  have h4 := Int.emod_lt_of_pos (x + (D : Int)) (show (0 : Int) < D by omega)
  generalize (x + (D : Int)) % D = y at *
  exact ⟨y.toNat, by omega, by omega⟩
set_option maxRecDepth 100000 in
set_option maxHeartbeats 40000000 in
theorem streamPlays_walk (id : Int) (As : Option Addr) (n c : Nat) (W : World) (hS : OpsP W As n) (hn : n ≤ 9223372036854775807) :
    Calls Try.prog 7 #[.int .i64 id, .slice As n c] W fun e w' => e = .returned (.bool true) ∧ Below W.heap.size W w' := by
  go_enter Try.func7, Try.ntmps7
  go_wp2_with fail
  refine (dial_any id _).mono ?_
  intro e w1 hN1
  obtain ⟨rfl, hE1, hb1⟩ := hN1
  go_wp2_with fail
  refine (listen_any id _).mono ?_
  intro e w2 hN2
  obtain ⟨rfl, hE2, hb2⟩ := hN2
  go_wp2_with fail
  have c1 := Cel.new w2 32 _ _ (pair_cells (.pointer (some ⟨W.heap.size, 0, none⟩)) (.pointer (some ⟨w1.heap.size, 0, none⟩)))
  have b1 : Below w2.heap.size w2 (w2.alloc (.cells #[.pointer (some ⟨W.heap.size, 0, none⟩), .pointer (some ⟨w1.heap.size, 0, none⟩)] 32)) := (Below.refl _ _).alloc (Nat.le_refl _) _
  have z1 : w2.heap.size < (w2.alloc (.cells #[.pointer (some ⟨W.heap.size, 0, none⟩), .pointer (some ⟨w1.heap.size, 0, none⟩)] 32)).heap.size := by simp
  generalize w2.alloc (.cells #[.pointer (some ⟨W.heap.size, 0, none⟩), .pointer (some ⟨w1.heap.size, 0, none⟩)] 32) = wa at *
  refine (rdial_any id _).mono ?_
  intro e w3 hN3
  obtain ⟨rfl, hR1, hb3⟩ := hN3
  go_wp2_with fail
  refine (rlisten_any id _).mono ?_
  intro e w4 hN4
  obtain ⟨rfl, hR2, hb4⟩ := hN4
  have c2 := (c1.below hb3 c1.blk)
  have c3 := c2.below (hb4.mono (Nat.le_refl _)) c2.blk
  have c4 := c3.alloc (.cells #[.pointer (some ⟨wa.heap.size, 0, none⟩), .pointer (some ⟨w3.heap.size, 0, none⟩)] 54)
  have g0 : _ = some (Value.pointer (some ⟨W.heap.size, 0, none⟩)) := c4.cell 0 (Nat.zero_lt_succ _)
  have g1 : _ = some (Value.pointer (some ⟨w1.heap.size, 0, none⟩)) := c4.cell 1 (Nat.lt_succ_self _)
  go_wp2_with fail
  have c5 := Cel.new w4 54 _ _ (pair_cells (.pointer (some ⟨wa.heap.size, 0, none⟩)) (.pointer (some ⟨w3.heap.size, 0, none⟩)))
  have b4 : Below w4.heap.size w4 (w4.alloc (.cells #[.pointer (some ⟨wa.heap.size, 0, none⟩), .pointer (some ⟨w3.heap.size, 0, none⟩)] 54)) := (Below.refl _ _).alloc (Nat.le_refl _) _
  have z4 : w4.heap.size < (w4.alloc (.cells #[.pointer (some ⟨wa.heap.size, 0, none⟩), .pointer (some ⟨w3.heap.size, 0, none⟩)] 54)).heap.size := by simp
  generalize w4.alloc (.cells #[.pointer (some ⟨wa.heap.size, 0, none⟩), .pointer (some ⟨w3.heap.size, 0, none⟩)] 54) = wb at *
  refine (awake18_any _).mono ?_
  intro e w5 hN5
  obtain ⟨rfl, hb5⟩ := hN5
  go_wp2
  have c6 := Cel.new w5 58 _ _ (pair_cells (.slice none 0 0) (.slice none 0 0))
  have b6 : Below w5.heap.size w5 (w5.alloc (.cells #[.slice none 0 0, .slice none 0 0] 58)) := (Below.refl _ _).alloc (Nat.le_refl _) _
  generalize w5.alloc (.cells #[.slice none 0 0, .slice none 0 0] 58) = w6 at *
  have s1 := hb1.size
  have s2 := hb2.size
  have s3 := hb3.size
  have s4 := hb4.size
  have s5 := hb5.size
  have g1_ := hE1.blk
  have g2_ := hE2.blk
  have g3_ := hR1.blk
  have g4_ := hR2.blk
  have t5 : Below w4.heap.size wb w6 := (hb5.mono (by omega)).trans (b6.mono (by omega))
  have t4 : Below w4.heap.size w4 w6 := b4.trans t5
  have t3 : Below w3.heap.size w3 w6 := hb4.trans (t4.mono (by omega))
  have ta : Below wa.heap.size wa w6 := hb3.trans (t3.mono (by omega))
  have t2 : Below w2.heap.size w2 w6 := b1.trans (ta.mono (by omega))
  have t1 : Below w1.heap.size w1 w6 := hb2.trans (t2.mono (by omega))
  have t0 : Below W.heap.size W w6 := hb1.trans (t1.mono (by omega))
  have hR0 : PlaRel 32 54 58 W ⟨w2.heap.size, w4.heap.size, w5.heap.size⟩ n (.int .i64 0) (.int .i64 0) w6 :=
    ⟨0, 0, _, _, _, rfl, rfl, Nat.zero_le _, Nat.zero_le _, Int.le_refl _, by decide, PMem.init (id := id) (g0 := W.heap.size) (g1 := w1.heap.size) (r0 := wa.heap.size) (r1 := w3.heap.size) (Nat.le_refl _) (by omega) (by omega) (by omega) (by omega) (by omega) (by omega) (hE1.below t1) (hE2.below t2) (hR1.below t3) (hR2.below t4) (c1.below ta c1.blk) (c5.below (hb5.trans (b6.mono (by omega))) c5.blk) c6 t0, Pla.zero _ _ _ _ _⟩
  have HR0 := Lib.hid hR0
  clear hR0 hE1 hE2 hR1 hR2 hb1 hb2 hb3 hb4 hb5 t0 t1 t2 t3 t4 t5 ta b1 b4 b6 c1 c2 c3 c4 c5 c6 g0 g1 g1_ g2_ g3_ g4_ s1 s2 s3 s4 s5 z1 z4
  generalize w2.heap.size = eb at *
  generalize w4.heap.size = rb at *
  generalize w5.heap.size = wb_ at *
  go_loopw [8, 9] (fun nw i wr => PlaRel 32 54 58 W ⟨eb, rb, wb_⟩ n nw i wr) (fun _ i _ => n - (intOf i).toNat)
  case atStart => exact HR0.out
  case round =>
    clear HR0
    obtain ⟨N, now, f, a, b, rfl, rfl, hNn, hN1, hn0, hn1, hM, hP⟩ := hrel
    by_cases hlt : N < n ∧ N < 120
    · obtain ⟨hlt, hl5⟩ := hlt
      have d1 : decide ((N : Int) < (n : Int)) = true := decide_eq_true (by omega)
      have d1' : decide (N < n) = true := decide_eq_true hlt
      have d2 : decide ((N : Int) < 120) = true := decide_eq_true (by omega)
      have d2' : decide (N < 120) = true := decide_eq_true hl5
      obtain ⟨bs, os, rfl, hbs, hcells⟩ := hS (by omega)
      obtain ⟨kd, who, ix, Ad, cd, xs, k0, k1, k2, k3, f0, f1, f2, hI, hby, hc1, hc2, hxm⟩ := hcells N hlt
      clear hcells hS
      have hbel := hM.bel
      have g0 : wr.cell? ⟨bs, os + N * 4, none⟩ = some (.int .i64 kd) := (hbel.cell (p := ⟨bs, os + N * 4, none⟩) hbs).trans k0
      have g1 : wr.cell? ⟨bs, os + N * 4 + 1, none⟩ = some (.int .i64 who) := (hbel.cell (p := ⟨bs, os + N * 4 + 1, none⟩) hbs).trans k1
      have g2 : wr.cell? ⟨bs, os + N * 4 + 2, none⟩ = some (.int .i64 ix) := (hbel.cell (p := ⟨bs, os + N * 4 + 2, none⟩) hbs).trans k2
      have g3 : wr.cell? ⟨bs, os + N * 4 + 3, none⟩ = some (.slice Ad xs.length cd) := (hbel.cell (p := ⟨bs, os + N * 4 + 3, none⟩) hbs).trans k3
      clear k0 k1 k2 k3
      obtain ⟨k, hk1, hk⟩ : ∃ k : Nat, k ≤ 1 ∧ bits BinOp.and IntKind.i64 who 1 = (k : Int) := ⟨(who % 2).toNat, by omega, by rw [i64_and1]; omega⟩
      obtain ⟨j, a, b, hM, hP⟩ := rolesP hk1 hM hP
      clear hbel
      go_upto_region 14 with (fail)
      have hSt := PSt.new (tO := 52) hM rfl (opF_cells kd who ix (.slice Ad xs.length cd))
      clear hk g0 g1 g2 g3 hM f0
      generalize wr.alloc (.cells #[.int .i64 kd, .int .i64 who, .int .i64 ix, .slice Ad xs.length cd] 52) = w0 at *
      generalize wr.heap.size = ob at *
      have kb0 : (0 : Int) ≤ (k : Int) := by omega
      have kb1 : (k : Int) < 2 := by omega
      obtain ⟨L, hL⟩ : ∃ L, a.way.length = L := ⟨_, rfl⟩
      have hLb : L ≤ 157290000 := by have := hP.1.len; omega
      have HL := Lib.hid hL
      clear hL
      obtain ⟨Aw, cw, hvw⟩ := hSt.rowOf.1.shape
      have cW := hSt.cW
      rw [hvw, HL.out] at cW
      have cI : w0.cell? ⟨ob, 2, none⟩ = some (.int .i64 ix) := hSt.cO 2 (by decide)
      clear hvw
      go_upto_if 63 with (fail)
      go_cut [13] (fun v wx => (∃ m : Nat, v = .int .i64 m ∧ (0 < L → m < L)) ∧ PSt 32 54 58 52 W wx ⟨eb, rb, wb_⟩ ob k j a b (opF kd who ix (.slice Ad xs.length cd)))
      case first => as_aux_lemma =>
        by_cases hL0 : 0 < L
        · have e1 : decide ((0 : Int) < (L : Int)) = true := decide_eq_true (by omega)
          have e1' : decide (0 < L) = true := decide_eq_true hL0
          have z0 : ¬ (L : Int) = 0 := by omega
          have z1 : ¬ L = 0 := by omega
          have z2 : ((L : Int) == 0) = false := by simpa using z1
          obtain ⟨m, hm, em⟩ := placeP ix L hL0 hLb
          have EM := Lib.hid em
          clear em
          go_wp2
          go_quiet (fail)
          go_wp2
          go_meet
          rw [EM.out]
          exact ⟨⟨m, rfl, fun _ => hm⟩, hSt.drew nq⟩
        · have e1 : decide ((0 : Int) < (L : Int)) = false := decide_eq_false (by omega)
          have e1' : decide (0 < L) = false := decide_eq_false hL0
          go_wp2
          go_meet
          exact ⟨⟨0, rfl, fun h => absurd h hL0⟩, hSt⟩
      case rest =>
        obtain ⟨⟨m, rfl, hmL⟩, hSt⟩ := hcut
        clear cW cI
        generalize wc = wd at *
        have cK : wd.cell? ⟨ob, 0, none⟩ = some (.int .i64 kd) := hSt.cO 0 (by decide)
        have cI : wd.cell? ⟨ob, 2, none⟩ = some (.int .i64 ix) := hSt.cO 2 (by decide)
        have cD : wd.cell? ⟨ob, 3, none⟩ = some (.slice Ad xs.length cd) := hSt.cO 3 (by decide)
        have hIx : Ints .u8 wd Ad xs := hI.below hSt.low
        go_upto_block 2 with (fail)
        go_cut [8, 12] (fun v okv wx => ∃ (now' : Int) (a' b' : Pd), v = .int .i64 now' ∧ okv = .bool true ∧ 0 ≤ now' ∧ now' ≤ 15 * (N + 1) ∧ Pla (N + 1) a' b' ∧ PSt 32 54 58 52 W wx ⟨eb, rb, wb_⟩ ob k j a' b' (opF kd who ix (.slice Ad xs.length cd)))
        case first => as_aux_lemma =>
          obtain ⟨hE, hOk, hFin, hRA⟩ := hSt.end_
          have cE := hSt.cE
          have cR := hSt.cR
          by_cases q0 : kd = 0
          · subst q0
            by_cases h6 : 6000 < xs.length
            · have d6 : decide ((6000 : Int) < (xs.length : Int)) = true := decide_eq_true (by omega)
              have d6' : decide (6000 < xs.length) = true := decide_eq_true h6
              have hlow := hSt.low
              clear hE cE cI cK hIx hOk hFin hI cR hRA
              have HL := Lib.hid hlow
              have HSZ := Lib.hid hlow.size
              clear hlow
              go_wp2_with fail
              refine (awake18_any _).mono ?_
              rintro e w5 ⟨rfl, hb5⟩
              go_wp2
              go_ret
              exact ⟨rfl, HL.out.trans (hb5.mono HSZ.out)⟩
            · have d6 : decide ((6000 : Int) < (xs.length : Int)) = false := decide_eq_false (by omega)
              have d6' : decide (6000 < xs.length) = false := decide_eq_false h6
              obtain ⟨i0, hi, hz0, hz1, hz2⟩ := info_parts Try.info_u8
              have hxl : xs.length ≤ 6000 := by omega
              have hmx1 : 0 + xs.length ≤ maxLen := by unfold maxLen; omega
              have hmx2 : (0 + xs.length) * 1 ≤ 140737488355328 := by omega
              have ewr := Lib.hid (show ((writeS a.s xs).1 == (writeS a.t xs).1) = true by rw [(hP.1.write (vo := a.vo) (vi := a.vi) xs).1]; exact i64_beq_refl _)
              have HP := Lib.hid (fun vo vi => (show Pla N _ b from ⟨(hP.1.write (vo := vo) (vi := vi) xs).2, hP.2⟩).more)
              have HOK := Lib.hid hOk
              have HOKT := Lib.hid (hP.1.okT hOk hFin).1
              have HB := Lib.hid hby
              have HIN := Lib.hid hI
              have HS0 := Lib.hid hSt
              have hsrc : Src Try.prog (wd.alloc (.cells #[] 5)) 1 (.slice Ad xs.length cd) xs.length (xs.map (Value.int .u8)) := Src.ints (hI.below (hSt.low.alloc hSt.size _))
              have hon : OwnS (wd.alloc (.cells #[] 5)) wd.heap.size 5 1 (.slice (some ⟨wd.heap.size, 0, none⟩) 0 0) 0 [] := OwnS.none_new (Nat.le_refl _)
              have hbs1 : wd.heap.size ≤ (wd.alloc (.cells #[] 5)).heap.size := by simp
              have cD1 : (wd.alloc (.cells #[] 5)).cell? ⟨ob, 3, none⟩ = some (.slice Ad xs.length cd) := (hSt.below ((Below.refl _ _).alloc (Nat.le_refl _) _)).cO 3 (by decide)
              have hbe1 := Lib.hid (show Below wd.heap.size wd (wd.alloc (.cells #[] 5)) from (Below.refl _ _).alloc (Nat.le_refl _) _)
              clear hSt hE hP hOk hFin hIx cI hRA cE cR hI hby
              go_upto_region 22 with (at_builtin; go_loud (refine wpList_append_S rfl (.tmp 95) (.tmp 97) 22 22 rfl i0 (.int .u8 0) 1 (.slice 5) Try.underlying22 Try.underlying22 (fun _ h => by cases h) hi hz0 hz1 hz2 rfl rfl rfl hon hsrc hmx1 hmx2 hbs1 ?_; rw [Nat.zero_add, List.nil_append]; intro A9 c9 w9 ho9 hg9 hw9))
              have hPO := POw.new HS0.out (grown_below hbe1.out hg9 (fun x hx => by injection hx with hx; exact Nat.le_of_eq hx)) ho9
              have HS := Lib.hid hPO.drw
              clear hPO hon hsrc hbs1 hbe1 ho9 hg9 hw9 HS0 hmx1 hmx2 cD cD1
              refine wp_region_ph (by kernel_rfl) [5, 13] [.span 0 0, .span 0 0, .span 0 0, .span 0 0, .span 0 0, .phase 0, .span 0 1, .span 0 1, .span 0 1, .span 0 1, .span 0 1, .span 0 1, .span 0 1, .phase 1, .span 2 2, .span 2 2] [fun z9 => z9 = .slice (some ⟨eb, 0, none⟩) 2 2, fun z9 => z9 = .int .i64 k, fun z9 => z9 = .pointer (some ⟨eb, k, none⟩), fun z9 => z9 = .pointer (some ⟨a.g, 0, none⟩), fun z9 => z9 = .slice A9 xs.length c9, fun z9 => z9 = .int .i64 (writeS a.s xs).1, fun z9 => z9 = .slice (some ⟨rb, 0, none⟩) 2 2, fun z9 => z9 = .int .i64 k, fun z9 => z9 = .pointer (some ⟨rb, k, none⟩), fun z9 => z9 = .pointer (some ⟨a.r, 0, none⟩), fun z9 => z9 = .pointer (some ⟨ob, 3, none⟩), fun z9 => z9 = .slice Ad xs.length cd, fun z9 => z9 = .string (strOfNums xs), fun z9 => z9 = .int .i64 (writeS a.t xs).1, fun z9 => z9 = .bool true, fun z9 => z9 = .bool true] (J22 32 54 58 52 W ⟨eb, rb, wb_⟩ ob k j a b (opF 0 who ix (.slice Ad xs.length cd)) (.slice A9 xs.length c9) xs) (by kernel_rfl) (by kernel_rfl) (by kernel_rfl) (by kernel_rfl) (by kernel_rfl) (by kernel_rfl) rfl rfl (HS.out) ?steps ?done
              case steps =>
                refine ⟨?_, ?_, ?_, ?_, ?_, ?_, ?_, ?_, ?_, ?_, ?_, ?_, ?_, ?_, ?_, ?_, trivial⟩
                · intro us au w1 k0 hlo hhi ha hd hst hI
                  obtain rfl : k0 = 0 := by omega
                  have q5 := slot_far (t := 5) (v := .slice (some ⟨eb, 0, none⟩) 2 2) ha (by kernel_rfl) (by kernel_rfl)
                  have p5 := slot_norm q5
                  clear ha hd hst
                  exact StepI.pure (v := .slice (some ⟨eb, 0, none⟩) 2 2) rfl rfl (by go_simp) ⟨rfl, hI⟩
                · intro us au w1 k1 hlo hhi ha hd hst hI
                  obtain rfl : k1 = 0 := by omega
                  have q11 := slot_far (t := 11) (v := .int .i64 k) ha (by kernel_rfl) (by kernel_rfl)
                  have p11 := slot_norm q11
                  clear ha hd hst
                  exact StepI.pure (v := .int .i64 k) rfl rfl (by go_simp) ⟨rfl, hI⟩
                · intro us au w1 k2 hlo hhi ha hd hst hI
                  obtain rfl : k2 = 0 := by omega
                  have e0 := hd 0 _ (by kernel_rfl) rfl
                  have e1 := hd 1 _ (by kernel_rfl) rfl
                  have q99 := slot_at (t := 99) 0 ha (by kernel_rfl) (by kernel_rfl) (by kernel_rfl) e0
                  have p99 := slot_norm q99
                  have q100 := slot_at (t := 100) 1 ha (by kernel_rfl) (by kernel_rfl) (by kernel_rfl) e1
                  have p100 := slot_norm q100
                  clear ha hd hst
                  exact StepI.pure (v := .pointer (some ⟨eb, k, none⟩)) rfl rfl (by go_simp) ⟨rfl, hI⟩
                · intro us au w1 k3 hlo hhi ha hd hst hI
                  obtain rfl : k3 = 0 := by omega
                  have e2 := hd 2 _ (by kernel_rfl) rfl
                  have q101 := slot_at (t := 101) 2 ha (by kernel_rfl) (by kernel_rfl) (by kernel_rfl) e2
                  have p101 := slot_norm q101
                  clear ha hd hst
                  have cl := (J22.cells hI).e
                  exact StepI.pure (v := .pointer (some ⟨a.g, 0, none⟩)) rfl rfl (by go_simp) ⟨rfl, hI⟩
                · intro us au w1 k4 hlo hhi ha hd hst hI
                  obtain rfl : k4 = 0 := by omega
                  have q14 := slot_far (t := 14) (v := .slice A9 xs.length c9) ha (by kernel_rfl) (by kernel_rfl)
                  have p14 := slot_norm q14
                  clear ha hd hst
                  exact StepI.pure (v := .slice A9 xs.length c9) rfl rfl (by go_simp) ⟨rfl, hI⟩
                · intro us au w1 ha hd hst hI
                  have e3 := hd 3 _ (by kernel_rfl) rfl
                  have e4 := hd 4 _ (by kernel_rfl) rfl
                  have q102 := slot_at (t := 102) 3 ha (by kernel_rfl) (by kernel_rfl) (by kernel_rfl) e3
                  have p102 := slot_norm q102
                  have q103 := slot_at (t := 103) 4 ha (by kernel_rfl) (by kernel_rfl) (by kernel_rfl) e4
                  have p103 := slot_norm q103
                  clear ha hd hst
                  refine StepI.call (f := 21) (args := #[.pointer (some ⟨a.g, 0, none⟩), .slice A9 xs.length c9]) rfl rfl (by go_simp) ?_
                  refine (write_any a.g a.s a.vo a.vi A9 xs.length c9 xs w1 (PSt.end_ (POw.p hI)).1 HOK.out (OwnS.ints (POw.o hI)) rfl (by omega)).mono ?_
                  intro e w5 hW5
                  obtain ⟨vo', he, hS5⟩ := POw.write hI HB.out hW5
                  exact ⟨_, he, rfl, ⟨vo', hS5⟩⟩
                · intro us au w1 k6 hlo hhi ha hd hst hI
                  have q6 := slot_far (t := 6) (v := .slice (some ⟨rb, 0, none⟩) 2 2) ha (by kernel_rfl) (by kernel_rfl)
                  have p6 := slot_norm q6
                  clear ha hd hst
                  exact StepI.pure (v := .slice (some ⟨rb, 0, none⟩) 2 2) rfl rfl (by go_simp) ⟨rfl, hI⟩
                · intro us au w1 k7 hlo hhi ha hd hst hI
                  have q11 := slot_far (t := 11) (v := .int .i64 k) ha (by kernel_rfl) (by kernel_rfl)
                  have p11 := slot_norm q11
                  clear ha hd hst
                  exact StepI.pure (v := .int .i64 k) rfl rfl (by go_simp) ⟨rfl, hI⟩
                · intro us au w1 k8 hlo hhi ha hd hst hI
                  have e6 := hd 6 _ (by kernel_rfl) rfl
                  have e7 := hd 7 _ (by kernel_rfl) rfl
                  have q105 := slot_at (t := 105) 6 ha (by kernel_rfl) (by kernel_rfl) (by kernel_rfl) e6
                  have p105 := slot_norm q105
                  have q106 := slot_at (t := 106) 7 ha (by kernel_rfl) (by kernel_rfl) (by kernel_rfl) e7
                  have p106 := slot_norm q106
                  clear ha hd hst
                  exact StepI.pure (v := .pointer (some ⟨rb, k, none⟩)) rfl rfl (by go_simp) ⟨rfl, hI⟩
                · intro us au w1 k9 hlo hhi ha hd hst hI
                  have e8 := hd 8 _ (by kernel_rfl) rfl
                  have q107 := slot_at (t := 107) 8 ha (by kernel_rfl) (by kernel_rfl) (by kernel_rfl) e8
                  have p107 := slot_norm q107
                  clear ha hd hst
                  have cl := (J22.cells hI).r
                  exact StepI.pure (v := .pointer (some ⟨a.r, 0, none⟩)) rfl rfl (by go_simp) ⟨rfl, hI⟩
                · intro us au w1 k10 hlo hhi ha hd hst hI
                  have q10 := slot_far (t := 10) (v := .pointer (some ⟨ob, 0, none⟩)) ha (by kernel_rfl) (by kernel_rfl)
                  have p10 := slot_norm q10
                  clear ha hd hst
                  exact StepI.pure (v := .pointer (some ⟨ob, 3, none⟩)) rfl rfl (by go_simp) ⟨rfl, hI⟩
                · intro us au w1 k11 hlo hhi ha hd hst hI
                  have e10 := hd 10 _ (by kernel_rfl) rfl
                  have q109 := slot_at (t := 109) 10 ha (by kernel_rfl) (by kernel_rfl) (by kernel_rfl) e10
                  have p109 := slot_norm q109
                  clear ha hd hst
                  have cl : w1.cell? ⟨ob, 3, none⟩ = some (.slice Ad xs.length cd) := (J22.cells hI).o 3 (by decide)
                  exact StepI.pure (v := .slice Ad xs.length cd) rfl rfl (by go_simp) ⟨rfl, hI⟩
                · intro us au w1 k12 hlo hhi ha hd hst hI
                  have e11 := hd 11 _ (by kernel_rfl) rfl
                  have q110 := slot_at (t := 110) 11 ha (by kernel_rfl) (by kernel_rfl) (by kernel_rfl) e11
                  have p110 := slot_norm q110
                  clear ha hd hst
                  have hcv := run_str_ints (P := Try.prog) (w := w1) 22 9 5 Try.underlying22 Try.underlying5 Try.underlying9 Ad cd xs (HIN.out.below (J22.cells hI).low)
                  exact StepI.pure (v := .string (strOfNums xs)) rfl rfl (by go_simp) ⟨rfl, hI⟩
                · intro us au w1 ha hd hst hI
                  have e9 := hd 9 _ (by kernel_rfl) rfl
                  have e12 := hd 12 _ (by kernel_rfl) rfl
                  have q108 := slot_at (t := 108) 9 ha (by kernel_rfl) (by kernel_rfl) (by kernel_rfl) e9
                  have p108 := slot_norm q108
                  have q111 := slot_at (t := 111) 12 ha (by kernel_rfl) (by kernel_rfl) (by kernel_rfl) e12
                  have p111 := slot_norm q111
                  clear ha hd hst
                  obtain ⟨vo', hS1⟩ := hI
                  refine StepI.call (f := 31) (args := #[.pointer (some ⟨a.r, 0, none⟩), .string (strOfNums xs)]) rfl rfl (by go_simp) ?_
                  refine (rwrite_any a.r a.t xs w1 hS1.p.end_.2.2.2 HOKT.out (by omega)).mono ?_
                  rintro e w5 ⟨rfl, hR5, hC5⟩
                  exact ⟨_, rfl, rfl, ⟨vo', hS1.stepR hR5 hC5⟩⟩
                · intro us au w1 k14 hlo hhi ha hd hst hI
                  obtain rfl : k14 = 2 := by omega
                  have e5 := hd 5 _ (by kernel_rfl) rfl
                  have e13 := hd 13 _ (by kernel_rfl) rfl
                  have q104 := slot_at (t := 104) 5 ha (by kernel_rfl) (by kernel_rfl) (by kernel_rfl) e5
                  have p104 := slot_norm q104
                  have q112 := slot_at (t := 112) 13 ha (by kernel_rfl) (by kernel_rfl) (by kernel_rfl) e13
                  have p112 := slot_norm q112
                  clear ha hd hst
                  have dd := ewr.out
                  exact StepI.pure (v := .bool true) rfl rfl (by go_simp) ⟨rfl, hI⟩
                · intro us au w1 k15 hlo hhi ha hd hst hI
                  obtain rfl : k15 = 2 := by omega
                  have e14 := hd 14 _ (by kernel_rfl) rfl
                  have q113 := slot_at (t := 113) 14 ha (by kernel_rfl) (by kernel_rfl) (by kernel_rfl) e14
                  have p113 := slot_norm q113
                  clear ha hd hst
                  exact StepI.pure (v := .bool true) rfl rfl (by go_simp) ⟨rfl, hI⟩
              case done =>
                intro us w1 hI hd
                obtain ⟨vo', hPO5⟩ := hI
                have e15 := hd 15 _ (by decide) rfl
                have HP5 := Lib.hid hPO5
                clear hd HS ewr HOKT HOK HB HIN hPO5
                simp only [putAll]
                go_simp
                go_wp2
                go_loopw [15] (fun jv wr => ∃ (i : Nat) (zs : List Int), jv = .int .i64 i ∧ i ≤ xs.length ∧ zs.length = xs.length ∧ POw 32 54 58 52 W wr ⟨eb, rb, wb_⟩ ob k j { a with s := (writeS a.s xs).2, vo := vo', vi := a.vi, t := (writeS a.t xs).2 } b (opF 0 who ix (.slice Ad xs.length cd)) (.slice A9 zs.length c9) zs) (fun jv _ => xs.length - (intOf jv).toNat)
                case atStart => exact ⟨0, xs, rfl, Nat.zero_le _, rfl, HP5.out⟩
                case round =>
                  clear HP5
                  obtain ⟨i, zs, rfl, hil, hzl, hPO⟩ := hrel
                  by_cases hij : i < xs.length
                  · have g1 : decide ((i : Int) < (xs.length : Int)) = true := decide_eq_true (by omega)
                    have g1' : decide (i < xs.length) = true := decide_eq_true hij
                    obtain ⟨g, o, c, hv, _, _, hcell⟩ := hPO.o.cells (by rw [List.length_map]; omega)
                    injection hv with hA _ hc
                    subst hA; subst hc
                    have hci := hcell i (by rw [List.length_map]; omega)
                    rw [List.getElem?_map, List.getElem?_eq_getElem (by omega)] at hci
                    simp only [Option.map_some] at hci
                    generalize zs[i]'(by omega) = z at hci
                    have hfr := hPO.o.free (i := i) (by omega)
                    have HPO := Lib.hid hPO
                    have i0' : (0 : Int) ≤ (i : Int) := by omega
                    have i1' : (i : Int) < (xs.length : Int) := by omega
                    clear hPO hcell
                    go_wp2
                    go_roundw
                    case rel => exact ⟨i + 1, zs.set i _, by go_num, by omega, by rw [List.length_set]; exact hzl, HPO.out.set (by omega)⟩
                    case measure => simp [intOf]; omega
                  · have g1 : decide ((i : Int) < (xs.length : Int)) = false := decide_eq_false (by omega)
                    have g1' : decide (i < xs.length) = false := decide_eq_false hij
                    go_wp2
                    go_meet
                    exact ⟨now, _, b, rfl, (by first | rfl | exact e15), hn0, by omega, HP.out _ _, hPO.p⟩
          · have n0 : (kd == 0) = false := by rw [beq_eq_false_iff_ne]; exact q0
            by_cases q1 : kd = 1
            · subst q1
              have ecl := Lib.hid (show ((closeS a.s).1 == (closeS a.t).1) = true by rw [(hP.1.close (vo := a.vo) (vi := a.vi)).1]; exact i64_beq_refl _)
              have HP := Lib.hid (fun vo vi => (show Pla N _ b from ⟨(hP.1.close (vo := vo) (vi := vi)).2, hP.2⟩).more)
              have HS := Lib.hid hSt.drw
              clear hSt hE hP hOk hFin hIx cD cI hRA cE cR hI hby
              go_upto_region 28 with (fail)
              refine wp_region_ph (by kernel_rfl) [4, 9] [.span 0 0, .span 0 0, .span 0 0, .span 0 0, .phase 0, .span 0 1, .span 0 1, .span 0 1, .span 0 1, .phase 1, .span 2 2, .span 2 2] [fun z9 => z9 = .slice (some ⟨eb, 0, none⟩) 2 2, fun z9 => z9 = .int .i64 k, fun z9 => z9 = .pointer (some ⟨eb, k, none⟩), fun z9 => z9 = .pointer (some ⟨a.g, 0, none⟩), fun z9 => z9 = .int .i64 (closeS a.s).1, fun z9 => z9 = .slice (some ⟨rb, 0, none⟩) 2 2, fun z9 => z9 = .int .i64 k, fun z9 => z9 = .pointer (some ⟨rb, k, none⟩), fun z9 => z9 = .pointer (some ⟨a.r, 0, none⟩), fun z9 => z9 = .int .i64 (closeS a.t).1, fun z9 => z9 = .bool true, fun z9 => z9 = .bool true] (JTwo 32 54 58 52 W ⟨eb, rb, wb_⟩ ob k j a b (opF 1 who ix (.slice Ad xs.length cd)) (closeS a.s).2 (closeS a.t).2) (by kernel_rfl) (by kernel_rfl) (by kernel_rfl) (by kernel_rfl) (by kernel_rfl) (by kernel_rfl) rfl rfl (HS.out) ?steps ?done
              case steps =>
                refine ⟨?_, ?_, ?_, ?_, ?_, ?_, ?_, ?_, ?_, ?_, ?_, ?_, trivial⟩
                · intro us au w1 k0 hlo hhi ha hd hst hI
                  obtain rfl : k0 = 0 := by omega
                  have q5 := slot_far (t := 5) (v := .slice (some ⟨eb, 0, none⟩) 2 2) ha (by kernel_rfl) (by kernel_rfl)
                  have p5 := slot_norm q5
                  clear ha hd hst
                  exact StepI.pure (v := .slice (some ⟨eb, 0, none⟩) 2 2) rfl rfl (by go_simp) ⟨rfl, hI⟩
                · intro us au w1 k1 hlo hhi ha hd hst hI
                  obtain rfl : k1 = 0 := by omega
                  have q11 := slot_far (t := 11) (v := .int .i64 k) ha (by kernel_rfl) (by kernel_rfl)
                  have p11 := slot_norm q11
                  clear ha hd hst
                  exact StepI.pure (v := .int .i64 k) rfl rfl (by go_simp) ⟨rfl, hI⟩
                · intro us au w1 k2 hlo hhi ha hd hst hI
                  obtain rfl : k2 = 0 := by omega
                  have e0 := hd 0 _ (by kernel_rfl) rfl
                  have e1 := hd 1 _ (by kernel_rfl) rfl
                  have q128 := slot_at (t := 128) 0 ha (by kernel_rfl) (by kernel_rfl) (by kernel_rfl) e0
                  have p128 := slot_norm q128
                  have q129 := slot_at (t := 129) 1 ha (by kernel_rfl) (by kernel_rfl) (by kernel_rfl) e1
                  have p129 := slot_norm q129
                  clear ha hd hst
                  exact StepI.pure (v := .pointer (some ⟨eb, k, none⟩)) rfl rfl (by go_simp) ⟨rfl, hI⟩
                · intro us au w1 k3 hlo hhi ha hd hst hI
                  obtain rfl : k3 = 0 := by omega
                  have e2 := hd 2 _ (by kernel_rfl) rfl
                  have q130 := slot_at (t := 130) 2 ha (by kernel_rfl) (by kernel_rfl) (by kernel_rfl) e2
                  have p130 := slot_norm q130
                  clear ha hd hst
                  have cl := (JTwo.cells hI).e
                  exact StepI.pure (v := .pointer (some ⟨a.g, 0, none⟩)) rfl rfl (by go_simp) ⟨rfl, hI⟩
                · intro us au w1 ha hd hst hI
                  have e3 := hd 3 _ (by kernel_rfl) rfl
                  have q131 := slot_at (t := 131) 3 ha (by kernel_rfl) (by kernel_rfl) (by kernel_rfl) e3
                  have p131 := slot_norm q131
                  clear ha hd hst
                  refine StepI.call (f := 28) (args := #[.pointer (some ⟨a.g, 0, none⟩)]) rfl rfl (by go_simp) ?_
                  refine (close_any a.g a.s a.vo a.vi w1 (PSt.end_ hI).1).mono ?_
                  rintro e w5 ⟨rfl, hE5, hC5⟩
                  exact ⟨_, rfl, rfl, ⟨_, _, PSt.close hI hE5 hC5⟩⟩
                · intro us au w1 k5 hlo hhi ha hd hst hI
                  have q6 := slot_far (t := 6) (v := .slice (some ⟨rb, 0, none⟩) 2 2) ha (by kernel_rfl) (by kernel_rfl)
                  have p6 := slot_norm q6
                  clear ha hd hst
                  exact StepI.pure (v := .slice (some ⟨rb, 0, none⟩) 2 2) rfl rfl (by go_simp) ⟨rfl, hI⟩
                · intro us au w1 k6 hlo hhi ha hd hst hI
                  have q11 := slot_far (t := 11) (v := .int .i64 k) ha (by kernel_rfl) (by kernel_rfl)
                  have p11 := slot_norm q11
                  clear ha hd hst
                  exact StepI.pure (v := .int .i64 k) rfl rfl (by go_simp) ⟨rfl, hI⟩
                · intro us au w1 k7 hlo hhi ha hd hst hI
                  have e5 := hd 5 _ (by kernel_rfl) rfl
                  have e6 := hd 6 _ (by kernel_rfl) rfl
                  have q133 := slot_at (t := 133) 5 ha (by kernel_rfl) (by kernel_rfl) (by kernel_rfl) e5
                  have p133 := slot_norm q133
                  have q134 := slot_at (t := 134) 6 ha (by kernel_rfl) (by kernel_rfl) (by kernel_rfl) e6
                  have p134 := slot_norm q134
                  clear ha hd hst
                  exact StepI.pure (v := .pointer (some ⟨rb, k, none⟩)) rfl rfl (by go_simp) ⟨rfl, hI⟩
                · intro us au w1 k8 hlo hhi ha hd hst hI
                  have e7 := hd 7 _ (by kernel_rfl) rfl
                  have q135 := slot_at (t := 135) 7 ha (by kernel_rfl) (by kernel_rfl) (by kernel_rfl) e7
                  have p135 := slot_norm q135
                  clear ha hd hst
                  have cl := (JTwo.cells hI).r
                  exact StepI.pure (v := .pointer (some ⟨a.r, 0, none⟩)) rfl rfl (by go_simp) ⟨rfl, hI⟩
                · intro us au w1 ha hd hst hI
                  have e8 := hd 8 _ (by kernel_rfl) rfl
                  have q136 := slot_at (t := 136) 8 ha (by kernel_rfl) (by kernel_rfl) (by kernel_rfl) e8
                  have p136 := slot_norm q136
                  clear ha hd hst
                  obtain ⟨vo', vi', hS1⟩ := hI
                  refine StepI.call (f := 32) (args := #[.pointer (some ⟨a.r, 0, none⟩)]) rfl rfl (by go_simp) ?_
                  refine (rclose_any a.r a.t w1 hS1.end_.2.2.2).mono ?_
                  rintro e w5 ⟨rfl, hR5, hC5⟩
                  exact ⟨_, rfl, rfl, ⟨vo', vi', hS1.stepR hR5 hC5⟩⟩
                · intro us au w1 k10 hlo hhi ha hd hst hI
                  obtain rfl : k10 = 2 := by omega
                  have e4 := hd 4 _ (by kernel_rfl) rfl
                  have e9 := hd 9 _ (by kernel_rfl) rfl
                  have q132 := slot_at (t := 132) 4 ha (by kernel_rfl) (by kernel_rfl) (by kernel_rfl) e4
                  have p132 := slot_norm q132
                  have q137 := slot_at (t := 137) 9 ha (by kernel_rfl) (by kernel_rfl) (by kernel_rfl) e9
                  have p137 := slot_norm q137
                  clear ha hd hst
                  have dd := ecl.out
                  exact StepI.pure (v := .bool true) rfl rfl (by go_simp) ⟨rfl, hI⟩
                · intro us au w1 k11 hlo hhi ha hd hst hI
                  obtain rfl : k11 = 2 := by omega
                  have e10 := hd 10 _ (by kernel_rfl) rfl
                  have q138 := slot_at (t := 138) 10 ha (by kernel_rfl) (by kernel_rfl) (by kernel_rfl) e10
                  have p138 := slot_norm q138
                  clear ha hd hst
                  exact StepI.pure (v := .bool true) rfl rfl (by go_simp) ⟨rfl, hI⟩
              case done =>
                intro us w1 hI hd
                obtain ⟨vo', vi', hSt5⟩ := hI
                have e11 := hd 11 _ (by decide) rfl
                clear hd HS ecl
                simp only [putAll]
                go_simp
                go_wp2
                go_meet
                exact ⟨now, _, b, rfl, (by first | rfl | exact e11), hn0, by omega, HP.out _ _, hSt5⟩
            · have n1 : (kd == 1) = false := by rw [beq_eq_false_iff_ne]; exact q1
              by_cases q2 : kd = 2
              · subst q2
                have erd := Lib.hid (show (strOfNums (readS a.s).1).toList = (strOfNums (readS a.t).1).toList by rw [(hP.1.read (vo := a.vo) (vi := a.vi)).1])
                have HP := Lib.hid (fun vo vi => (show Pla N _ b from ⟨(hP.1.read (vo := vo) (vi := vi)).2, hP.2⟩).more)
                have HOKT := Lib.hid (hP.1.okT hOk hFin).1
                have HS := Lib.hid hSt.drw
                clear hSt hE hP hOk hFin hIx cD cI hRA cE cR hI hby
                go_upto_region 30 with (fail)
                refine wp_region_ph (by kernel_rfl) [4, 10] [.span 0 0, .span 0 0, .span 0 0, .span 0 0, .phase 0, .span 1 2, .span 0 1, .span 0 1, .span 0 1, .span 0 1, .phase 1, .span 2 2, .span 2 2] [fun z9 => z9 = .slice (some ⟨eb, 0, none⟩) 2 2, fun z9 => z9 = .int .i64 k, fun z9 => z9 = .pointer (some ⟨eb, k, none⟩), fun z9 => z9 = .pointer (some ⟨a.g, 0, none⟩), fun v => ∃ A, v = .slice A (readS a.s).1.length (readS a.s).1.length, fun z9 => z9 = .string (strOfNums (readS a.s).1), fun z9 => z9 = .slice (some ⟨rb, 0, none⟩) 2 2, fun z9 => z9 = .int .i64 k, fun z9 => z9 = .pointer (some ⟨rb, k, none⟩), fun z9 => z9 = .pointer (some ⟨a.r, 0, none⟩), fun z9 => z9 = .string (strOfNums (readS a.t).1), fun z9 => z9 = .bool true, fun z9 => z9 = .bool true] (JRd 32 54 58 52 W ⟨eb, rb, wb_⟩ ob k j a b (opF 2 who ix (.slice Ad xs.length cd))) (by kernel_rfl) (by kernel_rfl) (by kernel_rfl) (by kernel_rfl) (by kernel_rfl) (by kernel_rfl) rfl rfl (HS.out) ?steps ?done
                case steps =>
                  refine ⟨?_, ?_, ?_, ?_, ?_, ?_, ?_, ?_, ?_, ?_, ?_, ?_, ?_, trivial⟩
                  · intro us au w1 k0 hlo hhi ha hd hst hI
                    obtain rfl : k0 = 0 := by omega
                    have q5 := slot_far (t := 5) (v := .slice (some ⟨eb, 0, none⟩) 2 2) ha (by kernel_rfl) (by kernel_rfl)
                    have p5 := slot_norm q5
                    clear ha hd hst
                    exact StepI.pure (v := .slice (some ⟨eb, 0, none⟩) 2 2) rfl rfl (by go_simp) ⟨rfl, hI⟩
                  · intro us au w1 k1 hlo hhi ha hd hst hI
                    obtain rfl : k1 = 0 := by omega
                    have q11 := slot_far (t := 11) (v := .int .i64 k) ha (by kernel_rfl) (by kernel_rfl)
                    have p11 := slot_norm q11
                    clear ha hd hst
                    exact StepI.pure (v := .int .i64 k) rfl rfl (by go_simp) ⟨rfl, hI⟩
                  · intro us au w1 k2 hlo hhi ha hd hst hI
                    obtain rfl : k2 = 0 := by omega
                    have e0 := hd 0 _ (by kernel_rfl) rfl
                    have e1 := hd 1 _ (by kernel_rfl) rfl
                    have q141 := slot_at (t := 141) 0 ha (by kernel_rfl) (by kernel_rfl) (by kernel_rfl) e0
                    have p141 := slot_norm q141
                    have q142 := slot_at (t := 142) 1 ha (by kernel_rfl) (by kernel_rfl) (by kernel_rfl) e1
                    have p142 := slot_norm q142
                    clear ha hd hst
                    exact StepI.pure (v := .pointer (some ⟨eb, k, none⟩)) rfl rfl (by go_simp) ⟨rfl, hI⟩
                  · intro us au w1 k3 hlo hhi ha hd hst hI
                    obtain rfl : k3 = 0 := by omega
                    have e2 := hd 2 _ (by kernel_rfl) rfl
                    have q143 := slot_at (t := 143) 2 ha (by kernel_rfl) (by kernel_rfl) (by kernel_rfl) e2
                    have p143 := slot_norm q143
                    clear ha hd hst
                    have cl := (JRd.cells hI (by simp only [List.length_map, List.length_take]; omega)).e
                    exact StepI.pure (v := .pointer (some ⟨a.g, 0, none⟩)) rfl rfl (by go_simp) ⟨rfl, hI⟩
                  · intro us au w1 ha hd hst hI
                    have e3 := hd 3 _ (by kernel_rfl) rfl
                    have q144 := slot_at (t := 144) 3 ha (by kernel_rfl) (by kernel_rfl) (by kernel_rfl) e3
                    have p144 := slot_norm q144
                    clear ha hd hst
                    refine StepI.call (f := 27) (args := #[.pointer (some ⟨a.g, 0, none⟩)]) rfl rfl (by go_simp) ?_
                    have hE9 := (PSt.end_ hI).1
                    have hR9 := (PSt.end_ hI).2.2.2
                    refine (read_any a.g a.s a.vo a.vi w1 hE9 (PSt.end_ hI).2.1).mono ?_
                    intro e w5 hO5
                    obtain ⟨Ao, he, hSO, hS5⟩ := PSt.read hI hO5
                    exact ⟨_, he, ⟨Ao, rfl⟩, ⟨Ao, rfl, hSO.base_ (Nat.zero_le _), fun x hx hr => by have h1 := (hSO.lt x hx).1; have h2 := hR9.blk; omega⟩, ⟨_, _, hS5⟩⟩
                  · intro us au w1 k5 hlo hhi ha hd hst hI
                    obtain ⟨A4, e4⟩ := hd 4 _ (by kernel_rfl) rfl
                    have q145 := slot_at (t := 145) 4 ha (by kernel_rfl) (by kernel_rfl) (by kernel_rfl) (Eq.refl (us 4))
                    have p145 := slot_norm q145
                    clear ha hd hst
                    obtain ⟨A5, hv5, hI5⟩ := JRd.ints (by omega) hhi hI
                    clear e4
                    have hcv := run_str_ints (P := Try.prog) (w := w1) 22 9 5 Try.underlying22 Try.underlying5 Try.underlying9 A5 (readS a.s).1.length (readS a.s).1 hI5
                    exact StepI.pure (v := .string (strOfNums (readS a.s).1)) rfl rfl (by go_simp) ⟨rfl, hI⟩
                  · intro us au w1 k6 hlo hhi ha hd hst hI
                    have q6 := slot_far (t := 6) (v := .slice (some ⟨rb, 0, none⟩) 2 2) ha (by kernel_rfl) (by kernel_rfl)
                    have p6 := slot_norm q6
                    clear ha hd hst
                    exact StepI.pure (v := .slice (some ⟨rb, 0, none⟩) 2 2) rfl rfl (by go_simp) ⟨rfl, hI⟩
                  · intro us au w1 k7 hlo hhi ha hd hst hI
                    have q11 := slot_far (t := 11) (v := .int .i64 k) ha (by kernel_rfl) (by kernel_rfl)
                    have p11 := slot_norm q11
                    clear ha hd hst
                    exact StepI.pure (v := .int .i64 k) rfl rfl (by go_simp) ⟨rfl, hI⟩
                  · intro us au w1 k8 hlo hhi ha hd hst hI
                    have e6 := hd 6 _ (by kernel_rfl) rfl
                    have e7 := hd 7 _ (by kernel_rfl) rfl
                    have q147 := slot_at (t := 147) 6 ha (by kernel_rfl) (by kernel_rfl) (by kernel_rfl) e6
                    have p147 := slot_norm q147
                    have q148 := slot_at (t := 148) 7 ha (by kernel_rfl) (by kernel_rfl) (by kernel_rfl) e7
                    have p148 := slot_norm q148
                    clear ha hd hst
                    exact StepI.pure (v := .pointer (some ⟨rb, k, none⟩)) rfl rfl (by go_simp) ⟨rfl, hI⟩
                  · intro us au w1 k9 hlo hhi ha hd hst hI
                    have e8 := hd 8 _ (by kernel_rfl) rfl
                    have q149 := slot_at (t := 149) 8 ha (by kernel_rfl) (by kernel_rfl) (by kernel_rfl) e8
                    have p149 := slot_norm q149
                    clear ha hd hst
                    have cl := (JRd.cells hI (by simp only [List.length_map, List.length_take]; omega)).r
                    exact StepI.pure (v := .pointer (some ⟨a.r, 0, none⟩)) rfl rfl (by go_simp) ⟨rfl, hI⟩
                  · intro us au w1 ha hd hst hI
                    have e9 := hd 9 _ (by kernel_rfl) rfl
                    have q150 := slot_at (t := 150) 9 ha (by kernel_rfl) (by kernel_rfl) (by kernel_rfl) e9
                    have p150 := slot_norm q150
                    clear ha hd hst
                    obtain ⟨⟨A9, hA9, ho9, hne9⟩, vo', vi', hS1⟩ := hI
                    refine StepI.call (f := 33) (args := #[.pointer (some ⟨a.r, 0, none⟩)]) rfl rfl (by go_simp) ?_
                    refine (rtake_any a.r a.t w1 hS1.end_.2.2.2 HOKT.out).mono ?_
                    rintro e w5 ⟨rfl, hR5, hC5⟩
                    exact ⟨_, rfl, rfl, ⟨A9, hA9, ho9.chg hC5 (fun x hx hs => hne9 x (by rw [hA9]; exact hx) hs)⟩, vo', vi', hS1.stepR hR5 hC5⟩
                  · intro us au w1 k11 hlo hhi ha hd hst hI
                    obtain rfl : k11 = 2 := by omega
                    have e5 := hd 5 _ (by kernel_rfl) rfl
                    have e10 := hd 10 _ (by kernel_rfl) rfl
                    have q146 := slot_at (t := 146) 5 ha (by kernel_rfl) (by kernel_rfl) (by kernel_rfl) e5
                    have p146 := slot_norm q146
                    have q151 := slot_at (t := 151) 10 ha (by kernel_rfl) (by kernel_rfl) (by kernel_rfl) e10
                    have p151 := slot_norm q151
                    clear ha hd hst
                    have dd := erd.out
                    exact StepI.pure (v := .bool true) rfl rfl (by go_simp) ⟨rfl, hI⟩
                  · intro us au w1 k12 hlo hhi ha hd hst hI
                    obtain rfl : k12 = 2 := by omega
                    have e11 := hd 11 _ (by kernel_rfl) rfl
                    have q152 := slot_at (t := 152) 11 ha (by kernel_rfl) (by kernel_rfl) (by kernel_rfl) e11
                    have p152 := slot_norm q152
                    clear ha hd hst
                    exact StepI.pure (v := .bool true) rfl rfl (by go_simp) ⟨rfl, hI⟩
                case done =>
                  intro us w1 hI hd
                  obtain ⟨_, vo', vi', hSt5⟩ := hI
                  have e12 := hd 12 _ (by decide) rfl
                  clear hd HS erd HOKT
                  simp only [putAll]
                  go_simp
                  go_wp2
                  go_meet
                  exact ⟨now, _, b, rfl, (by first | rfl | exact e12), hn0, by omega, HP.out _ _, hSt5⟩
              · have n2 : (kd == 2) = false := by rw [beq_eq_false_iff_ne]; exact q2
                by_cases q3 : kd = 3
                · subst q3
                  have hnw : (Lit.int .i64 now).wf = true := WalkArith.wf_i64 (by omega)
                  obtain ⟨hOkT, hFinT⟩ := hP.1.okT hOk hFin
                  have hro := rout_any a.r a.t now wd hRA hOkT hFinT hnw
                  have eo := (hP.1.out (vo := a.vo) (vi := a.vi) hOk hFin hnw).1
                  rw [eo] at hro
                  have HP := Lib.hid (fun vw => show Pla (N + 1) _ _ from ⟨(hP.1.out (vo := a.vo) (vi := a.vi) hOk hFin hnw).2.more, hP.2.way_out (v := vw) hOk hnw⟩)
                  have hlo := outS_len a.s now hOk
                  have hlw : b.way.length ≤ 157290000 := by have := hP.2.len; omega
                  have HS := Lib.hid hSt
                  have HOK := Lib.hid hOk
                  have HNW := Lib.hid hnw
                  have HRO := Lib.hid hro
                  clear hSt hE hP hOk hFin hIx cD cI hRA cE hI hby hOkT hFinT hro eo hnw
                  go_wp2_with fail
                  refine HRO.out.mono ?_
                  intro e w5 hO5
                  obtain ⟨vx, rfl, hx5, hS5⟩ := PSt.outR HS.out hO5
                  obtain ⟨Ax, cx, rfl⟩ := hx5.shape
                  have cE := hS5.cE
                  have ho := out_any a.g a.s a.vo a.vi now w5 hS5.end_.1 HOK.out HNW.out
                  have HO := Lib.hid ho
                  have HS5 := Lib.hid hS5
                  have HX5 := Lib.hid hx5
                  have hgl := HS.out.end_.1.blk
                  clear ho hS5 hx5 hO5 HRO cR cK
                  go_wp2_with fail
                  refine HO.out.mono ?_
                  intro e w6 hO6
                  have hC6 : Chg (fun x => x = a.g) w5 w6 := by obtain ⟨_, _, _, _, hC6⟩ := hO6; exact hC6
                  obtain ⟨Ao, rfl, hA6, hS6⟩ := PSt.out HS5.out HNW.out hO6
                  have hx6 : StrsAt wd.heap.size w6 (.slice Ax (outS a.s now).1.length cx) (outS a.s now).1 := OwnS.chg HX5.out hC6 (fun x hx hs => by have := (OwnS.lt HX5.out x hx).1; omega)
                  have hou := outs_any Ao Ax (outS a.s now).1.length (outS a.s now).1.length cx w5.heap.size wd.heap.size (outS a.s now).1 w6 rfl hA6 hx6 (by omega)
                  have HOU := Lib.hid hou
                  have HS6 := Lib.hid hS6
                  have HX6 := Lib.hid hx6
                  clear hou hS6 hA6 hx6 hC6 hO6 HO HS5 HX5 HS hgl cE
                  go_wp2_with fail
                  refine HOU.out.mono ?_
                  rintro e w7 ⟨rfl, nn, rfl⟩
                  have hS7 := HS6.out.drew nn
                  have hx7 : StrsAt wd.heap.size (w6.drewN nn) (.slice Ax (outS a.s now).1.length cx) (outS a.s now).1 := OwnS.heap HX6.out (fun _ _ => rfl)
                  have hkj := hS7.kj
                  have cWj := hS7.cWj
                  obtain ⟨Aj, cj, hvj⟩ := hS7.rowOf.2.shape
                  have hown := hS7.rowOf.2
                  have wj : IntKind.i64.wrap (1 - (k : Int)) = (j : Int) := by rw [IntWalk.i64_in _ (by omega)]; omega
                  have wj' : (1 : Int) - (k : Int) = (j : Int) := by omega
                  have j0 : (0 : Int) ≤ (j : Int) := by omega
                  have j1 : (j : Int) < 2 := by omega
                  have hjlt : j < 2 := by omega
                  have hmx1 : b.way.length + (outS a.s now).1.length ≤ maxLen := by unfold maxLen; omega
                  have hmx2 : (b.way.length + (outS a.s now).1.length) * 16 ≤ 140737488355328 := by omega
                  have HS7 := Lib.hid hS7
                  have HW7 := Lib.hid hS7.swap
                  have HVJ := Lib.hid hvj
                  rw [hvj] at cWj hown
                  have hsr : Src Try.prog (w6.drewN nn) 1 (.slice Ax (outS a.s now).1.length cx) (outS a.s now).1.length ((outS a.s now).1.map fun l => .string (strOfNums l)) := Src.owns hx7 (sV_one _)
                  clear hS7 hx7 HOU HS6 HX6 hkj hvj
                  generalize w6.drewN nn = w8 at *
                  obtain ⟨i0, hi, hz0, hz1, hz2⟩ := info_parts Try.info_str
                  go_wp2_with (at_builtin; go_loud (refine wpList_append_S rfl (.tmp 174) (.tmp 175) 57 57 rfl i0 (.string ⟨#[]⟩) 16 (.slice 9) Try.underlying57 Try.underlying57 (fun _ h => by cases h) hi hz0 hz1 hz2 rfl rfl rfl hown hsr hmx1 hmx2 (Nat.zero_le _) ?_; intro A9 c9 w9 ho9 hg9 hw9; obtain ⟨F9, hC9⟩ := PSt.celW HW7.out (by rw [HVJ.out]; exact hg9); have y9 := hC9.cell j hjlt; have yf := hC9.frozen j))
                  all_goals
                    go_wp2
                    go_meet
                    exact ⟨now, _, _, rfl, rfl, hn0, by omega, HP.out _, (HW7.out.rowW (Chg.of_grown (by rw [HVJ.out]; exact hg9) (fun _ h => h)) (by rw [List.length_append, List.map_append]; exact ho9) (fresh_of (by rw [HVJ.out]; exact hw9))).swap⟩
                · have n3 : (kd == 3) = false := by rw [beq_eq_false_iff_ne]; exact q3
                  by_cases q456 : kd = 4 ∨ kd = 5 ∨ kd = 6
                  · skip
                    have hnw : (Lit.int .i64 now).wf = true := WalkArith.wf_i64 (by omega)
                    have HNW := Lib.hid hnw
                    clear hnw hI hIx cD q0 q1 q2 q3
                    obtain ⟨Aw, cw, hvw⟩ := hSt.rowOf.1.shape
                    have cW := hSt.cW
                    rw [hvw, HL.out] at cW
                    by_cases hL0 : L = 0
                    · have z2 : ((L : Int) == 0) = true := by simp [hL0]
                      have z3 : decide ((L : Int) = 0) = true := decide_eq_true (by omega)
                      obtain ⟨⟨f9, hM9, _⟩, _⟩ := hSt
                      have HM := Lib.hid hM9
                      have HP := Lib.hid hP.more
                      clear hE hOk hFin hRA hvw hM9 hP cE cR
                      rcases q456 with rfl | rfl | rfl
                      all_goals
                        go_wp2
                        go_roundw
                        case rel => exact PlaRel.of (N := N + 1) (by omega) (by omega) hn0 (by omega) HM.out HP.out
                        case measure => simp [intOf]; omega
                    · have z2 : ((L : Int) == 0) = false := by simpa using hL0
                      have z3 : decide ((L : Int) = 0) = false := decide_eq_false (by omega)
                      have hml := hmL (by omega)
                      have hml' : m < a.way.length := by rw [HL.out]; exact hml
                      obtain ⟨gw, ow, cw', hvw', hcw1, hcw2, how, _, _, cS, _⟩ := hSt.cutRow hml'
                      rw [hvw] at hvw'
                      injection hvw' with hAw _ hcc
                      subst hAw; subst hcc
                      have hdm : a.way.getD m [] ∈ a.way := by
                        rw [List.getD_eq_getElem?_getD, List.getElem?_eq_getElem hml']; exact List.getElem_mem hml'
                      generalize a.way.getD m [] = d at *
                      have m0 : (0 : Int) ≤ (m : Int) := by omega
                      have m1 : (m : Int) < (L : Int) := by omega
                      obtain ⟨hdb, hdl⟩ := hP.1.way d hdm
                      rcases q456 with rfl | rfl | rfl
                      · have HS0 := Lib.hid hSt
                        have hPm : Pla N _ b := ⟨hP.1.take (vo := a.vo) (vi := a.vi) hOk hFin d HNW.out, hP.2⟩
                        have HP0 := Lib.hid hP
                        have HOK := Lib.hid hOk
                        have HFIN := Lib.hid hFin
                        have HOKT := Lib.hid (hP.1.okT hOk hFin).1
                        have HDB := Lib.hid hdb
                        have hsd : (strOfNums d).size = d.length := strOfNums_size' d
                        have HSD := Lib.hid hsd
                        have hbd : bytesOf (strOfNums d) = d := bytesOf_str d hdb
                        have HBD := Lib.hid hbd
                        clear hSt hE hOk hFin hvw hP hPm hdm how hRA cR cI hsd hbd hdb
                        go_wp2_with (first
                          | (with_reducible refine wpList_conv rfl (.tmp 200) rfl (strOfNums d) d.length d rfl HSD.out HBD.out (by rw [HSD.out]; omega) ?_; intro Ay cy w4 hIy hcy1 hcy2 hb4 hfy)
                          | fail)
                        have hS4 := HS0.out.below hb4
                        have hin := in_any a.g a.s a.vo a.vi Ay d.length cy d now w4 hS4.end_.1 HOK.out hIy rfl HDB.out hcy1 hcy2 (by omega)
                        refine hin.mono ?_
                        intro e w5 hT5
                        obtain ⟨rfl, vi5, hS5⟩ := hS4.take HDB.out HNW.out hT5
                        have hrn := rin_any a.r a.t (strOfNums d) now w5 hS5.end_.2.2.2 HOKT.out (by rw [HSD.out]; omega)
                        rw [HBD.out] at hrn
                        have HRN := Lib.hid hrn
                        have HS5 := Lib.hid hS5
                        have cR := hS5.cR
                        clear hin hT5 hS4 hS5 hrn HS0 hIy cS cE cW cK hfy hb4
                        go_wp2_with fail
                        refine HRN.out.mono ?_
                        rintro e w6 ⟨rfl, hR6, hC6⟩
                        have hSt6 := (HS5.out.stepR hR6 hC6).drw
                        have hPm : Pla N { a with s := inS a.s d now, vo := a.vo, vi := vi5, t := rInS a.t d now } b := ⟨HP0.out.1.take (vo := a.vo) (vi := vi5) HOK.out HFIN.out d HNW.out, HP0.out.2⟩
                        have hL6 : ({ a with s := inS a.s d now, vo := a.vo, vi := vi5, t := rInS a.t d now } : Pd).way.length = L := HL.out
                        have cK : w6.cell? ⟨ob, 0, none⟩ = some (.int .i64 4) := (HS5.out.stepR hR6 hC6).cO 0 (by decide)
                        clear HRN HS5 cR hR6 hC6 HP0 HOK HFIN HOKT HDB HSD HBD
                        generalize ha6 : ({ a with s := inS a.s d now, vo := a.vo, vi := vi5, t := rInS a.t d now } : Pd) = a6 at *
                        have hml6 : m < a6.way.length := by rw [hL6]; exact hml
                        clear ha6 hml'
                        obtain ⟨g6, o6, c6, hv6, hc61, hc62, how6, hwb6, hce6, _, hcu6⟩ := hSt6.cutRow hml6
                        have cW6 := hSt6.cW
                        rw [hv6] at cW6
                        have HS := Lib.hid hSt6
                        have HL6 := Lib.hid hL6
                        have hL6b : a6.way.length ≤ 157290000 := by rw [hL6]; exact hLb
                        have hmi : (m : Int) + 1 ≤ (a6.way.length : Int) := by omega
                        have hmi2 : (m : Int) ≤ (c6 : Int) := by omega
                        have hmi3 : (0 : Int) ≤ (m : Int) + 1 := by omega
                        have hmn : ((m : Int) + 1).toNat = m + 1 := by omega
                        have hdrop := how6.drop1 (k := m + 1) (by omega)
                        obtain ⟨V6, hV6⟩ : ∃ V, V = Value.slice (if c6 = m + 1 then (some ⟨g6, o6, none⟩ : Option Addr) else (some ⟨g6, o6, none⟩ : Option Addr).map (·.add (m + 1))) (a6.way.length - (m + 1)) (c6 - (m + 1)) := ⟨_, rfl⟩
                        have HV1 := Lib.hid (show c6 = m + 1 → V6 = .slice (some ⟨g6, o6, none⟩) (a6.way.length - (m + 1)) (c6 - (m + 1)) from fun h => by rw [hV6, if_pos h])
                        have HV2 := Lib.hid (show ¬ c6 = m + 1 → V6 = .slice (some ⟨g6, o6 + (m + 1), none⟩) (a6.way.length - (m + 1)) (c6 - (m + 1)) from fun h => by rw [hV6, if_neg h, Option.map_some, Addr.add_lit])
                        have HV3 := Lib.hid hV6
                        rw [← hV6] at hdrop
                        obtain ⟨i0, hi, hz0, hz1, hz2⟩ := info_parts Try.info_str
                        have HPM := Lib.hid (fun vw => (show Pla N _ b from ⟨hPm.1.way_cut (v := vw) m, hPm.2⟩).more)
                        clear hSt6 hv6 hL6 hV6 hPm
                        unfold maxLen at hc62
                        go_upto_region 45 with (fail)
                        refine wp_region_ph (by kernel_rfl) [1, 7, 14, 16] [.span 0 3, .phase 0, .span 0 1, .span 0 1, .span 0 1, .span 0 1, .span 0 1, .phase 1, .span 0 2, .span 0 2, .span 0 2, .span 0 2, .span 0 2, .span 0 2, .phase 2, .span 3 3, .phase 3] [fun z9 => z9 = .int .i64 k, fun v => ∃ g, v = .slice (some ⟨g, 0, none⟩) 0 0, fun z9 => z9 = .int .i64 k, fun z9 => z9 = .pointer (some ⟨wb_, k, none⟩), fun z9 => z9 = .slice (some ⟨g6, o6, none⟩) a6.way.length c6, fun z9 => z9 = .int .i64 m, fun z9 => z9 = .slice (some ⟨g6, o6, none⟩) m c6, fun v => ∃ A c, v = .slice A (0 + m) c, fun z9 => z9 = .int .i64 k, fun z9 => z9 = .pointer (some ⟨wb_, k, none⟩), fun z9 => z9 = .slice (some ⟨g6, o6, none⟩) a6.way.length c6, fun z9 => z9 = .int .i64 m, fun z9 => z9 = .int .i64 ((m : Int) + 1), fun z9 => z9 = V6, fun v => ∃ A c, v = .slice A (m + (a6.way.length - (m + 1))) c, fun z9 => z9 = .pointer (some ⟨wb_, k, none⟩), fun _ => True] (I45 w6.drew a6.way.length m (a6.way.map sV) (fun w => ∃ f, Cel w wb_ 58 2 f) (fun v w => PSt 32 54 58 52 W w ⟨eb, rb, wb_⟩ ob k j { a6 with vw := v, way := a6.way.take m ++ a6.way.drop (m + 1) } b (opF 4 who ix (.slice Ad xs.length cd))) ⟨wb_, k, none⟩) (by kernel_rfl) (by kernel_rfl) (by kernel_rfl) (by kernel_rfl) (by kernel_rfl) (by kernel_rfl) rfl rfl (Below.refl _ _) ?steps ?done
                        case steps =>
                          refine ⟨?_, ?_, ?_, ?_, ?_, ?_, ?_, ?_, ?_, ?_, ?_, ?_, ?_, ?_, ?_, ?_, ?_, trivial⟩
                          · intro us au w1 k0 hlo hhi ha hd hst hI
                            have q11 := slot_far (t := 11) (v := .int .i64 k) ha (by kernel_rfl) (by kernel_rfl)
                            have p11 := slot_norm q11
                            clear ha hd hst
                            exact StepI.pure (v := .int .i64 k) rfl rfl (by go_simp) ⟨rfl, hI⟩
                          · intro us au w1 ha hd hst hI
                            clear ha hd hst
                            exact StepI.runs (v := .slice (some ⟨w1.heap.size, 0, none⟩) 0 0) (w' := w1.alloc (.cells #[] 9)) rfl rfl (by go_simp) ⟨⟨_, rfl⟩, ⟨Below.trans hI ((Below.refl _ _).alloc hI.size _), _, rfl, OwnS.none_new hI.size⟩⟩
                          · intro us au w1 k2 hlo hhi ha hd hst hI
                            have q11 := slot_far (t := 11) (v := .int .i64 k) ha (by kernel_rfl) (by kernel_rfl)
                            have p11 := slot_norm q11
                            clear ha hd hst
                            exact StepI.pure (v := .int .i64 k) rfl rfl (by go_simp) ⟨rfl, hI⟩
                          · intro us au w1 k3 hlo hhi ha hd hst hI
                            have e2 := hd 2 _ (by kernel_rfl) rfl
                            have q7 := slot_far (t := 7) (v := .pointer (some ⟨wb_, 0, none⟩)) ha (by kernel_rfl) (by kernel_rfl)
                            have p7 := slot_norm q7
                            have q224 := slot_at (t := 224) 2 ha (by kernel_rfl) (by kernel_rfl) (by kernel_rfl) e2
                            have p224 := slot_norm q224
                            clear ha hd hst
                            exact StepI.pure (v := .pointer (some ⟨wb_, k, none⟩)) rfl rfl (by go_simp) ⟨rfl, hI⟩
                          · intro us au w1 k4 hlo hhi ha hd hst hI
                            have e3 := hd 3 _ (by kernel_rfl) rfl
                            have q225 := slot_at (t := 225) 3 ha (by kernel_rfl) (by kernel_rfl) (by kernel_rfl) e3
                            have p225 := slot_norm q225
                            clear ha hd hst
                            have cl : w1.cell? ⟨wb_, k, none⟩ = some (.slice (some ⟨g6, o6, none⟩) a6.way.length c6) := ((I45.below (Nat.le_trans hhi (by decide)) hI).cell (p := ⟨wb_, k, none⟩) hwb6).trans cW6
                            exact StepI.pure (v := .slice (some ⟨g6, o6, none⟩) a6.way.length c6) rfl rfl (by go_simp) ⟨rfl, hI⟩
                          · intro us au w1 k5 hlo hhi ha hd hst hI
                            have q13 := slot_far (t := 13) (v := .int .i64 m) ha (by kernel_rfl) (by kernel_rfl)
                            have p13 := slot_norm q13
                            clear ha hd hst
                            exact StepI.pure (v := .int .i64 m) rfl rfl (by go_simp) ⟨rfl, hI⟩
                          · intro us au w1 k6 hlo hhi ha hd hst hI
                            have e4 := hd 4 _ (by kernel_rfl) rfl
                            have e5 := hd 5 _ (by kernel_rfl) rfl
                            have q226 := slot_at (t := 226) 4 ha (by kernel_rfl) (by kernel_rfl) (by kernel_rfl) e4
                            have p226 := slot_norm q226
                            have q227 := slot_at (t := 227) 5 ha (by kernel_rfl) (by kernel_rfl) (by kernel_rfl) e5
                            have p227 := slot_norm q227
                            clear ha hd hst
                            exact StepI.pure (v := .slice (some ⟨g6, o6, none⟩) m c6) rfl rfl (by go_simp) ⟨rfl, hI⟩
                          · intro us au w1 ha hd hst hI
                            obtain ⟨g1, e1⟩ := hd 1 _ (by kernel_rfl) rfl
                            have e6 := hd 6 _ (by kernel_rfl) rfl
                            have q223 := slot_at (t := 223) 1 ha (by kernel_rfl) (by kernel_rfl) (by kernel_rfl) (Eq.refl (us 1))
                            have p223 := slot_norm q223
                            have q228 := slot_at (t := 228) 6 ha (by kernel_rfl) (by kernel_rfl) (by kernel_rfl) e6
                            have p228 := slot_norm q228
                            clear ha hd hst
                            obtain ⟨hbl, g0, hv, hO⟩ := hI
                            rw [hv] at hO
                            rw [hv] at q223
                            have hsr := (how6.take1 (k := m) (by omega) (by omega)).chg (Chg.of_below (S := fun _ => False) hbl) (fun _ _ h => h)
                            refine StepI.wp rfl rfl (fun K hK => ?_)
                            refine wp_append_S (.tmp 223) (.tmp 228) 57 57 rfl i0 (.string ⟨#[]⟩) 16 (.slice 9) Try.underlying57 Try.underlying57 (fun _ h => by cases h) hi hz0 hz1 hz2 rfl (v := .slice (some ⟨g0, 0, none⟩) 0 0) (x := .slice (some ⟨g6, o6, none⟩) m c6) q223 q228 hO (Src.owns hsr (fun u hu => sV_one _ u (List.mem_of_mem_take hu))) (by unfold maxLen; omega) (by omega) hbl.size (fun A c w9 ho9 hg9 hw9 => hK _ _ ⟨⟨A, c, rfl⟩, ⟨grown_below hbl hg9 (fun x hx => (hO.lt x hx).1), by have := ho9; simpa using this⟩⟩)
                          · intro us au w1 k8 hlo hhi ha hd hst hI
                            have q11 := slot_far (t := 11) (v := .int .i64 k) ha (by kernel_rfl) (by kernel_rfl)
                            have p11 := slot_norm q11
                            clear ha hd hst
                            exact StepI.pure (v := .int .i64 k) rfl rfl (by go_simp) ⟨rfl, hI⟩
                          · intro us au w1 k9 hlo hhi ha hd hst hI
                            have e8 := hd 8 _ (by kernel_rfl) rfl
                            have q7 := slot_far (t := 7) (v := .pointer (some ⟨wb_, 0, none⟩)) ha (by kernel_rfl) (by kernel_rfl)
                            have p7 := slot_norm q7
                            have q230 := slot_at (t := 230) 8 ha (by kernel_rfl) (by kernel_rfl) (by kernel_rfl) e8
                            have p230 := slot_norm q230
                            clear ha hd hst
                            exact StepI.pure (v := .pointer (some ⟨wb_, k, none⟩)) rfl rfl (by go_simp) ⟨rfl, hI⟩
                          · intro us au w1 k10 hlo hhi ha hd hst hI
                            have e9 := hd 9 _ (by kernel_rfl) rfl
                            have q231 := slot_at (t := 231) 9 ha (by kernel_rfl) (by kernel_rfl) (by kernel_rfl) e9
                            have p231 := slot_norm q231
                            clear ha hd hst
                            have cl : w1.cell? ⟨wb_, k, none⟩ = some (.slice (some ⟨g6, o6, none⟩) a6.way.length c6) := ((I45.below (Nat.le_trans hhi (by decide)) hI).cell (p := ⟨wb_, k, none⟩) hwb6).trans cW6
                            exact StepI.pure (v := .slice (some ⟨g6, o6, none⟩) a6.way.length c6) rfl rfl (by go_simp) ⟨rfl, hI⟩
                          · intro us au w1 k11 hlo hhi ha hd hst hI
                            have q13 := slot_far (t := 13) (v := .int .i64 m) ha (by kernel_rfl) (by kernel_rfl)
                            have p13 := slot_norm q13
                            clear ha hd hst
                            exact StepI.pure (v := .int .i64 m) rfl rfl (by go_simp) ⟨rfl, hI⟩
                          · intro us au w1 k12 hlo hhi ha hd hst hI
                            have e11 := hd 11 _ (by kernel_rfl) rfl
                            have q233 := slot_at (t := 233) 11 ha (by kernel_rfl) (by kernel_rfl) (by kernel_rfl) e11
                            have p233 := slot_norm q233
                            clear ha hd hst
                            exact StepI.pure (v := .int .i64 ((m : Int) + 1)) rfl rfl (by go_simp; exact IntWalk.i64_in _ (by omega)) ⟨rfl, hI⟩
                          · intro us au w1 k13 hlo hhi ha hd hst hI
                            have e10 := hd 10 _ (by kernel_rfl) rfl
                            have e12 := hd 12 _ (by kernel_rfl) rfl
                            have q232 := slot_at (t := 232) 10 ha (by kernel_rfl) (by kernel_rfl) (by kernel_rfl) e10
                            have p232 := slot_norm q232
                            have q234 := slot_at (t := 234) 12 ha (by kernel_rfl) (by kernel_rfl) (by kernel_rfl) e12
                            have p234 := slot_norm q234
                            clear ha hd hst
                            by_cases hck : c6 = m + 1
                            · have hci : (c6 : Int) = (m : Int) + 1 := by omega
                              exact StepI.pure (v := V6) rfl rfl (by rw [HV1.out hck]; go_simp) ⟨rfl, hI⟩
                            · have hci : ¬ (c6 : Int) = (m : Int) + 1 := by omega
                              exact StepI.pure (v := V6) rfl rfl (by rw [HV2.out hck]; go_simp) ⟨rfl, hI⟩
                          · intro us au w1 ha hd hst hI
                            obtain ⟨A7, c7, e7⟩ := hd 7 _ (by kernel_rfl) rfl
                            have e13 := hd 13 _ (by kernel_rfl) rfl
                            have q229 := slot_at (t := 229) 7 ha (by kernel_rfl) (by kernel_rfl) (by kernel_rfl) (Eq.refl (us 7))
                            have p229 := slot_norm q229
                            have q235 := slot_at (t := 235) 13 ha (by kernel_rfl) (by kernel_rfl) (by kernel_rfl) e13
                            have p235 := slot_norm q235
                            clear ha hd hst
                            obtain ⟨hbl, hO⟩ := hI
                            obtain ⟨A0, c0, hv⟩ := OwnS.shape hO
                            rw [hv] at hO
                            rw [hv] at q229
                            have hsr := hdrop.chg (Chg.of_below (S := fun _ => False) hbl) (fun _ _ h => h)
                            rw [HV3.out] at hsr
                            obtain ⟨f6, hC6⟩ := hce6
                            refine StepI.wp rfl rfl (fun K hK => ?_)
                            refine wp_append_S (.tmp 229) (.tmp 235) 57 57 rfl i0 (.string ⟨#[]⟩) 16 (.slice 9) Try.underlying57 Try.underlying57 (fun _ h => by cases h) hi hz0 hz1 hz2 rfl (v := .slice A0 m c0) (x := V6) q229 q235 hO (by rw [HV3.out]; exact Src.owns hsr (fun u hu => sV_one _ u (List.mem_of_mem_drop hu))) (by unfold maxLen; omega) (by omega) hbl.size (fun A c w9 ho9 hg9 hw9 => hK _ _ ⟨⟨A, c, rfl⟩, ⟨⟨_, hC6.below (grown_below hbl hg9 (fun x hx => (hO.lt x hx).1)) hwb6⟩, hcu6 _ _ _ ho9 (by rw [List.length_append, List.length_take, List.length_drop]; omega) (grown_below hbl hg9 (fun x hx => (hO.lt x hx).1))⟩⟩)
                          · intro us au w1 k15 hlo hhi ha hd hst hI
                            obtain rfl : k15 = 3 := by omega
                            have e0 := hd 0 _ (by kernel_rfl) rfl
                            have q7 := slot_far (t := 7) (v := .pointer (some ⟨wb_, 0, none⟩)) ha (by kernel_rfl) (by kernel_rfl)
                            have p7 := slot_norm q7
                            have q222 := slot_at (t := 222) 0 ha (by kernel_rfl) (by kernel_rfl) (by kernel_rfl) e0
                            have p222 := slot_norm q222
                            clear ha hd hst
                            exact StepI.pure (v := .pointer (some ⟨wb_, k, none⟩)) rfl rfl (by go_simp) ⟨rfl, hI⟩
                          · intro us au w1 ha hd hst hI
                            have e15 := hd 15 _ (by kernel_rfl) rfl
                            obtain ⟨A14, c14, e14⟩ := hd 14 _ (by kernel_rfl) rfl
                            have q237 := slot_at (t := 237) 15 ha (by kernel_rfl) (by kernel_rfl) (by kernel_rfl) e15
                            have p237 := slot_norm q237
                            have q236 := slot_at (t := 236) 14 ha (by kernel_rfl) (by kernel_rfl) (by kernel_rfl) (Eq.refl (us 14))
                            have p236 := slot_norm q236
                            clear ha hd hst
                            obtain ⟨⟨F9, hC9⟩, hfin⟩ := hI
                            have hjlt : k < 2 := by omega
                            have y9 := hC9.cell k hjlt
                            have yf := hC9.frozen k
                            exact StepI.stored (w' := w1.setCell ⟨wb_, k, none⟩ (us 14)) rfl rfl (by go_simp) ⟨trivial, ⟨_, hfin⟩⟩
                        case done =>
                          intro us w1 hI hd
                          obtain ⟨vw6, hSt7⟩ := hI
                          clear hd HS HL6 HV1 HV2 HV3 cW6
                          simp only [putAll]
                          go_simp
                          go_wp2
                          go_meet
                          exact ⟨now, _, b, rfl, rfl, hn0, by omega, HPM.out _, hSt7⟩
                      · have hSt6 := hSt.drw
                        have hPm := hP
                        have hL6 := HL.out
                        have hml6 := hml'
                        clear hSt hE hOk hFin hvw hP hdm how hRA cR cI cE hml'
                        generalize a = a6 at *
                        obtain ⟨g6, o6, c6, hv6, hc61, hc62, how6, hwb6, hce6, _, hcu6⟩ := hSt6.cutRow hml6
                        have cW6 := hSt6.cW
                        rw [hv6] at cW6
                        have HS := Lib.hid hSt6
                        have HL6 := Lib.hid hL6
                        have hL6b : a6.way.length ≤ 157290000 := by rw [hL6]; exact hLb
                        have hmi : (m : Int) + 1 ≤ (a6.way.length : Int) := by omega
                        have hmi2 : (m : Int) ≤ (c6 : Int) := by omega
                        have hmi3 : (0 : Int) ≤ (m : Int) + 1 := by omega
                        have hmn : ((m : Int) + 1).toNat = m + 1 := by omega
                        have hdrop := how6.drop1 (k := m + 1) (by omega)
                        obtain ⟨V6, hV6⟩ : ∃ V, V = Value.slice (if c6 = m + 1 then (some ⟨g6, o6, none⟩ : Option Addr) else (some ⟨g6, o6, none⟩ : Option Addr).map (·.add (m + 1))) (a6.way.length - (m + 1)) (c6 - (m + 1)) := ⟨_, rfl⟩
                        have HV1 := Lib.hid (show c6 = m + 1 → V6 = .slice (some ⟨g6, o6, none⟩) (a6.way.length - (m + 1)) (c6 - (m + 1)) from fun h => by rw [hV6, if_pos h])
                        have HV2 := Lib.hid (show ¬ c6 = m + 1 → V6 = .slice (some ⟨g6, o6 + (m + 1), none⟩) (a6.way.length - (m + 1)) (c6 - (m + 1)) from fun h => by rw [hV6, if_neg h, Option.map_some, Addr.add_lit])
                        have HV3 := Lib.hid hV6
                        rw [← hV6] at hdrop
                        obtain ⟨i0, hi, hz0, hz1, hz2⟩ := info_parts Try.info_str
                        have HPM := Lib.hid (fun vw => (show Pla N _ b from ⟨hPm.1.way_cut (v := vw) m, hPm.2⟩).more)
                        clear hSt6 hv6 hL6 hV6 hPm
                        unfold maxLen at hc62
                        go_upto_region 45 with (fail)
                        refine wp_region_ph (by kernel_rfl) [1, 7, 14, 16] [.span 0 3, .phase 0, .span 0 1, .span 0 1, .span 0 1, .span 0 1, .span 0 1, .phase 1, .span 0 2, .span 0 2, .span 0 2, .span 0 2, .span 0 2, .span 0 2, .phase 2, .span 3 3, .phase 3] [fun z9 => z9 = .int .i64 k, fun v => ∃ g, v = .slice (some ⟨g, 0, none⟩) 0 0, fun z9 => z9 = .int .i64 k, fun z9 => z9 = .pointer (some ⟨wb_, k, none⟩), fun z9 => z9 = .slice (some ⟨g6, o6, none⟩) a6.way.length c6, fun z9 => z9 = .int .i64 m, fun z9 => z9 = .slice (some ⟨g6, o6, none⟩) m c6, fun v => ∃ A c, v = .slice A (0 + m) c, fun z9 => z9 = .int .i64 k, fun z9 => z9 = .pointer (some ⟨wb_, k, none⟩), fun z9 => z9 = .slice (some ⟨g6, o6, none⟩) a6.way.length c6, fun z9 => z9 = .int .i64 m, fun z9 => z9 = .int .i64 ((m : Int) + 1), fun z9 => z9 = V6, fun v => ∃ A c, v = .slice A (m + (a6.way.length - (m + 1))) c, fun z9 => z9 = .pointer (some ⟨wb_, k, none⟩), fun _ => True] (I45 wd.drew a6.way.length m (a6.way.map sV) (fun w => ∃ f, Cel w wb_ 58 2 f) (fun v w => PSt 32 54 58 52 W w ⟨eb, rb, wb_⟩ ob k j { a6 with vw := v, way := a6.way.take m ++ a6.way.drop (m + 1) } b (opF 5 who ix (.slice Ad xs.length cd))) ⟨wb_, k, none⟩) (by kernel_rfl) (by kernel_rfl) (by kernel_rfl) (by kernel_rfl) (by kernel_rfl) (by kernel_rfl) rfl rfl (Below.refl _ _) ?steps ?done
                        case steps =>
                          refine ⟨?_, ?_, ?_, ?_, ?_, ?_, ?_, ?_, ?_, ?_, ?_, ?_, ?_, ?_, ?_, ?_, ?_, trivial⟩
                          · intro us au w1 k0 hlo hhi ha hd hst hI
                            have q11 := slot_far (t := 11) (v := .int .i64 k) ha (by kernel_rfl) (by kernel_rfl)
                            have p11 := slot_norm q11
                            clear ha hd hst
                            exact StepI.pure (v := .int .i64 k) rfl rfl (by go_simp) ⟨rfl, hI⟩
                          · intro us au w1 ha hd hst hI
                            clear ha hd hst
                            exact StepI.runs (v := .slice (some ⟨w1.heap.size, 0, none⟩) 0 0) (w' := w1.alloc (.cells #[] 9)) rfl rfl (by go_simp) ⟨⟨_, rfl⟩, ⟨Below.trans hI ((Below.refl _ _).alloc hI.size _), _, rfl, OwnS.none_new hI.size⟩⟩
                          · intro us au w1 k2 hlo hhi ha hd hst hI
                            have q11 := slot_far (t := 11) (v := .int .i64 k) ha (by kernel_rfl) (by kernel_rfl)
                            have p11 := slot_norm q11
                            clear ha hd hst
                            exact StepI.pure (v := .int .i64 k) rfl rfl (by go_simp) ⟨rfl, hI⟩
                          · intro us au w1 k3 hlo hhi ha hd hst hI
                            have e2 := hd 2 _ (by kernel_rfl) rfl
                            have q7 := slot_far (t := 7) (v := .pointer (some ⟨wb_, 0, none⟩)) ha (by kernel_rfl) (by kernel_rfl)
                            have p7 := slot_norm q7
                            have q224 := slot_at (t := 224) 2 ha (by kernel_rfl) (by kernel_rfl) (by kernel_rfl) e2
                            have p224 := slot_norm q224
                            clear ha hd hst
                            exact StepI.pure (v := .pointer (some ⟨wb_, k, none⟩)) rfl rfl (by go_simp) ⟨rfl, hI⟩
                          · intro us au w1 k4 hlo hhi ha hd hst hI
                            have e3 := hd 3 _ (by kernel_rfl) rfl
                            have q225 := slot_at (t := 225) 3 ha (by kernel_rfl) (by kernel_rfl) (by kernel_rfl) e3
                            have p225 := slot_norm q225
                            clear ha hd hst
                            have cl : w1.cell? ⟨wb_, k, none⟩ = some (.slice (some ⟨g6, o6, none⟩) a6.way.length c6) := ((I45.below (Nat.le_trans hhi (by decide)) hI).cell (p := ⟨wb_, k, none⟩) hwb6).trans cW6
                            exact StepI.pure (v := .slice (some ⟨g6, o6, none⟩) a6.way.length c6) rfl rfl (by go_simp) ⟨rfl, hI⟩
                          · intro us au w1 k5 hlo hhi ha hd hst hI
                            have q13 := slot_far (t := 13) (v := .int .i64 m) ha (by kernel_rfl) (by kernel_rfl)
                            have p13 := slot_norm q13
                            clear ha hd hst
                            exact StepI.pure (v := .int .i64 m) rfl rfl (by go_simp) ⟨rfl, hI⟩
                          · intro us au w1 k6 hlo hhi ha hd hst hI
                            have e4 := hd 4 _ (by kernel_rfl) rfl
                            have e5 := hd 5 _ (by kernel_rfl) rfl
                            have q226 := slot_at (t := 226) 4 ha (by kernel_rfl) (by kernel_rfl) (by kernel_rfl) e4
                            have p226 := slot_norm q226
                            have q227 := slot_at (t := 227) 5 ha (by kernel_rfl) (by kernel_rfl) (by kernel_rfl) e5
                            have p227 := slot_norm q227
                            clear ha hd hst
                            exact StepI.pure (v := .slice (some ⟨g6, o6, none⟩) m c6) rfl rfl (by go_simp) ⟨rfl, hI⟩
                          · intro us au w1 ha hd hst hI
                            obtain ⟨g1, e1⟩ := hd 1 _ (by kernel_rfl) rfl
                            have e6 := hd 6 _ (by kernel_rfl) rfl
                            have q223 := slot_at (t := 223) 1 ha (by kernel_rfl) (by kernel_rfl) (by kernel_rfl) (Eq.refl (us 1))
                            have p223 := slot_norm q223
                            have q228 := slot_at (t := 228) 6 ha (by kernel_rfl) (by kernel_rfl) (by kernel_rfl) e6
                            have p228 := slot_norm q228
                            clear ha hd hst
                            obtain ⟨hbl, g0, hv, hO⟩ := hI
                            rw [hv] at hO
                            rw [hv] at q223
                            have hsr := (how6.take1 (k := m) (by omega) (by omega)).chg (Chg.of_below (S := fun _ => False) hbl) (fun _ _ h => h)
                            refine StepI.wp rfl rfl (fun K hK => ?_)
                            refine wp_append_S (.tmp 223) (.tmp 228) 57 57 rfl i0 (.string ⟨#[]⟩) 16 (.slice 9) Try.underlying57 Try.underlying57 (fun _ h => by cases h) hi hz0 hz1 hz2 rfl (v := .slice (some ⟨g0, 0, none⟩) 0 0) (x := .slice (some ⟨g6, o6, none⟩) m c6) q223 q228 hO (Src.owns hsr (fun u hu => sV_one _ u (List.mem_of_mem_take hu))) (by unfold maxLen; omega) (by omega) hbl.size (fun A c w9 ho9 hg9 hw9 => hK _ _ ⟨⟨A, c, rfl⟩, ⟨grown_below hbl hg9 (fun x hx => (hO.lt x hx).1), by have := ho9; simpa using this⟩⟩)
                          · intro us au w1 k8 hlo hhi ha hd hst hI
                            have q11 := slot_far (t := 11) (v := .int .i64 k) ha (by kernel_rfl) (by kernel_rfl)
                            have p11 := slot_norm q11
                            clear ha hd hst
                            exact StepI.pure (v := .int .i64 k) rfl rfl (by go_simp) ⟨rfl, hI⟩
                          · intro us au w1 k9 hlo hhi ha hd hst hI
                            have e8 := hd 8 _ (by kernel_rfl) rfl
                            have q7 := slot_far (t := 7) (v := .pointer (some ⟨wb_, 0, none⟩)) ha (by kernel_rfl) (by kernel_rfl)
                            have p7 := slot_norm q7
                            have q230 := slot_at (t := 230) 8 ha (by kernel_rfl) (by kernel_rfl) (by kernel_rfl) e8
                            have p230 := slot_norm q230
                            clear ha hd hst
                            exact StepI.pure (v := .pointer (some ⟨wb_, k, none⟩)) rfl rfl (by go_simp) ⟨rfl, hI⟩
                          · intro us au w1 k10 hlo hhi ha hd hst hI
                            have e9 := hd 9 _ (by kernel_rfl) rfl
                            have q231 := slot_at (t := 231) 9 ha (by kernel_rfl) (by kernel_rfl) (by kernel_rfl) e9
                            have p231 := slot_norm q231
                            clear ha hd hst
                            have cl : w1.cell? ⟨wb_, k, none⟩ = some (.slice (some ⟨g6, o6, none⟩) a6.way.length c6) := ((I45.below (Nat.le_trans hhi (by decide)) hI).cell (p := ⟨wb_, k, none⟩) hwb6).trans cW6
                            exact StepI.pure (v := .slice (some ⟨g6, o6, none⟩) a6.way.length c6) rfl rfl (by go_simp) ⟨rfl, hI⟩
                          · intro us au w1 k11 hlo hhi ha hd hst hI
                            have q13 := slot_far (t := 13) (v := .int .i64 m) ha (by kernel_rfl) (by kernel_rfl)
                            have p13 := slot_norm q13
                            clear ha hd hst
                            exact StepI.pure (v := .int .i64 m) rfl rfl (by go_simp) ⟨rfl, hI⟩
                          · intro us au w1 k12 hlo hhi ha hd hst hI
                            have e11 := hd 11 _ (by kernel_rfl) rfl
                            have q233 := slot_at (t := 233) 11 ha (by kernel_rfl) (by kernel_rfl) (by kernel_rfl) e11
                            have p233 := slot_norm q233
                            clear ha hd hst
                            exact StepI.pure (v := .int .i64 ((m : Int) + 1)) rfl rfl (by go_simp; exact IntWalk.i64_in _ (by omega)) ⟨rfl, hI⟩
                          · intro us au w1 k13 hlo hhi ha hd hst hI
                            have e10 := hd 10 _ (by kernel_rfl) rfl
                            have e12 := hd 12 _ (by kernel_rfl) rfl
                            have q232 := slot_at (t := 232) 10 ha (by kernel_rfl) (by kernel_rfl) (by kernel_rfl) e10
                            have p232 := slot_norm q232
                            have q234 := slot_at (t := 234) 12 ha (by kernel_rfl) (by kernel_rfl) (by kernel_rfl) e12
                            have p234 := slot_norm q234
                            clear ha hd hst
                            by_cases hck : c6 = m + 1
                            · have hci : (c6 : Int) = (m : Int) + 1 := by omega
                              exact StepI.pure (v := V6) rfl rfl (by rw [HV1.out hck]; go_simp) ⟨rfl, hI⟩
                            · have hci : ¬ (c6 : Int) = (m : Int) + 1 := by omega
                              exact StepI.pure (v := V6) rfl rfl (by rw [HV2.out hck]; go_simp) ⟨rfl, hI⟩
                          · intro us au w1 ha hd hst hI
                            obtain ⟨A7, c7, e7⟩ := hd 7 _ (by kernel_rfl) rfl
                            have e13 := hd 13 _ (by kernel_rfl) rfl
                            have q229 := slot_at (t := 229) 7 ha (by kernel_rfl) (by kernel_rfl) (by kernel_rfl) (Eq.refl (us 7))
                            have p229 := slot_norm q229
                            have q235 := slot_at (t := 235) 13 ha (by kernel_rfl) (by kernel_rfl) (by kernel_rfl) e13
                            have p235 := slot_norm q235
                            clear ha hd hst
                            obtain ⟨hbl, hO⟩ := hI
                            obtain ⟨A0, c0, hv⟩ := OwnS.shape hO
                            rw [hv] at hO
                            rw [hv] at q229
                            have hsr := hdrop.chg (Chg.of_below (S := fun _ => False) hbl) (fun _ _ h => h)
                            rw [HV3.out] at hsr
                            obtain ⟨f6, hC6⟩ := hce6
                            refine StepI.wp rfl rfl (fun K hK => ?_)
                            refine wp_append_S (.tmp 229) (.tmp 235) 57 57 rfl i0 (.string ⟨#[]⟩) 16 (.slice 9) Try.underlying57 Try.underlying57 (fun _ h => by cases h) hi hz0 hz1 hz2 rfl (v := .slice A0 m c0) (x := V6) q229 q235 hO (by rw [HV3.out]; exact Src.owns hsr (fun u hu => sV_one _ u (List.mem_of_mem_drop hu))) (by unfold maxLen; omega) (by omega) hbl.size (fun A c w9 ho9 hg9 hw9 => hK _ _ ⟨⟨A, c, rfl⟩, ⟨⟨_, hC6.below (grown_below hbl hg9 (fun x hx => (hO.lt x hx).1)) hwb6⟩, hcu6 _ _ _ ho9 (by rw [List.length_append, List.length_take, List.length_drop]; omega) (grown_below hbl hg9 (fun x hx => (hO.lt x hx).1))⟩⟩)
                          · intro us au w1 k15 hlo hhi ha hd hst hI
                            obtain rfl : k15 = 3 := by omega
                            have e0 := hd 0 _ (by kernel_rfl) rfl
                            have q7 := slot_far (t := 7) (v := .pointer (some ⟨wb_, 0, none⟩)) ha (by kernel_rfl) (by kernel_rfl)
                            have p7 := slot_norm q7
                            have q222 := slot_at (t := 222) 0 ha (by kernel_rfl) (by kernel_rfl) (by kernel_rfl) e0
                            have p222 := slot_norm q222
                            clear ha hd hst
                            exact StepI.pure (v := .pointer (some ⟨wb_, k, none⟩)) rfl rfl (by go_simp) ⟨rfl, hI⟩
                          · intro us au w1 ha hd hst hI
                            have e15 := hd 15 _ (by kernel_rfl) rfl
                            obtain ⟨A14, c14, e14⟩ := hd 14 _ (by kernel_rfl) rfl
                            have q237 := slot_at (t := 237) 15 ha (by kernel_rfl) (by kernel_rfl) (by kernel_rfl) e15
                            have p237 := slot_norm q237
                            have q236 := slot_at (t := 236) 14 ha (by kernel_rfl) (by kernel_rfl) (by kernel_rfl) (Eq.refl (us 14))
                            have p236 := slot_norm q236
                            clear ha hd hst
                            obtain ⟨⟨F9, hC9⟩, hfin⟩ := hI
                            have hjlt : k < 2 := by omega
                            have y9 := hC9.cell k hjlt
                            have yf := hC9.frozen k
                            exact StepI.stored (w' := w1.setCell ⟨wb_, k, none⟩ (us 14)) rfl rfl (by go_simp) ⟨trivial, ⟨_, hfin⟩⟩
                        case done =>
                          intro us w1 hI hd
                          obtain ⟨vw6, hSt7⟩ := hI
                          clear hd HS HL6 HV1 HV2 HV3 cW6
                          simp only [putAll]
                          go_simp
                          go_wp2
                          go_meet
                          exact ⟨now, _, b, rfl, rfl, hn0, by omega, HPM.out _, hSt7⟩
                      · have hlw : a.way.length ≤ 157290000 := by rw [HL.out]; exact hLb
                        have HPM := Lib.hid (fun vw => show Pla (N + 1) _ b from ⟨hP.1.way_two (v := vw) hdm, hP.2.more⟩)
                        have hS1 := hSt.below ((Below.refl _ _).alloc (Nat.le_refl _) (.cells #[.string (strOfNums d)] 9))
                        have hown := hS1.rowOf.1
                        have HS1 := Lib.hid hS1
                        have HVW := Lib.hid hvw
                        rw [hvw] at hown
                        rw [← HL.out] at cW
                        obtain ⟨i0, hi, hz0, hz1, hz2⟩ := info_parts Try.info_str
                        have hmx1 : a.way.length + 1 ≤ maxLen := by unfold maxLen; omega
                        have hmx2 : (a.way.length + 1) * 16 ≤ 140737488355328 := by omega
                        have hjlt : k < 2 := by omega
                        clear hSt hE hOk hFin hP hdm how hS1 hvw hRA cR cI cE
                        go_wp2_with (at_builtin; go_loud (refine wpList_append_S rfl (.tmp 217) (.tmp 219) 57 57 rfl i0 (.string ⟨#[]⟩) 16 (.slice 9) Try.underlying57 Try.underlying57 (fun _ h => by cases h) hi hz0 hz1 hz2 rfl rfl rfl hown (Src.one_new (u := .string (strOfNums d)) rfl) hmx1 hmx2 (Nat.zero_le _) ?_; intro A9 c9 w9 ho9 hg9 hw9; obtain ⟨F9, hC9⟩ := PSt.celW HS1.out (by rw [HVW.out]; exact hg9); have y9 := hC9.cell k hjlt; have yf := hC9.frozen k))
                        all_goals
                          go_wp2
                          go_meet
                          exact ⟨now, _, b, rfl, rfl, hn0, by omega, HPM.out _, HS1.out.rowW (Chg.of_grown (by rw [HVW.out]; exact hg9) (fun _ h => h)) (by rw [List.length_append, List.map_append]; exact ho9) (fresh_of (by rw [HVW.out]; exact hw9))⟩
                  · have n4 : (kd == 4) = false := by rw [beq_eq_false_iff_ne]; omega
                    have n5 : (kd == 5) = false := by rw [beq_eq_false_iff_ne]; omega
                    have n6 : (kd == 6) = false := by rw [beq_eq_false_iff_ne]; omega
                    by_cases q7 : kd = 7
                    · subst q7
                      have hnw : (Lit.int .i64 now).wf = true := WalkArith.wf_i64 (by omega)
                      have HP := Lib.hid (fun vo vi => (show Pla N _ b from ⟨hP.1.take (vo := vo) (vi := vi) hOk hFin xs hnw, hP.2⟩).more)
                      have HNW := Lib.hid hnw
                      have HOK := Lib.hid hOk
                      have HOKT := Lib.hid (hP.1.okT hOk hFin).1
                      have HB := Lib.hid hby
                      have HIN := Lib.hid hI
                      have hsd : (strOfNums xs).size = xs.length := strOfNums_size' xs
                      have HSD := Lib.hid hsd
                      have hbd : bytesOf (strOfNums xs) = xs := bytesOf_str xs hby
                      have HBD := Lib.hid hbd
                      have HS := Lib.hid hSt.drw
                      clear hSt hE hP hOk hFin hIx cD cI hRA cE cR hI hby hnw hsd hbd
                      go_upto_region 47 with (fail)
                      refine wp_region_ph (by kernel_rfl) [7] [.span 0 0, .span 0 0, .span 0 0, .span 0 0, .span 0 0, .span 0 0, .span 0 0, .phase 0] [fun z9 => z9 = .slice (some ⟨eb, 0, none⟩) 2 2, fun z9 => z9 = .int .i64 k, fun z9 => z9 = .pointer (some ⟨eb, k, none⟩), fun z9 => z9 = .pointer (some ⟨a.g, 0, none⟩), fun z9 => z9 = .pointer (some ⟨ob, 3, none⟩), fun z9 => z9 = .slice Ad xs.length cd, fun z9 => z9 = .int .i64 now, fun _ => True] (JTwo 32 54 58 52 W ⟨eb, rb, wb_⟩ ob k j a b (opF 7 who ix (.slice Ad xs.length cd)) (inS a.s xs now) (rInS a.t xs now)) (by kernel_rfl) (by kernel_rfl) (by kernel_rfl) (by kernel_rfl) (by kernel_rfl) (by kernel_rfl) rfl rfl (HS.out) ?steps ?done
                      case steps =>
                        refine ⟨?_, ?_, ?_, ?_, ?_, ?_, ?_, ?_, trivial⟩
                        · intro us au w1 k0 hlo hhi ha hd hst hI
                          obtain rfl : k0 = 0 := by omega
                          have q5 := slot_far (t := 5) (v := .slice (some ⟨eb, 0, none⟩) 2 2) ha (by kernel_rfl) (by kernel_rfl)
                          have p5 := slot_norm q5
                          clear ha hd hst
                          exact StepI.pure (v := .slice (some ⟨eb, 0, none⟩) 2 2) rfl rfl (by go_simp) ⟨rfl, hI⟩
                        · intro us au w1 k1 hlo hhi ha hd hst hI
                          obtain rfl : k1 = 0 := by omega
                          have q11 := slot_far (t := 11) (v := .int .i64 k) ha (by kernel_rfl) (by kernel_rfl)
                          have p11 := slot_norm q11
                          clear ha hd hst
                          exact StepI.pure (v := .int .i64 k) rfl rfl (by go_simp) ⟨rfl, hI⟩
                        · intro us au w1 k2 hlo hhi ha hd hst hI
                          obtain rfl : k2 = 0 := by omega
                          have e0 := hd 0 _ (by kernel_rfl) rfl
                          have e1 := hd 1 _ (by kernel_rfl) rfl
                          have q240 := slot_at (t := 240) 0 ha (by kernel_rfl) (by kernel_rfl) (by kernel_rfl) e0
                          have p240 := slot_norm q240
                          have q241 := slot_at (t := 241) 1 ha (by kernel_rfl) (by kernel_rfl) (by kernel_rfl) e1
                          have p241 := slot_norm q241
                          clear ha hd hst
                          exact StepI.pure (v := .pointer (some ⟨eb, k, none⟩)) rfl rfl (by go_simp) ⟨rfl, hI⟩
                        · intro us au w1 k3 hlo hhi ha hd hst hI
                          obtain rfl : k3 = 0 := by omega
                          have e2 := hd 2 _ (by kernel_rfl) rfl
                          have q242 := slot_at (t := 242) 2 ha (by kernel_rfl) (by kernel_rfl) (by kernel_rfl) e2
                          have p242 := slot_norm q242
                          clear ha hd hst
                          have cl := (JTwo.cells hI).e
                          exact StepI.pure (v := .pointer (some ⟨a.g, 0, none⟩)) rfl rfl (by go_simp) ⟨rfl, hI⟩
                        · intro us au w1 k4 hlo hhi ha hd hst hI
                          obtain rfl : k4 = 0 := by omega
                          have q10 := slot_far (t := 10) (v := .pointer (some ⟨ob, 0, none⟩)) ha (by kernel_rfl) (by kernel_rfl)
                          have p10 := slot_norm q10
                          clear ha hd hst
                          exact StepI.pure (v := .pointer (some ⟨ob, 3, none⟩)) rfl rfl (by go_simp) ⟨rfl, hI⟩
                        · intro us au w1 k5 hlo hhi ha hd hst hI
                          obtain rfl : k5 = 0 := by omega
                          have e4 := hd 4 _ (by kernel_rfl) rfl
                          have q244 := slot_at (t := 244) 4 ha (by kernel_rfl) (by kernel_rfl) (by kernel_rfl) e4
                          have p244 := slot_norm q244
                          clear ha hd hst
                          have cl : w1.cell? ⟨ob, 3, none⟩ = some (.slice Ad xs.length cd) := (JTwo.cells hI).o 3 (by decide)
                          exact StepI.pure (v := .slice Ad xs.length cd) rfl rfl (by go_simp) ⟨rfl, hI⟩
                        · intro us au w1 k6 hlo hhi ha hd hst hI
                          obtain rfl : k6 = 0 := by omega
                          have q8 := slot_far (t := 8) (v := .int .i64 now) ha (by kernel_rfl) (by kernel_rfl)
                          have p8 := slot_norm q8
                          clear ha hd hst
                          exact StepI.pure (v := .int .i64 now) rfl rfl (by go_simp) ⟨rfl, hI⟩
                        · intro us au w1 ha hd hst hI
                          have e3 := hd 3 _ (by kernel_rfl) rfl
                          have e5 := hd 5 _ (by kernel_rfl) rfl
                          have e6 := hd 6 _ (by kernel_rfl) rfl
                          have q243 := slot_at (t := 243) 3 ha (by kernel_rfl) (by kernel_rfl) (by kernel_rfl) e3
                          have p243 := slot_norm q243
                          have q245 := slot_at (t := 245) 5 ha (by kernel_rfl) (by kernel_rfl) (by kernel_rfl) e5
                          have p245 := slot_norm q245
                          have q246 := slot_at (t := 246) 6 ha (by kernel_rfl) (by kernel_rfl) (by kernel_rfl) e6
                          have p246 := slot_norm q246
                          clear ha hd hst
                          refine StepI.call (f := 23) (args := #[.pointer (some ⟨a.g, 0, none⟩), .slice Ad xs.length cd, .int .i64 now]) rfl rfl (by go_simp) ?_
                          refine (in_any a.g a.s a.vo a.vi Ad xs.length cd xs now w1 (PSt.end_ hI).1 HOK.out (HIN.out.below (PSt.low hI)) rfl HB.out hc1 hc2 (by omega)).mono ?_
                          intro e w5 hT5
                          obtain ⟨he, vi5, hS5⟩ := PSt.take hI HB.out HNW.out hT5
                          exact ⟨_, he, trivial, ⟨_, _, hS5⟩⟩
                      case done =>
                        intro us w1 hI hd
                        obtain ⟨vo5, vi5, hSt5⟩ := hI
                        have HS5 := Lib.hid hSt5.drw
                        clear hd HS hSt5
                        simp only [putAll]
                        go_simp
                        go_upto_region 48 with (fail)
                        refine wp_region_ph (by kernel_rfl) [8] [.span 0 0, .span 0 0, .span 0 0, .span 0 0, .span 0 0, .span 0 0, .span 0 0, .span 0 0, .phase 0] [fun z9 => z9 = .slice (some ⟨rb, 0, none⟩) 2 2, fun z9 => z9 = .int .i64 k, fun z9 => z9 = .pointer (some ⟨rb, k, none⟩), fun z9 => z9 = .pointer (some ⟨a.r, 0, none⟩), fun z9 => z9 = .pointer (some ⟨ob, 3, none⟩), fun z9 => z9 = .slice Ad xs.length cd, fun z9 => z9 = .string (strOfNums xs), fun z9 => z9 = .int .i64 now, fun _ => True] (JRef 32 54 58 52 W ⟨eb, rb, wb_⟩ ob k j { a with s := inS a.s xs now, vo := vo5, vi := vi5 } b (opF 7 who ix (.slice Ad xs.length cd)) (rInS a.t xs now)) (by kernel_rfl) (by kernel_rfl) (by kernel_rfl) (by kernel_rfl) (by kernel_rfl) (by kernel_rfl) rfl rfl (HS5.out) ?steps ?done
                        case steps =>
                          refine ⟨?_, ?_, ?_, ?_, ?_, ?_, ?_, ?_, ?_, trivial⟩
                          · intro us au w1 k0 hlo hhi ha hd hst hI
                            obtain rfl : k0 = 0 := by omega
                            have q6 := slot_far (t := 6) (v := .slice (some ⟨rb, 0, none⟩) 2 2) ha (by kernel_rfl) (by kernel_rfl)
                            have p6 := slot_norm q6
                            clear ha hd hst
                            exact StepI.pure (v := .slice (some ⟨rb, 0, none⟩) 2 2) rfl rfl (by go_simp) ⟨rfl, hI⟩
                          · intro us au w1 k1 hlo hhi ha hd hst hI
                            obtain rfl : k1 = 0 := by omega
                            have q11 := slot_far (t := 11) (v := .int .i64 k) ha (by kernel_rfl) (by kernel_rfl)
                            have p11 := slot_norm q11
                            clear ha hd hst
                            exact StepI.pure (v := .int .i64 k) rfl rfl (by go_simp) ⟨rfl, hI⟩
                          · intro us au w1 k2 hlo hhi ha hd hst hI
                            obtain rfl : k2 = 0 := by omega
                            have e0 := hd 0 _ (by kernel_rfl) rfl
                            have e1 := hd 1 _ (by kernel_rfl) rfl
                            have q248 := slot_at (t := 248) 0 ha (by kernel_rfl) (by kernel_rfl) (by kernel_rfl) e0
                            have p248 := slot_norm q248
                            have q249 := slot_at (t := 249) 1 ha (by kernel_rfl) (by kernel_rfl) (by kernel_rfl) e1
                            have p249 := slot_norm q249
                            clear ha hd hst
                            exact StepI.pure (v := .pointer (some ⟨rb, k, none⟩)) rfl rfl (by go_simp) ⟨rfl, hI⟩
                          · intro us au w1 k3 hlo hhi ha hd hst hI
                            obtain rfl : k3 = 0 := by omega
                            have e2 := hd 2 _ (by kernel_rfl) rfl
                            have q250 := slot_at (t := 250) 2 ha (by kernel_rfl) (by kernel_rfl) (by kernel_rfl) e2
                            have p250 := slot_norm q250
                            clear ha hd hst
                            have cl := (JRef.cells hI).r
                            exact StepI.pure (v := .pointer (some ⟨a.r, 0, none⟩)) rfl rfl (by go_simp) ⟨rfl, hI⟩
                          · intro us au w1 k4 hlo hhi ha hd hst hI
                            obtain rfl : k4 = 0 := by omega
                            have q10 := slot_far (t := 10) (v := .pointer (some ⟨ob, 0, none⟩)) ha (by kernel_rfl) (by kernel_rfl)
                            have p10 := slot_norm q10
                            clear ha hd hst
                            exact StepI.pure (v := .pointer (some ⟨ob, 3, none⟩)) rfl rfl (by go_simp) ⟨rfl, hI⟩
                          · intro us au w1 k5 hlo hhi ha hd hst hI
                            obtain rfl : k5 = 0 := by omega
                            have e4 := hd 4 _ (by kernel_rfl) rfl
                            have q252 := slot_at (t := 252) 4 ha (by kernel_rfl) (by kernel_rfl) (by kernel_rfl) e4
                            have p252 := slot_norm q252
                            clear ha hd hst
                            have cl : w1.cell? ⟨ob, 3, none⟩ = some (.slice Ad xs.length cd) := (JRef.cells hI).o 3 (by decide)
                            exact StepI.pure (v := .slice Ad xs.length cd) rfl rfl (by go_simp) ⟨rfl, hI⟩
                          · intro us au w1 k6 hlo hhi ha hd hst hI
                            obtain rfl : k6 = 0 := by omega
                            have e5 := hd 5 _ (by kernel_rfl) rfl
                            have q253 := slot_at (t := 253) 5 ha (by kernel_rfl) (by kernel_rfl) (by kernel_rfl) e5
                            have p253 := slot_norm q253
                            clear ha hd hst
                            have hcv := run_str_ints (P := Try.prog) (w := w1) 22 9 5 Try.underlying22 Try.underlying5 Try.underlying9 Ad cd xs (HIN.out.below (JRef.cells hI).low)
                            exact StepI.pure (v := .string (strOfNums xs)) rfl rfl (by go_simp) ⟨rfl, hI⟩
                          · intro us au w1 k7 hlo hhi ha hd hst hI
                            obtain rfl : k7 = 0 := by omega
                            have q8 := slot_far (t := 8) (v := .int .i64 now) ha (by kernel_rfl) (by kernel_rfl)
                            have p8 := slot_norm q8
                            clear ha hd hst
                            exact StepI.pure (v := .int .i64 now) rfl rfl (by go_simp) ⟨rfl, hI⟩
                          · intro us au w1 ha hd hst hI
                            have e3 := hd 3 _ (by kernel_rfl) rfl
                            have e6 := hd 6 _ (by kernel_rfl) rfl
                            have e7 := hd 7 _ (by kernel_rfl) rfl
                            have q251 := slot_at (t := 251) 3 ha (by kernel_rfl) (by kernel_rfl) (by kernel_rfl) e3
                            have p251 := slot_norm q251
                            have q254 := slot_at (t := 254) 6 ha (by kernel_rfl) (by kernel_rfl) (by kernel_rfl) e6
                            have p254 := slot_norm q254
                            have q255 := slot_at (t := 255) 7 ha (by kernel_rfl) (by kernel_rfl) (by kernel_rfl) e7
                            have p255 := slot_norm q255
                            clear ha hd hst
                            refine StepI.call (f := 36) (args := #[.pointer (some ⟨a.r, 0, none⟩), .string (strOfNums xs), .int .i64 now]) rfl rfl (by go_simp) ?_
                            have hrn := rin_any a.r a.t (strOfNums xs) now w1 (PSt.end_ hI).2.2.2 HOKT.out (by rw [HSD.out]; omega)
                            rw [HBD.out] at hrn
                            refine hrn.mono ?_
                            rintro e w5 ⟨rfl, hR5, hC5⟩
                            exact ⟨_, rfl, trivial, PSt.stepR (a := { a with s := inS a.s xs now, vo := vo5, vi := vi5 }) hI hR5 hC5⟩
                        case done =>
                          intro us w1 hI hd
                          have hSt6 := hI
                          clear hd HS5 HIN HB HOK HOKT HSD HBD
                          simp only [putAll]
                          go_simp
                          go_wp2
                          go_meet
                          exact ⟨now, _, b, rfl, rfl, hn0, by omega, HP.out _ _, hSt6⟩
                    · have n7 : (kd == 7) = false := by rw [beq_eq_false_iff_ne]; exact q7
                      have hx : bits BinOp.and IntKind.i64 ix 15 = ix % 16 := i64_and15 ix
                      have hx0 := Int.emod_nonneg ix (show (16 : Int) ≠ 0 by decide)
                      have hx1 := Int.emod_lt_of_pos ix (show (0 : Int) < 16 by decide)
                      generalize ix % 16 = y at *
                      have hwy : IntKind.i64.wrap (now + y) = now + y := IntWalk.i64_in _ (by omega)
                      have HS := Lib.hid hSt
                      have HP := Lib.hid hP.more
                      clear hSt hE hP hOk hFin hIx cD cE cR hRA q0 q1 q2 q3 q456
                      go_wp2
                      go_meet
                      exact ⟨now + y, a, b, rfl, rfl, by omega, by omega, HP.out, HS.out⟩
        case rest =>
          obtain ⟨now', a', b', rfl, rfl, hw0, hw1, hPm, hSt⟩ := hcut
          clear hP hn0 hn1 cK cI cD hIx hmL HL hI
          generalize wc = we at *
          obtain ⟨hE, hOk, hFin, hRA⟩ := hSt.end_
          have cE := hSt.cE
          have cR := hSt.cR
          have kA : ∀ nn, Calls Try.prog 37 #[.pointer (some ⟨a'.g, 0, none⟩), .pointer (some ⟨a'.r, 0, none⟩)] (we.drewN nn) fun e w' => e = .returned (.bool true) ∧ ∃ m, w' = (we.drewN nn).drewN m := fun nn => alike_any a'.g a'.r a'.s a'.t a'.vo a'.vi _ (hE.drewN nn) hOk hFin (hRA.drewN nn) hPm.1.sim
          have KA := Lib.hid kA
          have HS := Lib.hid hSt
          have HP := Lib.hid hPm
          clear kA hSt hPm hE hOk hFin hRA
          go_wp2
          go_quiet (first
            | (go_at_call 37; exact quiet_drawn (KA.out _)))
          obtain ⟨⟨f9, hM9, _⟩, _⟩ := HS.out.drew nq
          have HM := Lib.hid hM9
          clear hM9 cE cR
          go_wp2
          go_roundw
          case rel => exact PlaRel.of (N := N + 1) (by omega) (by omega) hw0 (by omega) HM.out HP.out
          case measure => simp [intOf]; omega
    · have hlow := hM.bel
      have HB := Lib.hid hlow
      clear hM hP hlow hS
      by_cases hA : N < n
      · have d1 : decide ((N : Int) < (n : Int)) = true := decide_eq_true (by omega)
        have d1' : decide (N < n) = true := decide_eq_true hA
        have d2 : decide ((N : Int) < 120) = false := decide_eq_false (by omega)
        have d2' : decide (N < 120) = false := decide_eq_false (by omega)
        clear hlt
        go_wp2
        go_ret
        exact ⟨rfl, HB.out⟩
      · have d1 : decide ((N : Int) < (n : Int)) = false := decide_eq_false (by omega)
        have d1' : decide (N < n) = false := decide_eq_false hA
        clear hlt
        go_wp2
        go_ret
        exact ⟨rfl, HB.out⟩
end Go.Proofs.Ytoeipgbnjcgbjaa
