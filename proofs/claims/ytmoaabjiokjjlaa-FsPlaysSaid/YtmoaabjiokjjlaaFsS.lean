/- The walk of FsLasts. -/
import Derived.Test.YtmoaabjiokjjlaaFsR
import Derived.Test.YtmoaabjiokjjlaaFsLastsP
import Derived.Test.YtmoaabjiokjjlaaFrameFs
namespace Go.Proofs.Ytmoaabjiokjjlaa
open Go.RowKit Go.Maps
set_option linter.unusedVariables false
set_option linter.unusedSimpArgs false

def ownN : Nm := [111, 119, 110]
theorem own_ok : okN ownN = true := by decide
def opF (x : OpV) (i : Nat) : Value := if i = 0 then .int .i64 x.kd else if i = 1 then .int .i64 x.nn else if i = 2 then .string x.a else if i = 3 then .string x.b else if i = 4 then .slice x.A x.xs.length x.cA else .slice x.B x.ys.length x.cB
def opCells (x : OpV) : Array Value := #[.int .i64 x.kd, .int .i64 x.nn, .string x.a, .string x.b, .slice x.A x.xs.length x.cA, .slice x.B x.ys.length x.cB]
theorem opF_new (w : World) (x : OpV) : Cel (w.alloc (.cells (opCells x) 39)) w.heap.size 39 6 (opF x) :=
  Cel.new w _ (opCells x) _ (fun i hi => by
    have hi' : i < 6 := hi
    have : i = 0 ∨ i = 1 ∨ i = 2 ∨ i = 3 ∨ i = 4 ∨ i = 5 := by omega
    rcases this with rfl | rfl | rfl | rfl | rfl | rfl <;> rfl)
set_option maxRecDepth 100000 in
set_option maxHeartbeats 8000000 in
theorem fsLasts_walk (A : Option Addr) (c : Nat) (xs : List Int) (As : Option Addr) (n cs : Nat) (names : Int) (B : Option Addr) (cB : Nat) (ys : List Int) (w : World)
    (hI : Ints .u8 w A xs) (hxl : xs.length ≤ 9223372036854775807) (hO : OpsIn w As n) (hn : n ≤ 9223372036854775807) (hY : Ints .i64 w B ys) (hyl : ys.length ≤ 9223372036854775807) :
    Calls Try.prog 6 #[.slice A xs.length c, .slice As n cs, .int .i64 names, .slice B ys.length cB] w fun e w' => e = .returned (.bool true) ∧ Below w.heap.size w w' := by
  have HN := Lib.hid (new_in w 1048576 (by omega))
  have HXI := Lib.hid hI
  have HXL0 := Lib.hid hxl
  have HOP := Lib.hid hO
  have HYI := Lib.hid hY
  have HYL0 := Lib.hid hyl
  have HX0 := Lib.hid (fun hl b o e => Ints.lt0 hI hl b o e)
  have HY0 := Lib.hid (fun hl b o e => Ints.lt0 hY hl b o e)
  clear hI hxl hO hY hyl
  unfold ptrV at HN
  go_enter Try.func6, Try.ntmps6
  go_wp2_with fail
  refine HN.out.mono ?_
  rintro e w1 ⟨p, rfl, h1, hb1⟩
  have HA1 := Lib.hid h1
  have HB1 := Lib.hid hb1
  clear h1 hb1 HN
  generalize hxn : xs.length = xn at *
  have HXN := Lib.hid hxn
  clear hxn
  by_cases hbig : 100000 < xn
  · have d1 : decide ((xn : Int) > 100000) = true := decide_eq_true (by omega)
    clear hbig
    go_wp2_with (go_at_call 15; refine (awake1_any w1).mono ?_; rintro e w2 ⟨rfl, hb2⟩)
    go_ret
    exact ⟨rfl, HB1.out.trans (hb2.mono HB1.out.size)⟩
  · have d1 : decide ((xn : Int) > 100000) = false := decide_eq_false (by omega)
    obtain ⟨S1, S2, S3, S4, e1, e2, e3, e4, hls⟩ := lasts_start own_ok xs 1048576 (by rw [HXN.out]; omega)
    have I0 : Inv 0 16777216 (newF 1048576) := Inv.new (by omega)
    have I1 : Inv 1 16777216 S1 := by have := I0.create ownN; rw [e1] at this; exact this
    have I2 : Inv 1 16777216 S2 := by have := I1.append ownN xs; rw [e2] at this; exact this
    have I3 : Inv 1 16777216 S3 := by have := I2.sync ownN; rw [e3] at this; exact this
    have I4 : Inv 1 16777216 S4 := by have := I3.syncNames; rw [e4] at this; exact this
    have C1 := Lib.hid (fun (W : World) (h : FsIn (fun k => w.heap.size ≤ k) p W (newF 1048576)) (hw : w.heap.size ≤ W.heap.size) => create_in h I0 (by omega) (fun k hk => by omega) ⟨#[111, 119, 110]⟩ (by decide))
    have C2 := Lib.hid (fun (W : World) (h : FsIn (fun k => w.heap.size ≤ k) p W S1) (hw : w.heap.size ≤ W.heap.size) (hi : Ints .u8 W A xs) => append_in h I1 (by omega) (fun k hk => by omega) ⟨#[111, 119, 110]⟩ (by decide) A xn c xs hi HXN.out (by omega) (fun hl b o e hh => by have := HX0.out (by rw [← HXN.out]; exact hl) b o e; omega))
    have C3 := Lib.hid (fun (W : World) (h : FsIn (fun k => w.heap.size ≤ k) p W S2) (hw : w.heap.size ≤ W.heap.size) => sync_in h I2 (fun k hk => by omega) ⟨#[111, 119, 110]⟩ (by decide))
    have C4 := Lib.hid (fun (W : World) (h : FsIn (fun k => w.heap.size ≤ k) p W S3) (hw : w.heap.size ≤ W.heap.size) => syncNames_in h I3 (fun k hk => by omega))
    unfold InPost at C1 C2 C3 C4
    change Hid (∀ W, FsIn _ p W _ → _ → Calls _ _ _ W fun e W' => e = .returned (.int .i64 (createF (newF 1048576) ownN).1) ∧ FsIn _ p W' (createF (newF 1048576) ownN).2 ∧ Chg _ W W') at C1
    change Hid (∀ W, FsIn _ p W _ → _ → Ints .u8 W A xs → Calls _ _ _ W fun e W' => e = .returned (.int .i64 (appendF S1 ownN xs).1) ∧ FsIn _ p W' (appendF S1 ownN xs).2 ∧ Chg _ W W') at C2
    change Hid (∀ W, FsIn _ p W _ → _ → Calls _ _ _ W fun e W' => e = .returned (.int .i64 (syncF S2 ownN).1) ∧ FsIn _ p W' (syncF S2 ownN).2 ∧ Chg _ W W') at C3
    rw [e1] at C1
    rw [e2] at C2
    rw [e3] at C3
    rw [e4] at C4
    have HLS0 := Lib.hid hls
    have HI0 := Lib.hid (I4.mono (show 1 ≤ 2 by omega))
    clear I0 I1 I2 I3 I4 e1 e2 e3 e4 hls hbig
    unfold ptrV at *
    go_wp2_with fail
    refine (C1.out w1 HA1.out HB1.out.size).mono ?_
    rintro e w2 ⟨rfl, h2, hc2⟩
    have HA2 := Lib.hid h2
    have HB2 : Hid (Below w.heap.size w w2) := Lib.hid (HB1.out.trans (hc2.below HB1.out.size (fun k hk h => by omega)))
    clear h2 hc2 C1 HA1
    go_wp2_with fail
    refine (C2.out w2 HA2.out HB2.out.size (HXI.out.below HB2.out)).mono ?_
    rintro e w3 ⟨rfl, h3, hc3⟩
    have HA3 := Lib.hid h3
    have HB3 : Hid (Below w.heap.size w w3) := Lib.hid (HB2.out.trans (hc3.below HB2.out.size (fun k hk h => by omega)))
    clear h3 hc3 C2 HA2
    go_wp2_with fail
    refine (C3.out w3 HA3.out HB3.out.size).mono ?_
    rintro e w4 ⟨rfl, h4, hc4⟩
    have HA4 := Lib.hid h4
    have HB4 : Hid (Below w.heap.size w w4) := Lib.hid (HB3.out.trans (hc4.below HB3.out.size (fun k hk h => by omega)))
    clear h4 hc4 C3 HA3
    go_wp2_with fail
    refine (C4.out w4 HA4.out HB4.out.size).mono ?_
    rintro e w5 ⟨rfl, h5, hc5⟩
    have HA5 := Lib.hid h5
    have HB5 : Hid (Below w.heap.size w w5) := Lib.hid (HB4.out.trans (hc5.below HB4.out.size (fun k hk h => by omega)))
    clear h5 hc5 C4 HA4 HB1 HB2 HB3 HB4 d1
    go_wp2
    go_loopw [11] (fun vi wr => ∃ (i : Nat) (S : Fs), vi = .int .i64 i ∧ i ≤ 30 ∧ i ≤ n ∧ FsIn (fun k => w.heap.size ≤ k) p wr S ∧ Lasts ownN ⟨xs, xs.length⟩ S ∧ Inv (2 + i) 16777216 S ∧ Below w.heap.size w wr) (fun vi _ => 30 - (intOf vi).toNat)
    case atStart => exact ⟨0, S4, rfl, by omega, by omega, HA5.out, HLS0.out, HI0.out, HB5.out⟩
    case round =>
      clear HA5 HLS0 HI0 HB5
      obtain ⟨i, S, rfl, hi30, hin, hA, hLS, hInv, hB⟩ := hrel
      have HA := Lib.hid hA
      have HLS := Lib.hid hLS
      have HI := Lib.hid hInv
      have HB := Lib.hid hB
      clear hA hLS hInv hB
      by_cases hend : i < n ∧ i < 30
      · obtain ⟨hlt, hlt30⟩ := hend
        have d2 : decide ((i : Int) < (n : Int)) = true := decide_eq_true (by omega)
        have d2' : decide (i < n) = true := decide_eq_true hlt
        have d3 : decide ((i : Int) < 30) = true := decide_eq_true (by omega)
        obtain ⟨eb, eo, rfl, heb0, hops⟩ := HOP.out (by omega)
        obtain ⟨x, hx0⟩ := hops i hlt
        have hx := hx0.below HB.out heb0
        have heb : eb < wr.heap.size := Nat.lt_of_lt_of_le heb0 HB.out.size
        have HX := Lib.hid (hx.below ((Below.refl _ wr).alloc (Nat.le_refl _) (.cells (opCells x) 39)) heb)
        have r0 := hx.c0
        have r1 := hx.c1
        have r2 := hx.c2
        have r3 := hx.c3
        have r4 := hx.c4
        have r5 := hx.c5
        have hA0 := HA.out.below ((Below.refl _ wr).alloc (Nat.le_refl _) (.cells (opCells x) 39))
        clear HA
        have HA := Lib.hid hA0
        have HB0 := Lib.hid (HB.out.trans (((Below.refl _ wr).alloc (Nat.le_refl _) (.cells (opCells x) 39)).mono HB.out.size))
        have hof := opF_new wr x
        have HXL : Hid (0 < x.xs.length → ∀ b o, x.A = some ⟨b, o, none⟩ → b < w.heap.size) := Lib.hid (fun hl b o e => hx0.xI.lt0 hl b o e)
        have HYL : Hid (0 < x.ys.length → ∀ b o, x.B = some ⟨b, o, none⟩ → b < w.heap.size) := Lib.hid (fun hl b o e => hx0.yI.lt0 hl b o e)
        clear hx hx0 hops heb heb0 hA0 HB
        unfold opCells at *
        go_upto_region 13 with (fail)
        generalize wr.alloc (.cells #[.int .i64 x.kd, .int .i64 x.nn, .string x.a, .string x.b, .slice x.A x.xs.length x.cA, .slice x.B x.ys.length x.cB] 39) = w6 at *
        generalize wr.heap.size = og at *
        have q0 : w6.cell? ⟨og, 0, none⟩ = some (.int .i64 x.kd) := hof.cell 0 (by decide)
        have q1 : w6.cell? ⟨og, 1, none⟩ = some (.int .i64 x.nn) := hof.cell 1 (by decide)
        have q2 : w6.cell? ⟨og, 2, none⟩ = some (.string x.a) := hof.cell 2 (by decide)
        have q3 : w6.cell? ⟨og, 3, none⟩ = some (.string x.b) := hof.cell 3 (by decide)
        have q4 : w6.cell? ⟨og, 4, none⟩ = some (.slice x.A x.xs.length x.cA) := hof.cell 4 (by decide)
        have q5 : w6.cell? ⟨og, 5, none⟩ = some (.slice x.B x.ys.length x.cB) := hof.cell 5 (by decide)
        have HFB : Hid (∀ k, w6.heap.size ≤ k → w.heap.size ≤ k) := Lib.hid (fun k hk => by have := HB0.out.size; omega)
        clear hof r0 r1 r2 r3 r4 r5 d3
        by_cases hskip : x.a.data.toList = ownN ∨ x.b.data.toList = ownN ∨ 1000 < x.xs.length
        · -- DONE
          have hsa : x.a.toList = x.a.data.toList := Lib.toList_data _
          have hsb : x.b.toList = x.b.data.toList := Lib.toList_data _
          have HGO : Hid (Inv (2 + (i + 1)) 16777216 S) := Lib.hid (HI.out.mono (by omega))
          by_cases ha : x.a.data.toList = ownN
          · have g1 : (x.a.toList == [111, 119, 110]) = true := by rw [hsa, ha]; rfl
            clear hskip ha hsa hsb
            go_wp2
            go_roundw
            case rel => exact ⟨i + 1, S, rfl, by omega, by omega, HA.out, HLS.out, HGO.out, HB0.out⟩
            case measure => simp [intOf]; omega
          · have g1 : (x.a.toList == [111, 119, 110]) = false := by rw [hsa, beq_eq_false_iff_ne]; exact ha
            by_cases hb : x.b.data.toList = ownN
            · have g2 : (x.b.toList == [111, 119, 110]) = true := by rw [hsb, hb]; rfl
              clear hskip ha hb hsa hsb
              go_wp2
              go_roundw
              case rel => exact ⟨i + 1, S, rfl, by omega, by omega, HA.out, HLS.out, HGO.out, HB0.out⟩
              case measure => simp [intOf]; omega
            · have g2 : (x.b.toList == [111, 119, 110]) = false := by rw [hsb, beq_eq_false_iff_ne]; exact hb
              have hl3 : 1000 < x.xs.length := by
                rcases hskip with h | h | h
                · exact absurd h ha
                · exact absurd h hb
                · exact h
              have g3 : decide ((x.xs.length : Int) > 1000) = true := decide_eq_true (by omega)
              clear hskip ha hb hsa hsb
              go_wp2
              go_roundw
              case rel => exact ⟨i + 1, S, rfl, by omega, by omega, HA.out, HLS.out, HGO.out, HB0.out⟩
              case measure => simp [intOf]; omega
        · have hsa : x.a.toList = x.a.data.toList := Lib.toList_data _
          have hsb : x.b.toList = x.b.data.toList := Lib.toList_data _
          have HNA : Hid (x.a.data.toList ≠ ownN) := Lib.hid (fun h => hskip (.inl h))
          have HNB : Hid (x.b.data.toList ≠ ownN) := Lib.hid (fun h => hskip (.inr (.inl h)))
          have g1 : (x.a.toList == [111, 119, 110]) = false := by rw [hsa, beq_eq_false_iff_ne]; exact HNA.out
          have g2 : (x.b.toList == [111, 119, 110]) = false := by rw [hsb, beq_eq_false_iff_ne]; exact HNB.out
          have g3 : decide ((x.xs.length : Int) > 1000) = false := decide_eq_false (fun h => hskip (.inr (.inr (by omega))))
          clear hskip hsa hsb
          go_upto_region 14 with (fail)
          clear g1 g2 g3
          by_cases hk0 : x.kd = 0
          · have e0 : (x.kd == 0) = true := by rw [hk0]; rfl
            have HC := Lib.hid (create_in HA.out HI.out (by omega) HFB.out x.a HX.out.sa)
            unfold InPost at HC
            have HLS2 := Lib.hid (HLS.out.create HI.out HNA.out)
            have HI2 : Hid (Inv (2 + (i + 1)) 16777216 _) := Lib.hid (HI.out.create x.a.data.toList)
            clear hk0 HLS HI HNA HNB HXL HYL HX
            unfold ptrV at HC
            go_wp2_with (go_at_call 10; refine HC.out.mono ?_; rintro e w7 ⟨rfl, h7, hc7⟩; have HA7 := Lib.hid h7; have HB7 : Hid (Below w.heap.size w w7) := Lib.hid (HB0.out.trans (hc7.below HB0.out.size (fun k hk h => by omega))); clear h7 hc7)
            go_roundw
            case rel => exact ⟨i + 1, _, rfl, by omega, by omega, HA7.out, HLS2.out, HI2.out, HB7.out⟩
            case measure => simp [intOf]; omega
          · have e0 : (x.kd == 0) = false := by rw [beq_eq_false_iff_ne]; exact hk0
            by_cases hk1 : x.kd = 1
            · have e1 : (x.kd == 1) = true := by rw [hk1]; rfl
              have HC := Lib.hid (append_in HA.out HI.out (by omega) HFB.out x.a HX.out.sa x.A x.xs.length x.cA x.xs HX.out.xI rfl HX.out.xl (fun hl b o e h => by have h1 := HXL.out hl b o e; omega))
              unfold InPost at HC
              have HLS2 := Lib.hid (HLS.out.append HI.out HNA.out x.xs)
              have HI2 : Hid (Inv (2 + (i + 1)) 16777216 _) := Lib.hid ((HI.out.append x.a.data.toList x.xs).mono (Nat.le_succ _))
              clear hk1 HLS HI HNA HNB HXL HYL HX
              unfold ptrV at HC
              go_wp2_with (go_at_call 11; refine HC.out.mono ?_; rintro e w7 ⟨rfl, h7, hc7⟩; have HA7 := Lib.hid h7; have HB7 : Hid (Below w.heap.size w w7) := Lib.hid (HB0.out.trans (hc7.below HB0.out.size (fun k hk h => by omega))); clear h7 hc7)
              go_roundw
              case rel => exact ⟨i + 1, _, rfl, by omega, by omega, HA7.out, HLS2.out, HI2.out, HB7.out⟩
              case measure => simp [intOf]; omega
            · have e1 : (x.kd == 1) = false := by rw [beq_eq_false_iff_ne]; exact hk1
              by_cases hk3 : x.kd = 3
              · have e3 : (x.kd == 3) = true := by rw [hk3]; rfl
                have HC := Lib.hid (sync_in HA.out HI.out HFB.out x.a HX.out.sa)
                unfold InPost at HC
                have HLS2 := Lib.hid (HLS.out.sync HI.out HNA.out)
                have HI2 : Hid (Inv (2 + (i + 1)) 16777216 _) := Lib.hid ((HI.out.sync x.a.data.toList).mono (Nat.le_succ _))
                clear hk3 HLS HI HNA HNB HXL HYL HX
                unfold ptrV at HC
                go_wp2_with (go_at_call 20; refine HC.out.mono ?_; rintro e w7 ⟨rfl, h7, hc7⟩; have HA7 := Lib.hid h7; have HB7 : Hid (Below w.heap.size w w7) := Lib.hid (HB0.out.trans (hc7.below HB0.out.size (fun k hk h => by omega))); clear h7 hc7)
                go_roundw
                case rel => exact ⟨i + 1, _, rfl, by omega, by omega, HA7.out, HLS2.out, HI2.out, HB7.out⟩
                case measure => simp [intOf]; omega
              · have e3 : (x.kd == 3) = false := by rw [beq_eq_false_iff_ne]; exact hk3
                by_cases hk4 : x.kd = 4
                · have e4 : (x.kd == 4) = true := by rw [hk4]; rfl
                  have HC := Lib.hid (rename_in HA.out HI.out (by omega) HFB.out x.a x.b HX.out.sa HX.out.sb)
                  unfold InPost at HC
                  have HLS2 := Lib.hid (HLS.out.rename HI.out HNA.out HNB.out)
                  have HI2 : Hid (Inv (2 + (i + 1)) 16777216 _) := Lib.hid (HI.out.rename x.a.data.toList x.b.data.toList)
                  clear hk4 HLS HI HNA HNB HXL HYL HX
                  unfold ptrV at HC
                  go_wp2_with (go_at_call 17; refine HC.out.mono ?_; rintro e w7 ⟨rfl, h7, hc7⟩; have HA7 := Lib.hid h7; have HB7 : Hid (Below w.heap.size w w7) := Lib.hid (HB0.out.trans (hc7.below HB0.out.size (fun k hk h => by omega))); clear h7 hc7)
                  go_roundw
                  case rel => exact ⟨i + 1, _, rfl, by omega, by omega, HA7.out, HLS2.out, HI2.out, HB7.out⟩
                  case measure => simp [intOf]; omega
                · have e4 : (x.kd == 4) = false := by rw [beq_eq_false_iff_ne]; exact hk4
                  by_cases hk5 : x.kd = 5
                  · have e5 : (x.kd == 5) = true := by rw [hk5]; rfl
                    have HC := Lib.hid (remove_in HA.out HI.out (by omega) HFB.out x.a HX.out.sa)
                    unfold InPost at HC
                    have HLS2 := Lib.hid (HLS.out.remove HNA.out)
                    have HI2 : Hid (Inv (2 + (i + 1)) 16777216 _) := Lib.hid (HI.out.remove x.a.data.toList)
                    clear hk5 HLS HI HNA HNB HXL HYL HX
                    unfold ptrV at HC
                    go_wp2_with (go_at_call 18; refine HC.out.mono ?_; rintro e w7 ⟨rfl, h7, hc7⟩; have HA7 := Lib.hid h7; have HB7 : Hid (Below w.heap.size w w7) := Lib.hid (HB0.out.trans (hc7.below HB0.out.size (fun k hk h => by omega))); clear h7 hc7)
                    go_roundw
                    case rel => exact ⟨i + 1, _, rfl, by omega, by omega, HA7.out, HLS2.out, HI2.out, HB7.out⟩
                    case measure => simp [intOf]; omega
                  · have e5 : (x.kd == 5) = false := by rw [beq_eq_false_iff_ne]; exact hk5
                    by_cases hk7 : x.kd = 7
                    · have e7 : (x.kd == 7) = true := by rw [hk7]; rfl
                      have HC := Lib.hid (crash_in HA.out HI.out (by omega) HFB.out x.nn x.B x.ys.length x.cB x.ys HX.out.yI rfl HX.out.yl (fun hl b o e h => by have h1 := HYL.out hl b o e; omega))
                      have HLS2 := Lib.hid (HLS.out.crash HI.out x.nn x.ys)
                      have HI2 : Hid (Inv (2 + (i + 1)) 16777216 _) := Lib.hid ((HI.out.crash x.nn x.ys).mono (Nat.le_succ _))
                      clear hk7 HLS HI HNA HNB HXL HYL HX
                      unfold ptrV at HC
                      go_wp2_with (go_at_call 12; refine HC.out.mono ?_; rintro e w7 ⟨rfl, h7, hc7⟩; have HA7 := Lib.hid h7; have HB7 : Hid (Below w.heap.size w w7) := Lib.hid (HB0.out.trans (hc7.below HB0.out.size (fun k hk h => by omega))); clear h7 hc7)
                      go_roundw
                      case rel => exact ⟨i + 1, _, rfl, by omega, by omega, HA7.out, HLS2.out, HI2.out, HB7.out⟩
                      case measure => simp [intOf]; omega
                    · have e7 : (x.kd == 7) = false := by rw [beq_eq_false_iff_ne]; exact hk7
                      have HGO : Hid (Inv (2 + (i + 1)) 16777216 S) := Lib.hid (HI.out.mono (by omega))
                      clear hk0 hk1 hk3 hk4 hk5 hk7 HNA HNB HXL HYL HX
                      go_wp2
                      go_roundw
                      case rel => exact ⟨i + 1, S, rfl, by omega, by omega, HA.out, HLS.out, HGO.out, HB0.out⟩
                      case measure => simp [intOf]; omega
      · have HCR := Lib.hid (crash_in HA.out HI.out (by omega) (fun k hk => by have := HB.out.size; omega) names B ys.length cB ys (HYI.out.below HB.out) rfl HYL0.out (fun hl b o e h => by have h1 := HY0.out hl b o e; omega))
        have hls := HLS.out.crash HI.out names ys
        have hin2 := HI.out.crash names ys
        generalize crashF S names ys = S9 at *
        have hrd := hls.read hin2 own_ok
        have hrl : readL S9 ownN = xs := by unfold readL; rw [if_pos hrd.1, hrd.2]
        have HRD := Lib.hid (fun (W : World) (h : FsIn (fun k => w.heap.size ≤ k) p W S9) => read_in h hin2 ⟨#[111, 119, 110]⟩ (by decide))
        unfold ReadPost at HRD
        change Hid (∀ W, FsIn _ p W S9 → Calls _ _ _ W fun e W' => Below W.heap.size W W' ∧ ∃ A, e = .returned (.tuple #[.slice A (readL S9 ownN).length (readL S9 ownN).length, .int .i64 (ofF S9 ownN)]) ∧ OwnS W' W.heap.size _ 1 (.slice A (readL S9 ownN).length (readL S9 ownN).length) (readL S9 ownN).length ((readL S9 ownN).map (Value.int .u8))) at HRD
        rw [hrl, hrd.1, HXN.out] at HRD
        unfold ptrV at HCR HRD
        clear hls hin2 hrd hrl HLS HI HA
        have hgo : decide (i < n) = true ∧ decide ((i : Int) < (n : Int)) = true ∧ decide ((i : Int) < 30) = false ∧ decide (i < 30) = false ∨ decide (i < n) = false ∧ decide ((i : Int) < (n : Int)) = false := by
          by_cases hlt : i < n
          · left
            exact ⟨decide_eq_true hlt, decide_eq_true (by omega), decide_eq_false (by omega), decide_eq_false (by omega)⟩
          · right
            exact ⟨decide_eq_false hlt, decide_eq_false (by omega)⟩
        have HEND : Hid (∀ W, Below w.heap.size w W → FsIn (fun k => w.heap.size ≤ k) p W S9 → True) := Lib.hid (fun _ _ _ => trivial)
        clear hend hin
        rcases hgo with ⟨d2, d2', d3, d3'⟩ | ⟨d2, d2'⟩
        all_goals
          go_upto_region 28 with (go_at_call 12; refine HCR.out.mono ?_; rintro e w7 ⟨rfl, h7, hc7⟩; have HA7 := Lib.hid h7; have HB7 : Hid (Below w.heap.size w w7) := Lib.hid (HB.out.trans (hc7.below HB.out.size (fun k hk h => by omega))); clear h7 hc7)
          go_wp2_with fail
          refine (HRD.out w7 HA7.out).mono ?_
          rintro e w8 ⟨hb8, A8, rfl, ho8⟩
          have hb := HB7.out.trans (hb8.mono HB7.out.size)
          have cv1 := run_bstr w8 A8 xn xn xs ho8.ints HXN.out
          have cv2 := run_bstr w8 A xn c xs (HXI.out.below hb) HXN.out
          have HB8 := Lib.hid hb
          clear hb8 ho8 hb d2 d2' HCR HRD
          generalize strOfNums xs = RS at *
          go_wp2_with (go_at_call 15; refine (awake1_any w8).mono ?_; rintro e w9 ⟨rfl, hb9⟩)
          go_ret
          exact ⟨rfl, HB8.out.trans (hb9.mono HB8.out.size)⟩
end Go.Proofs.Ytmoaabjiokjjlaa
