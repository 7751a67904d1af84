/- The calls of a script on a file system: FsApart's run (printed by genfsy.py). -/
import Derived.Test.YtmoaabjiokjjlaaFsCd
import Derived.Test.YtmoaabjiokjjlaaFsApartP
import Derived.Test.YtmoaabjiokjjlaaFsS
namespace Go.Proofs.Ytmoaabjiokjjlaa
open Go.RowKit Go.Maps
set_option linter.unusedVariables false
set_option linter.unusedSimpArgs false

/-- What a script leaves. -/
def RunPost (F : Nat → Prop) (p N : Nat) (w : World) (e : Ending) (w' : World) : Prop := e = .returned (.tuple #[]) ∧ ∃ S', FsIn F p w' S' ∧ Inv N 16777216 S' ∧ Nok S' ∧ Chg F w w'
set_option maxRecDepth 100000 in
set_option maxHeartbeats 8000000 in
theorem run_any (w0 w : World) (F : Nat → Prop) (p : Nat) (S : Fs) (N : Nat) (As : Option Addr) (n cs : Nat) (h : FsIn F p w S) (hI : Inv N 16777216 S) (hK : Nok S) (hN : N ≤ 500) (hF : ∀ k, w.heap.size ≤ k → F k) (hFn : ∀ k, k < w0.heap.size → ¬ F k)
    (hB : Below w0.heap.size w0 w) (hO : OpsIn w0 As n) (hn : n ≤ 9223372036854775807) :
    Calls Try.prog 24 #[ptrV p, .slice As n cs] w (RunPost F p (N + 25) w) := by
  have HPO : Hid (∀ e w', RunPost F p (N + 25) w e w' = (e = .returned (.tuple #[]) ∧ ∃ S', FsIn F p w' S' ∧ Inv (N + 25) 16777216 S' ∧ Nok S' ∧ Chg F w w')) := Lib.hid (fun _ _ => rfl)
  generalize RunPost F p (N + 25) w = POST at *
  have HA0 := Lib.hid h
  have HI0 := Lib.hid hI
  have HK0 := Lib.hid hK
  have HFF := Lib.hid hF
  have HFN := Lib.hid hFn
  have HOP := Lib.hid hO
  have HBB := Lib.hid hB
  have HNN := Lib.hid hN
  clear h hI hK hF hFn hO hB hN
  unfold ptrV at *
  go_enter Try.func24, Try.ntmps24
  go_wp2
  go_loopw [4] (fun vi wr => ∃ (i : Nat) (S : Fs), vi = .int .i64 i ∧ i ≤ 25 ∧ i ≤ n ∧ FsIn F p wr S ∧ Inv (N + i) 16777216 S ∧ Nok S ∧ Chg F w wr) (fun vi _ => 25 - (intOf vi).toNat)
  case atStart => exact ⟨0, S, rfl, by omega, by omega, HA0.out, HI0.out, HK0.out, Chg.refl _ _⟩
  case round =>
    clear HA0 HI0 HK0
    obtain ⟨i, S, rfl, hi25, hin, hA, hInv, hNok, hC⟩ := hrel
    have HI := Lib.hid hInv
    have HK := Lib.hid hNok
    have HC0 := Lib.hid hC
    have HBW : Hid (Below w0.heap.size w0 wr) := Lib.hid (HBB.out.trans (hC.below HBB.out.size (fun k hk h => HFN.out k hk h)))
    have hNi := HNN.out
    clear hInv hNok hC
    by_cases hend : i < n ∧ i < 25
    · obtain ⟨hlt, hlt25⟩ := hend
      have d2 : decide ((i : Int) < (n : Int)) = true := decide_eq_true (by omega)
      have d2' : decide (i < n) = true := decide_eq_true hlt
      have d3 : decide ((i : Int) < 25) = true := decide_eq_true (by omega)
      have d3' : decide (i < 25) = true := decide_eq_true hlt25
      obtain ⟨eb, eo, rfl, heb0, hops⟩ := HOP.out (by omega)
      obtain ⟨x, hx0⟩ := hops i hlt
      have hx := hx0.below HBW.out heb0
      have heb : eb < wr.heap.size := Nat.lt_of_lt_of_le heb0 HBW.out.size
      have HX := Lib.hid (hx.below ((Below.refl _ wr).alloc (Nat.le_refl _) (.cells (opCells x) 39)) heb)
      have r0 := hx.c0
      have r1 := hx.c1
      have r2 := hx.c2
      have r3 := hx.c3
      have r4 := hx.c4
      have r5 := hx.c5
      have hA0 := hA.below ((Below.refl _ wr).alloc (Nat.le_refl _) (.cells (opCells x) 39))
      have HA := Lib.hid hA0
      have HCA := Lib.hid (HC0.out.alloc (.cells (opCells x) 39))
      have hof := opF_new wr x
      have HXL : Hid (0 < x.xs.length → ∀ b o, x.A = some ⟨b, o, none⟩ → b < w0.heap.size) := Lib.hid (fun hl b o e => hx0.xI.lt0 hl b o e)
      have HYL : Hid (0 < x.ys.length → ∀ b o, x.B = some ⟨b, o, none⟩ → b < w0.heap.size) := Lib.hid (fun hl b o e => hx0.yI.lt0 hl b o e)
      clear hx hx0 hops heb heb0 hA0 hA HC0
      unfold opCells at *
      go_upto_region 4 with (fail)
      generalize wr.alloc (.cells #[.int .i64 x.kd, .int .i64 x.nn, .string x.a, .string x.b, .slice x.A x.xs.length x.cA, .slice x.B x.ys.length x.cB] 39) = w6 at *
      generalize wr.heap.size = og at *
      have q0 : w6.cell? ⟨og, 0, none⟩ = some (.int .i64 x.kd) := hof.cell 0 (by decide)
      have q1 : w6.cell? ⟨og, 1, none⟩ = some (.int .i64 x.nn) := hof.cell 1 (by decide)
      have q2 : w6.cell? ⟨og, 2, none⟩ = some (.string x.a) := hof.cell 2 (by decide)
      have q3 : w6.cell? ⟨og, 3, none⟩ = some (.string x.b) := hof.cell 3 (by decide)
      have q4 : w6.cell? ⟨og, 4, none⟩ = some (.slice x.A x.xs.length x.cA) := hof.cell 4 (by decide)
      have q5 : w6.cell? ⟨og, 5, none⟩ = some (.slice x.B x.ys.length x.cB) := hof.cell 5 (by decide)
      have HFB : Hid (∀ k, w6.heap.size ≤ k → F k) := Lib.hid (fun k hk => HFF.out k (Nat.le_trans HCA.out.size hk))
      clear hof r0 r1 r2 r3 r4 r5 d3 d3' d2 d2'
      by_cases hk0 : x.kd = 0
      · have e0 : (x.kd == 0) = true := by rw [hk0]; rfl
        have HC := Lib.hid (create_in HA.out HI.out (by omega) HFB.out x.a HX.out.sa)
        unfold InPost at HC
        have HI2 : Hid (Inv (N + (i + 1)) 16777216 _) := Lib.hid (HI.out.create x.a.data.toList)
        have HK2 := Lib.hid (HK.out.create x.a.data.toList)
        clear hk0 HI HK HXL HYL HX
        unfold ptrV at HC
        go_wp2_with (go_at_call 10; refine HC.out.mono ?_; rintro e w7 ⟨rfl, h7, hc7⟩; have HA7 := Lib.hid h7; have HC7 := Lib.hid (HCA.out.trans hc7 (fun k _ h => h)); clear h7 hc7)
        go_roundw
        case rel => exact ⟨i + 1, _, rfl, by omega, by omega, HA7.out, HI2.out, HK2.out, HC7.out⟩
        case measure => simp [intOf]; omega
      · have e0 : (x.kd == 0) = false := by rw [beq_eq_false_iff_ne]; exact hk0
        by_cases hk1 : x.kd = 1
        · have e1 : (x.kd == 1) = true := by rw [hk1]; rfl
          have HC := Lib.hid (append_in HA.out HI.out (by omega) HFB.out x.a HX.out.sa x.A x.xs.length x.cA x.xs HX.out.xI rfl HX.out.xl (fun hl b o e h => HFN.out b (HXL.out hl b o e) h))
          unfold InPost at HC
          have HI2 : Hid (Inv (N + (i + 1)) 16777216 _) := Lib.hid ((HI.out.append x.a.data.toList x.xs).mono (Nat.le_succ _))
          have HK2 := Lib.hid (HK.out.append x.a.data.toList x.xs)
          clear hk1 HI HK HXL HYL HX
          unfold ptrV at HC
          go_wp2_with (go_at_call 11; refine HC.out.mono ?_; rintro e w7 ⟨rfl, h7, hc7⟩; have HA7 := Lib.hid h7; have HC7 := Lib.hid (HCA.out.trans hc7 (fun k _ h => h)); clear h7 hc7)
          go_roundw
          case rel => exact ⟨i + 1, _, rfl, by omega, by omega, HA7.out, HI2.out, HK2.out, HC7.out⟩
          case measure => simp [intOf]; omega
        · have e1 : (x.kd == 1) = false := by rw [beq_eq_false_iff_ne]; exact hk1
          by_cases hk3 : x.kd = 3
          · have e3 : (x.kd == 3) = true := by rw [hk3]; rfl
            have HC := Lib.hid (sync_in HA.out HI.out HFB.out x.a HX.out.sa)
            unfold InPost at HC
            have HI2 : Hid (Inv (N + (i + 1)) 16777216 _) := Lib.hid ((HI.out.sync x.a.data.toList).mono (Nat.le_succ _))
            have HK2 := Lib.hid (HK.out.sync x.a.data.toList)
            clear hk3 HI HK HXL HYL HX
            unfold ptrV at HC
            go_wp2_with (go_at_call 20; refine HC.out.mono ?_; rintro e w7 ⟨rfl, h7, hc7⟩; have HA7 := Lib.hid h7; have HC7 := Lib.hid (HCA.out.trans hc7 (fun k _ h => h)); clear h7 hc7)
            go_roundw
            case rel => exact ⟨i + 1, _, rfl, by omega, by omega, HA7.out, HI2.out, HK2.out, HC7.out⟩
            case measure => simp [intOf]; omega
          · have e3 : (x.kd == 3) = false := by rw [beq_eq_false_iff_ne]; exact hk3
            by_cases hk4 : x.kd = 4
            · have e4 : (x.kd == 4) = true := by rw [hk4]; rfl
              have HC := Lib.hid (rename_in HA.out HI.out (by omega) HFB.out x.a x.b HX.out.sa HX.out.sb)
              unfold InPost at HC
              have HI2 : Hid (Inv (N + (i + 1)) 16777216 _) := Lib.hid (HI.out.rename x.a.data.toList x.b.data.toList)
              have HK2 := Lib.hid (HK.out.rename x.a.data.toList x.b.data.toList)
              clear hk4 HI HK HXL HYL HX
              unfold ptrV at HC
              go_wp2_with (go_at_call 17; refine HC.out.mono ?_; rintro e w7 ⟨rfl, h7, hc7⟩; have HA7 := Lib.hid h7; have HC7 := Lib.hid (HCA.out.trans hc7 (fun k _ h => h)); clear h7 hc7)
              go_roundw
              case rel => exact ⟨i + 1, _, rfl, by omega, by omega, HA7.out, HI2.out, HK2.out, HC7.out⟩
              case measure => simp [intOf]; omega
            · have e4 : (x.kd == 4) = false := by rw [beq_eq_false_iff_ne]; exact hk4
              by_cases hk5 : x.kd = 5
              · have e5 : (x.kd == 5) = true := by rw [hk5]; rfl
                have HC := Lib.hid (remove_in HA.out HI.out (by omega) HFB.out x.a HX.out.sa)
                unfold InPost at HC
                have HI2 : Hid (Inv (N + (i + 1)) 16777216 _) := Lib.hid (HI.out.remove x.a.data.toList)
                have HK2 := Lib.hid (HK.out.remove x.a.data.toList)
                clear hk5 HI HK HXL HYL HX
                unfold ptrV at HC
                go_wp2_with (go_at_call 18; refine HC.out.mono ?_; rintro e w7 ⟨rfl, h7, hc7⟩; have HA7 := Lib.hid h7; have HC7 := Lib.hid (HCA.out.trans hc7 (fun k _ h => h)); clear h7 hc7)
                go_roundw
                case rel => exact ⟨i + 1, _, rfl, by omega, by omega, HA7.out, HI2.out, HK2.out, HC7.out⟩
                case measure => simp [intOf]; omega
              · have e5 : (x.kd == 5) = false := by rw [beq_eq_false_iff_ne]; exact hk5
                by_cases hk6 : x.kd = 6
                · have e6 : (x.kd == 6) = true := by rw [hk6]; rfl
                  have HC := Lib.hid (syncNames_in HA.out HI.out HFB.out)
                  unfold InPost at HC
                  have HI2 : Hid (Inv (N + (i + 1)) 16777216 _) := Lib.hid ((HI.out.syncNames).mono (Nat.le_succ _))
                  have HK2 := Lib.hid (HK.out.syncNames HI.out)
                  clear hk6 HI HK HXL HYL HX
                  unfold ptrV at HC
                  go_wp2_with (go_at_call 21; refine HC.out.mono ?_; rintro e w7 ⟨rfl, h7, hc7⟩; have HA7 := Lib.hid h7; have HC7 := Lib.hid (HCA.out.trans hc7 (fun k _ h => h)); clear h7 hc7)
                  go_roundw
                  case rel => exact ⟨i + 1, _, rfl, by omega, by omega, HA7.out, HI2.out, HK2.out, HC7.out⟩
                  case measure => simp [intOf]; omega
                · have e6 : (x.kd == 6) = false := by rw [beq_eq_false_iff_ne]; exact hk6
                  by_cases hk7 : x.kd = 7
                  · have e7 : (x.kd == 7) = true := by rw [hk7]; rfl
                    have HC := Lib.hid (crash_in HA.out HI.out (by omega) HFB.out x.nn x.B x.ys.length x.cB x.ys HX.out.yI rfl HX.out.yl (fun hl b o e h => HFN.out b (HYL.out hl b o e) h))
                    have HI2 : Hid (Inv (N + (i + 1)) 16777216 _) := Lib.hid ((HI.out.crash x.nn x.ys).mono (Nat.le_succ _))
                    have HK2 := Lib.hid (HK.out.crash x.nn x.ys)
                    clear hk7 HI HK HXL HYL HX
                    unfold ptrV at HC
                    go_wp2_with (go_at_call 12; refine HC.out.mono ?_; rintro e w7 ⟨rfl, h7, hc7⟩; have HA7 := Lib.hid h7; have HC7 := Lib.hid (HCA.out.trans hc7 (fun k _ h => h)); clear h7 hc7)
                    go_roundw
                    case rel => exact ⟨i + 1, _, rfl, by omega, by omega, HA7.out, HI2.out, HK2.out, HC7.out⟩
                    case measure => simp [intOf]; omega
                  · have e7 : (x.kd == 7) = false := by rw [beq_eq_false_iff_ne]; exact hk7
                    have HGO : Hid (Inv (N + (i + 1)) 16777216 S) := Lib.hid (HI.out.mono (by omega))
                    clear hk0 hk1 hk3 hk4 hk5 hk6 hk7 HXL HYL HX
                    go_wp2
                    go_roundw
                    case rel => exact ⟨i + 1, S, rfl, by omega, by omega, HA.out, HGO.out, HK.out, HCA.out⟩
                    case measure => simp [intOf]; omega
    · have hgo : decide (i < n) = true ∧ decide ((i : Int) < (n : Int)) = true ∧ decide ((i : Int) < 25) = false ∧ decide (i < 25) = false ∨ decide (i < n) = false ∧ decide ((i : Int) < (n : Int)) = false := by
        by_cases hlt : i < n
        · left
          exact ⟨decide_eq_true hlt, decide_eq_true (by omega), decide_eq_false (by omega), decide_eq_false (by omega)⟩
        · right
          exact ⟨decide_eq_false hlt, decide_eq_false (by omega)⟩
      have HA := Lib.hid hA
      have HGO : Hid (Inv (N + 25) 16777216 S) := Lib.hid (HI.out.mono (by omega))
      clear hend hin hA
      rcases hgo with ⟨d2, d2', d3, d3'⟩ | ⟨d2, d2'⟩
      all_goals
        go_wp2
        first
          | (refine bodyPost_ret (results_none rfl _ _ _) rfl ?_; rw [HPO.out]; exact ⟨rfl, S, HA.out, HGO.out, HK.out, HC0.out⟩)
          | (rw [HPO.out]; exact ⟨rfl, S, HA.out, HGO.out, HK.out, HC0.out⟩)
          | (refine ⟨rfl, _, results_none rfl _ _ _, ?_⟩; rw [HPO.out]; exact ⟨rfl, S, HA.out, HGO.out, HK.out, HC0.out⟩)
end Go.Proofs.Ytmoaabjiokjjlaa
