/- The walk of HuffOften. -/
import Derived.Test.YtdmggpngmlhboaaHufG
import Derived.Test.YtdmggpngmlhboaaHcAwake
import Derived.Deep.QuietTactic
import Derived.BigQuiet
namespace Go.Proofs.Ytdmggpngmlhboaa
open Go.RowKit
set_option linter.unusedVariables false

theorem drewN_below (w : World) (n : Nat) : Below w.heap.size w (w.drewN n) := ⟨rfl, rfl, rfl, Nat.le_refl _, fun _ _ => rfl⟩
set_option maxRecDepth 100000 in
set_option maxHeartbeats 4000000 in
theorem often_bad (A : Option Addr) (c : Nat) (xs : List Int) (most : Int) (w : World) (hl : Calls Try.prog 11 #[.slice A xs.length c, .int .i64 most] w (LnBad w)) :
    Calls Try.prog 5 #[.slice A xs.length c, .int .i64 most] w fun e w' => e = .returned (.bool true) ∧ Below w.heap.size w w' := by
  go_enter Try.func5, Try.ntmps5
  go_wp2_with fail
  refine hl.mono ?_
  rintro e w1 ⟨rfl, hb1⟩
  have HB := Lib.hid hb1
  clear hl hb1
  go_wp2_with (go_at_call 12; refine (awake5_any _).mono ?_; rintro e w4 ⟨rfl, hb4⟩)
  go_ret
  exact ⟨rfl, HB.out.trans (hb4.mono HB.out.size)⟩
set_option maxRecDepth 100000 in
set_option maxHeartbeats 8000000 in
theorem often_ok (A : Option Addr) (c : Nat) (xs : List Int) (most : Nat) (w : World) (h : Ints .i64 w A xs) (hm1 : 1 ≤ most) (hok : okX xs) (hp : (bs xs xs.length).length ≤ 2 ^ most) (hn : xs.length ≤ 400) (hl : Calls Try.prog 11 #[.slice A xs.length c, .int .i64 most] w (LnOk w xs most)) :
    Calls Try.prog 5 #[.slice A xs.length c, .int .i64 most] w fun e w' => e = .returned (.bool true) ∧ Below w.heap.size w w' := by
  have hoft := fun (i k : Nat) (hi : i < xs.length) (hk : k < xs.length) h0 hik => lens_often xs most hm1 hp (i := i) (k := k) hi hk h0 hik
  have HOFT := Lib.hid hoft
  have HI := Lib.hid h
  have hll := lensL_length xs most
  clear hoft h hok hp
  go_enter Try.func5, Try.ntmps5
  go_wp2_with fail
  refine hl.mono ?_
  rintro e w1 ⟨A', rfl, hi1, hb1⟩
  generalize lensL xs most = L at *
  have HLL := Lib.hid hll
  have HI1 := Lib.hid hi1
  have HI0 := Lib.hid (HI.out.below hb1)
  have HB := Lib.hid hb1
  clear hl hll hi1 hb1 HI
  obtain ⟨n, hnn⟩ : ∃ n, xs.length = n := ⟨_, rfl⟩
  rw [hnn] at hn
  rw [hnn]
  have HNN := Lib.hid hnn
  clear hnn
  have z0 : ((n : Int) != (n : Int)) = false := by simp
  go_wp2
  go_loopw [7] (fun iv wr => ∃ i : Nat, iv = .int .i64 i ∧ i ≤ n ∧ Below w1.heap.size w1 wr) (fun iv _ => n - (intOf iv).toNat)
  case atStart => exact ⟨0, rfl, Nat.zero_le _, Below.refl _ _⟩
  case round =>
    obtain ⟨i, rfl, hi, hbr⟩ := hrel
    have HBR := Lib.hid hbr
    clear hbr
    by_cases hlt : i < n
    · go_wp2
      go_loopw [8] (fun kv wr => ∃ k : Nat, kv = .int .i64 k ∧ k ≤ n ∧ Below w1.heap.size w1 wr) (fun kv _ => n - (intOf kv).toNat)
      case atStart => exact ⟨0, rfl, Nat.zero_le _, HBR.out⟩
      case round =>
        clear HBR
        obtain ⟨k, rfl, hk, hbr⟩ := hrel
        by_cases hlk : k < n
        · obtain ⟨b, o, hA, hbs, hcell⟩ := HI0.out (by rw [HNN.out]; omega)
          subst hA
          obtain ⟨b2, o2, hA2, hbs2, hcell2⟩ := HI1.out (by rw [HLL.out, HNN.out]; omega)
          subst hA2
          have ci := (hbr.cell (p := ⟨b, o + i, none⟩) hbs).trans (hcell i (by rw [HNN.out]; exact hlt))
          have ck := (hbr.cell (p := ⟨b, o + k, none⟩) hbs).trans (hcell k (by rw [HNN.out]; exact hlk))
          have li := (hbr.cell (p := ⟨b2, o2 + i, none⟩) hbs2).trans (hcell2 i (by rw [HLL.out, HNN.out]; exact hlt))
          have lk := (hbr.cell (p := ⟨b2, o2 + k, none⟩) hbs2).trans (hcell2 k (by rw [HLL.out, HNN.out]; exact hlk))
          have hof := HOFT.out i k (by rw [HNN.out]; exact hlt) (by rw [HNN.out]; exact hlk)
          clear hcell hcell2
          generalize xs.getD i 0 = xi at *
          generalize xs.getD k 0 = xk at *
          generalize L.getD i 0 = yi at *
          generalize L.getD k 0 = yk at *
          have i0 : (0 : Int) ≤ (i : Int) := by omega
          have i1 : (i : Int) < (n : Int) := by omega
          have k0 : (0 : Int) ≤ (k : Int) := by omega
          have k1 : (k : Int) < (n : Int) := by omega
          have HBR := Lib.hid hbr
          clear hbr
          by_cases t1 : xk < xi
          · have g1 : decide (xk < xi) = true := decide_eq_true t1
            by_cases t2 : 0 < xk
            · have g2 : decide (0 < xk) = true := decide_eq_true t2
              have g3 : decide (yk < yi) = false := decide_eq_false (by have := hof t2 t1; omega)
              clear hof
              go_wp2
              go_quiet (fail)
              go_wp2
              go_roundw
              case rel => exact ⟨k + 1, by go_num, by omega, HBR.out.trans ((drewN_below wr nq).mono HBR.out.size)⟩
              case measure => simp [intOf]; omega
            · have g2 : decide (0 < xk) = false := decide_eq_false t2
              clear hof
              go_wp2
              go_quiet (fail)
              go_wp2
              go_roundw
              case rel => exact ⟨k + 1, by go_num, by omega, HBR.out.trans ((drewN_below wr nq).mono HBR.out.size)⟩
              case measure => simp [intOf]; omega
          · have g1 : decide (xk < xi) = false := decide_eq_false t1
            clear hof
            go_wp2
            go_quiet (fail)
            go_wp2
            go_roundw
            case rel => exact ⟨k + 1, by go_num, by omega, HBR.out.trans ((drewN_below wr nq).mono HBR.out.size)⟩
            case measure => simp [intOf]; omega
        · have HBR := Lib.hid hbr
          clear hbr
          go_wp2
          go_roundw
          case rel => exact ⟨i + 1, by go_num, by omega, HBR.out⟩
          case measure => simp [intOf]; omega
    · go_wp2_with (go_at_call 12; refine (awake5_any _).mono ?_; rintro e w4 ⟨rfl, hb4⟩)
      go_ret
      have hb := HB.out.trans (HBR.out.mono HB.out.size)
      exact ⟨rfl, hb.trans (hb4.mono hb.size)⟩
theorem huffOften_walk (A : Option Addr) (c : Nat) (xs : List Int) (most : Int) (w : World) (h : Ints .i64 w A xs) (sz : xs.length ≤ 9223372036854775807) (hm : (Lit.int .i64 most).wf = true) :
    Calls Try.prog 5 #[.slice A xs.length c, .int .i64 most] w fun e w' => e = .returned (.bool true) ∧ Below w.heap.size w w' := by
  by_cases hb : most < 1 ∨ 15 < most ∨ 400 < xs.length
  · exact often_bad A c xs most w (lengths_no A c xs most w h hm sz hb)
  · obtain ⟨m, rfl⟩ : ∃ m : Nat, most = m := ⟨most.toNat, by omega⟩
    have hgo := lengths_go A c xs m w h (by omega) (by omega) (by omega)
    by_cases hh : okX xs ∧ (bs xs xs.length).length ≤ 2 ^ m
    · exact often_ok A c xs m w h (by omega) hh.1 hh.2 (by omega) (hgo.mono fun e w' hp => hp.elim (fun h => h.2.2) (fun h => absurd hh h.1))
    · exact often_bad A c xs m w (hgo.mono fun e w' hp => hp.elim (fun h => absurd ⟨h.1, h.2.1⟩ hh) (fun h => h.2))
end Go.Proofs.Ytdmggpngmlhboaa
