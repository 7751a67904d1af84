/- The walk of HuffLeast. -/
import Derived.Test.YtdmggpngmlhboaaLstL
import Derived.Test.YtdmggpngmlhboaaHcAwake
import Derived.Deep.QuietTactic
import Derived.BigQuiet
namespace Go.Proofs.Ytdmggpngmlhboaa
open Go.RowKit
set_option linter.unusedVariables false

theorem drewN_belowL (w : World) (n : Nat) : Below w.heap.size w (w.drewN n) := ⟨rfl, rfl, rfl, Nat.le_refl _, fun _ _ => rfl⟩
def bad0 (xs : List Int) (most : Int) : Bool := decide (most < 1) || decide (15 < most) || decide (400 < xs.length)
def badX (xs : List Int) (i : Nat) : Bool := (List.range i).any fun j => decide (xs.getD j 0 < 0) || decide (1073741824 < xs.getD j 0)
theorem badX_succ (xs : List Int) (i : Nat) : badX xs (i + 1) = (badX xs i || (decide (xs.getD i 0 < 0) || decide (1073741824 < xs.getD i 0))) := by
  unfold badX
  rw [List.range_succ, List.any_append]; simp
theorem badX_ok (xs : List Int) : badX xs xs.length = false ↔ okX xs := by
  unfold badX okX
  rw [List.any_eq_false]
  have key : ∀ x : Int, ¬ ((decide (x < 0) || decide (1073741824 < x)) = true) ↔ (0 ≤ x ∧ x ≤ 1073741824) := fun x => by
    simp only [Bool.or_eq_true, decide_eq_true_eq]
    omega
  constructor
  · intro h i hi
    exact (key _).1 (h i (List.mem_range.2 hi))
  · intro h i hi
    exact (key _).2 (h i (List.mem_range.1 hi))
theorem bs_pos {xs : List Int} {i : Nat} (h : 0 < xs.getD i 0) : (bs xs (i + 1)).length = (bs xs i).length + 1 := by rw [bs_succ, if_pos h, List.length_append]; rfl
theorem bs_none {xs : List Int} {i : Nat} (h : ¬ 0 < xs.getD i 0) : (bs xs (i + 1)).length = (bs xs i).length := by rw [bs_succ, if_neg h, List.append_nil]
set_option maxRecDepth 100000 in
set_option maxHeartbeats 8000000 in
theorem least_bad (A : Option Addr) (c : Nat) (xs : List Int) (most : Int) (w : World) (h : Ints .i64 w A xs) (sz : xs.length ≤ 9223372036854775806) (hm : (Lit.int .i64 most).wf = true) (hbad : (bad0 xs most || badX xs xs.length) = false → ∃ m : Nat, most = m ∧ 1 ≤ m ∧ m ≤ 15 ∧ 2 ^ m < (bs xs xs.length).length) (hl : Calls Try.prog 11 #[.slice A xs.length c, .int .i64 most] w (LnBad w)) :
    Calls Try.prog 4 #[.slice A xs.length c, .int .i64 most] w fun e w' => e = .returned (.bool true) ∧ Below w.heap.size w w' := by
  obtain ⟨n, hnn⟩ : ∃ n, xs.length = n := ⟨_, rfl⟩
  have HNN := Lib.hid hnn
  have HI := Lib.hid h
  have HBAD := Lib.hid hbad
  rw [hnn] at sz hl
  rw [hnn]
  clear h hnn hbad
  go_enter Try.func4, Try.ntmps4
  go_wp2_with fail
  refine hl.mono ?_
  rintro e w1 ⟨rfl, hb1⟩
  have HB := Lib.hid hb1
  have HI1 := Lib.hid (HI.out.below hb1)
  clear hl hb1 HI
  go_upto_region 3 with (fail)
  go_cut [8] (fun v wx => v = .bool (bad0 xs most) ∧ wx = w1)
  case first =>
    by_cases t1 : most < 1
    · have g1 : decide (most < 1) = true := decide_eq_true t1
      have hb0 : bad0 xs most = true := by unfold bad0; rw [g1]; rfl
      go_wp2
      go_meet
      exact ⟨by rw [hb0], rfl⟩
    · have g1 : decide (most < 1) = false := decide_eq_false t1
      by_cases t2 : 15 < most
      · have g2 : decide (15 < most) = true := decide_eq_true t2
        have hb0 : bad0 xs most = true := by unfold bad0; rw [g1, g2]; rfl
        go_wp2
        go_meet
        exact ⟨by rw [hb0], rfl⟩
      · have g2 : decide (15 < most) = false := decide_eq_false t2
        have hb0 : bad0 xs most = decide (400 < n) := by unfold bad0; rw [g1, g2, HNN.out]; rfl
        by_cases t3 : 400 < n
        · have g3 : decide (400 < n) = true := decide_eq_true t3
          have g3' : decide ((400 : Int) < (n : Int)) = true := decide_eq_true (by omega)
          rw [g3] at hb0
          go_wp2
          go_meet
          exact ⟨by rw [hb0], rfl⟩
        · have g3 : decide (400 < n) = false := decide_eq_false t3
          have g3' : decide ((400 : Int) < (n : Int)) = false := decide_eq_false (by omega)
          rw [g3] at hb0
          go_wp2
          go_meet
          exact ⟨by rw [hb0], rfl⟩
  case rest =>
    obtain ⟨rfl, rfl⟩ := hcut
    go_wp2
    go_loopw [7, 8, 9] (fun nv bv iv wr => ∃ i : Nat, iv = .int .i64 i ∧ i ≤ n ∧ nv = .int .i64 ((bs xs i).length : Nat) ∧ bv = .bool (bad0 xs most || badX xs i) ∧ Drawn wc wr) (fun _ _ iv _ => n - (intOf iv).toNat)
    case atStart => exact ⟨0, rfl, Nat.zero_le _, rfl, by show _ = Value.bool (bad0 xs most || false); rw [Bool.or_false], Drawn.refl _⟩
    case round =>
      obtain ⟨i, rfl, hi, rfl, rfl, hdr⟩ := hrel
      have HD := Lib.hid hdr
      have hbl := bs_length xs i
      by_cases hlt : i < n
      · obtain ⟨b, o, hA, hbs, hcell⟩ := HI1.out (by rw [HNN.out]; omega)
        subst hA
        have hck := (hdr.cell ⟨b, o + i, none⟩).trans (hcell i (by rw [HNN.out]; exact hlt))
        obtain ⟨x, hx⟩ : ∃ x, xs.getD i 0 = x := ⟨_, rfl⟩
        obtain ⟨bb, hbb⟩ : ∃ b, (bad0 xs most || badX xs i) = b := ⟨_, rfl⟩
        have hbn : (bad0 xs most || badX xs (i + 1)) = (bb || (decide (x < 0) || decide (1073741824 < x))) := by rw [badX_succ, ← Bool.or_assoc, hbb, hx]
        have hp : 0 < x → (bs xs (i + 1)).length = (bs xs i).length + 1 := fun h => bs_pos (by rw [hx]; exact h)
        have hq : ¬ 0 < x → (bs xs (i + 1)).length = (bs xs i).length := fun h => bs_none (by rw [hx]; exact h)
        rw [hx] at hck
        rw [hbb]
        have HBN := Lib.hid hbn
        have HP := Lib.hid hp
        have HQ := Lib.hid hq
        clear hcell hx hbb hbn hp hq hdr
        generalize (bs xs i).length = nb at *
        have i0 : (0 : Int) ≤ (i : Int) := by omega
        have i1 : (i : Int) < (n : Int) := by omega
        have fin : ∀ (b2 : Bool), (bb || (decide (x < 0) || decide (1073741824 < x))) = b2 → (bad0 xs most || badX xs (i + 1)) = b2 := fun b2 h => by rw [HBN.out]; exact h
        have FIN := Lib.hid fin
        clear fin HBN
        cases bb
        · by_cases t1 : x < 0
          · have g1 : decide (x < 0) = true := decide_eq_true t1
            have g3 : decide (0 < x) = false := decide_eq_false (by omega)
            go_wp2
            go_roundw
            case rel => exact ⟨i + 1, by go_num, by omega, by rw [HQ.out (by omega)], by rw [FIN.out true (by rw [g1]; rfl)], (by first | exact HD.out | exact HD.out.more 1 | exact HD.out.more _ | exact (HD.out.more 1).more 1)⟩
            case measure => simp [intOf]; omega
          · have g1 : decide (x < 0) = false := decide_eq_false t1
            by_cases t2 : 1073741824 < x
            · have g2 : decide (1073741824 < x) = true := decide_eq_true t2
              have g3 : decide (0 < x) = true := decide_eq_true (by omega)
              go_wp2
              go_roundw
              case rel => exact ⟨i + 1, by go_num, by omega, by rw [HP.out (by omega)]; go_num, by rw [FIN.out true (by rw [g1, g2]; rfl)], (by first | exact HD.out | exact HD.out.more 1 | exact HD.out.more _ | exact (HD.out.more 1).more 1)⟩
              case measure => simp [intOf]; omega
            · have g2 : decide (1073741824 < x) = false := decide_eq_false t2
              by_cases t3 : 0 < x
              · have g3 : decide (0 < x) = true := decide_eq_true t3
                go_wp2
                go_roundw
                case rel => exact ⟨i + 1, by go_num, by omega, by rw [HP.out t3]; go_num, by rw [FIN.out false (by rw [g1, g2]; rfl)], (by first | exact HD.out | exact HD.out.more 1 | exact HD.out.more _ | exact (HD.out.more 1).more 1)⟩
                case measure => simp [intOf]; omega
              · have g3 : decide (0 < x) = false := decide_eq_false t3
                go_wp2
                go_roundw
                case rel => exact ⟨i + 1, by go_num, by omega, by rw [HQ.out t3], by rw [FIN.out false (by rw [g1, g2]; rfl)], (by first | exact HD.out | exact HD.out.more 1 | exact HD.out.more _ | exact (HD.out.more 1).more 1)⟩
                case measure => simp [intOf]; omega
        · by_cases t3 : 0 < x
          · have g3 : decide (0 < x) = true := decide_eq_true t3
            go_wp2
            go_roundw
            case rel => exact ⟨i + 1, by go_num, by omega, by rw [HP.out t3]; go_num, by rw [FIN.out true rfl], (by first | exact HD.out | exact HD.out.more 1 | exact HD.out.more _ | exact (HD.out.more 1).more 1)⟩
            case measure => simp [intOf]; omega
          · have g3 : decide (0 < x) = false := decide_eq_false t3
            go_wp2
            go_roundw
            case rel => exact ⟨i + 1, by go_num, by omega, by rw [HQ.out t3], by rw [FIN.out true rfl], (by first | exact HD.out | exact HD.out.more 1 | exact HD.out.more _ | exact (HD.out.more 1).more 1)⟩
            case measure => simp [intOf]; omega
      · obtain rfl : i = n := by omega
        have hbad := HBAD.out
        rw [HNN.out] at hbad
        generalize (bad0 xs most || badX xs i) = bb at *
        generalize (bs xs i).length = nb at *
        have HBD := Lib.hid hbad
        clear hbad HBAD
        go_upto_region 10 with (fail)
        go_cut [8] (fun v wx => v = .bool true ∧ Drawn wc wx)
        case first =>
          cases bb
          · obtain ⟨m, rfl, hm1, hm2, hm3⟩ := HBD.out rfl
            obtain ⟨pw, hpw⟩ : ∃ p, 2 ^ m = p := ⟨_, rfl⟩
            have hp15 : pw ≤ 32768 := by rw [← hpw]; exact (Nat.pow_le_pow_right (n := 2) (by decide) hm2 : 2 ^ m ≤ 2 ^ 15)
            have hpi : (2 : Int) ^ m = (pw : Int) := by rw [← hpw]; simp
            have hwp : IntKind.i64.wrap (pw : Int) = (pw : Int) := IntWalk.i64_in _ (by omega)
            rw [hpw] at hm3
            have g1 : decide ((pw : Int) < (nb : Int)) = true := decide_eq_true (by omega)
            have g2 : decide (pw < nb) = true := decide_eq_true hm3
            clear hpw
            go_wp2
            go_meet
            exact ⟨rfl, by first | exact HD.out | exact HD.out.more 1 | exact HD.out.more _⟩
          · go_wp2
            go_meet
            exact ⟨rfl, by first | exact HD.out | exact HD.out.more 1 | exact HD.out.more _⟩
        case rest =>
          obtain ⟨rfl, hdr2⟩ := hcut
          clear HD
          have HD := Lib.hid hdr2
          clear hdr2 hdr
          go_wp2_with (go_at_call 12; refine (awake5_any _).mono ?_; rintro e w4 ⟨rfl, hb4⟩)
          go_ret
          have hbb := HD.out.below HB.out
          exact ⟨rfl, hbb.trans (hb4.mono hbb.size)⟩
set_option maxRecDepth 100000 in
set_option maxHeartbeats 8000000 in
theorem least_ok (A : Option Addr) (c : Nat) (xs : List Int) (most : Nat) (w : World) (h : Ints .i64 w A xs) (hm1 : 1 ≤ most) (h15 : most ≤ 15) (hok : okX xs) (hp : (bs xs xs.length).length ≤ 2 ^ most) (hn : xs.length ≤ 400) (hl : Calls Try.prog 11 #[.slice A xs.length c, .int .i64 most] w (LnOk w xs most)) :
    Calls Try.prog 4 #[.slice A xs.length c, .int .i64 most] w fun e w' => e = .returned (.bool true) ∧ Below w.heap.size w w' := by
  have hll := lensL_length xs most
  have hz := fun (j : Nat) (hj : j < xs.length) (h0 : ¬ 0 < xs.getD j 0) => lens_zero xs most (i := j) hj h0
  have hs := fun (j : Nat) (hj : j < xs.length) (h0 : 0 < xs.getD j 0) => lens_some xs most hm1 hp (i := j) hj h0
  have hwh := fun (h2 : 2 ≤ (bs xs xs.length).length) => lens_whole xs most hm1 h15 h2 hp
  have hle : ∀ (c : Nat) (W : World) (hI : Ints .i64 W A xs), Calls Try.prog 15 #[.slice A xs.length c, .int .i64 most] W fun e w' => e = .returned (.int .i64 (costTo xs (lensL xs most) xs.length)) ∧ Below W.heap.size W w' := fun c W hI => least_any A c xs most W hI hok hm1 h15 hn
  have hb0 : (bad0 xs (most : Int) || badX xs xs.length) = false := by
    rw [(badX_ok xs).2 hok]
    unfold bad0
    rw [decide_eq_false (show ¬ (most : Int) < 1 by omega), decide_eq_false (show ¬ (15 : Int) < (most : Int) by omega), decide_eq_false (show ¬ 400 < xs.length by omega)]; rfl
  obtain ⟨n, hnn⟩ : ∃ n, xs.length = n := ⟨_, rfl⟩
  rw [hnn] at hll hz hs hwh hle hp hb0 hl hn
  rw [hnn]
  have HNN := Lib.hid hnn
  have HI := Lib.hid h
  have HZ := Lib.hid hz
  have HSM := Lib.hid hs
  have HWH := Lib.hid hwh
  have HLE := Lib.hid hle
  have HP := Lib.hid hp
  have HB0 := Lib.hid hb0
  have HLL := Lib.hid hll
  clear h hok hz hs hwh hle hp hb0 hnn hll
  have sz : n ≤ 9223372036854775806 := by omega
  go_enter Try.func4, Try.ntmps4
  go_wp2_with fail
  refine hl.mono ?_
  rintro e w1 ⟨A1, rfl, hi1, hb1⟩
  rw [HNN.out]
  have HB := Lib.hid hb1
  have HI1 := Lib.hid (HI.out.below hb1)
  generalize lensL xs most = L at *
  have HL1 := Lib.hid hi1
  clear hl hb1 HI hi1
  go_upto_region 3 with (fail)
  go_cut [8] (fun v wx => v = .bool (bad0 xs (most : Int)) ∧ wx = w1)
  case first =>
    have hb0 : bad0 xs (most : Int) = false := by
      unfold bad0
      rw [decide_eq_false (show ¬ (most : Int) < 1 by omega), decide_eq_false (show ¬ (15 : Int) < (most : Int) by omega), HNN.out, decide_eq_false (show ¬ 400 < n by omega)]; rfl
    have g1 : decide ((most : Int) < 1) = false := decide_eq_false (by omega)
    have g2 : decide ((15 : Int) < (most : Int)) = false := decide_eq_false (by omega)
    have g2' : decide (15 < most) = false := decide_eq_false (by omega)
    have g3 : decide (400 < n) = false := decide_eq_false (by omega)
    have g3' : decide ((400 : Int) < (n : Int)) = false := decide_eq_false (by omega)
    go_wp2
    go_meet
    exact ⟨by rw [hb0], rfl⟩
  case rest =>
    obtain ⟨rfl, rfl⟩ := hcut
    go_wp2
    go_loopw [7, 8, 9] (fun nv bv iv wr => ∃ i : Nat, iv = .int .i64 i ∧ i ≤ n ∧ nv = .int .i64 ((bs xs i).length : Nat) ∧ bv = .bool (bad0 xs (most : Int) || badX xs i) ∧ Drawn wc wr) (fun _ _ iv _ => n - (intOf iv).toNat)
    case atStart => exact ⟨0, rfl, Nat.zero_le _, rfl, by show _ = Value.bool (bad0 xs most || false); rw [Bool.or_false], Drawn.refl _⟩
    case round =>
      obtain ⟨i, rfl, hi, rfl, rfl, hdr⟩ := hrel
      have HD := Lib.hid hdr
      have hbl := bs_length xs i
      by_cases hlt : i < n
      · obtain ⟨b, o, hA, hbs, hcell⟩ := HI1.out (by rw [HNN.out]; omega)
        subst hA
        have hck := (hdr.cell ⟨b, o + i, none⟩).trans (hcell i (by rw [HNN.out]; exact hlt))
        obtain ⟨x, hx⟩ : ∃ x, xs.getD i 0 = x := ⟨_, rfl⟩
        obtain ⟨bb, hbb⟩ : ∃ b, (bad0 xs (most : Int) || badX xs i) = b := ⟨_, rfl⟩
        have hbn : (bad0 xs (most : Int) || badX xs (i + 1)) = (bb || (decide (x < 0) || decide (1073741824 < x))) := by rw [badX_succ, ← Bool.or_assoc, hbb, hx]
        have hp : 0 < x → (bs xs (i + 1)).length = (bs xs i).length + 1 := fun h => bs_pos (by rw [hx]; exact h)
        have hq : ¬ 0 < x → (bs xs (i + 1)).length = (bs xs i).length := fun h => bs_none (by rw [hx]; exact h)
        rw [hx] at hck
        rw [hbb]
        have HBN := Lib.hid hbn
        have HP := Lib.hid hp
        have HQ := Lib.hid hq
        clear hcell hx hbb hbn hp hq hdr
        generalize (bs xs i).length = nb at *
        have i0 : (0 : Int) ≤ (i : Int) := by omega
        have i1 : (i : Int) < (n : Int) := by omega
        have fin : ∀ (b2 : Bool), (bb || (decide (x < 0) || decide (1073741824 < x))) = b2 → (bad0 xs (most : Int) || badX xs (i + 1)) = b2 := fun b2 h => by rw [HBN.out]; exact h
        have FIN := Lib.hid fin
        clear fin HBN
        cases bb
        · by_cases t1 : x < 0
          · have g1 : decide (x < 0) = true := decide_eq_true t1
            have g3 : decide (0 < x) = false := decide_eq_false (by omega)
            go_wp2
            go_roundw
            case rel => exact ⟨i + 1, by go_num, by omega, by rw [HQ.out (by omega)], by rw [FIN.out true (by rw [g1]; rfl)], (by first | exact HD.out | exact HD.out.more 1 | exact HD.out.more _ | exact (HD.out.more 1).more 1)⟩
            case measure => simp [intOf]; omega
          · have g1 : decide (x < 0) = false := decide_eq_false t1
            by_cases t2 : 1073741824 < x
            · have g2 : decide (1073741824 < x) = true := decide_eq_true t2
              have g3 : decide (0 < x) = true := decide_eq_true (by omega)
              go_wp2
              go_roundw
              case rel => exact ⟨i + 1, by go_num, by omega, by rw [HP.out (by omega)]; go_num, by rw [FIN.out true (by rw [g1, g2]; rfl)], (by first | exact HD.out | exact HD.out.more 1 | exact HD.out.more _ | exact (HD.out.more 1).more 1)⟩
              case measure => simp [intOf]; omega
            · have g2 : decide (1073741824 < x) = false := decide_eq_false t2
              by_cases t3 : 0 < x
              · have g3 : decide (0 < x) = true := decide_eq_true t3
                go_wp2
                go_roundw
                case rel => exact ⟨i + 1, by go_num, by omega, by rw [HP.out t3]; go_num, by rw [FIN.out false (by rw [g1, g2]; rfl)], (by first | exact HD.out | exact HD.out.more 1 | exact HD.out.more _ | exact (HD.out.more 1).more 1)⟩
                case measure => simp [intOf]; omega
              · have g3 : decide (0 < x) = false := decide_eq_false t3
                go_wp2
                go_roundw
                case rel => exact ⟨i + 1, by go_num, by omega, by rw [HQ.out t3], by rw [FIN.out false (by rw [g1, g2]; rfl)], (by first | exact HD.out | exact HD.out.more 1 | exact HD.out.more _ | exact (HD.out.more 1).more 1)⟩
                case measure => simp [intOf]; omega
        · by_cases t3 : 0 < x
          · have g3 : decide (0 < x) = true := decide_eq_true t3
            go_wp2
            go_roundw
            case rel => exact ⟨i + 1, by go_num, by omega, by rw [HP.out t3]; go_num, by rw [FIN.out true rfl], (by first | exact HD.out | exact HD.out.more 1 | exact HD.out.more _ | exact (HD.out.more 1).more 1)⟩
            case measure => simp [intOf]; omega
          · have g3 : decide (0 < x) = false := decide_eq_false t3
            go_wp2
            go_roundw
            case rel => exact ⟨i + 1, by go_num, by omega, by rw [HQ.out t3], by rw [FIN.out true rfl], (by first | exact HD.out | exact HD.out.more 1 | exact HD.out.more _ | exact (HD.out.more 1).more 1)⟩
            case measure => simp [intOf]; omega
      · obtain rfl : i = n := by omega
        rw [HB0.out]
        have hdr9 := hdr
        obtain ⟨nb, hnb⟩ : ∃ m, (bs xs i).length = m := ⟨_, rfl⟩
        have hp := HP.out
        have hwh := HWH.out
        rw [hnb] at hp hbl hwh ⊢
        have HWH2 := Lib.hid hwh
        have HIA := Lib.hid (fun w' (hb : Below wc.heap.size wc w') => (HI1.out.below hb))
        have HLA := Lib.hid (fun w' (hb : Below wc.heap.size wc w') => (HL1.out.below hb))
        obtain ⟨pw, hpw⟩ : ∃ p, 2 ^ most = p := ⟨_, rfl⟩
        have hp15 : pw ≤ 32768 := by rw [← hpw]; exact (Nat.pow_le_pow_right (n := 2) (by decide) h15 : 2 ^ most ≤ 2 ^ 15)
        have hpi : (2 : Int) ^ most = (pw : Int) := by rw [← hpw]; simp
        have hwp : IntKind.i64.wrap (pw : Int) = (pw : Int) := IntWalk.i64_in _ (by omega)
        rw [hpw] at hp
        have g1 : decide ((pw : Int) < (nb : Int)) = false := decide_eq_false (by omega)
        have g2 : decide (pw < nb) = false := decide_eq_false (by omega)
        have z0 : ((i : Int) != (i : Int)) = false := by simp
        have HDR := Lib.hid (hdr.below (Below.refl wc.heap.size wc))
        clear hnb hwh hpw hdr hdr9 HD HB0 HP
        go_wp2
        clear hpi hwp g1 g2
        go_loopw [10] (fun jv wx => ∃ j : Nat, jv = .int .i64 j ∧ j ≤ i ∧ Below wc.heap.size wc wx) (fun jv _ => i - (intOf jv).toNat)
        case atStart => exact ⟨0, rfl, Nat.zero_le _, by first | exact HDR.out | exact HDR.out.drew | exact Below.drewN HDR.out _⟩
        case round =>
          clear HDR
          obtain ⟨j, rfl, hj, hbr⟩ := hrel
          by_cases hlj : j < i
          · obtain ⟨b, o, hA, hbs, hcell⟩ := HI1.out (by rw [HNN.out]; omega)
            subst hA
            obtain ⟨b2, o2, hA2, hbs2, hcell2⟩ := HL1.out (by rw [HLL.out]; omega)
            subst hA2
            have cx := (hbr.cell (p := ⟨b, o + j, none⟩) hbs).trans (hcell j (by rw [HNN.out]; exact hlj))
            have cl := (hbr.cell (p := ⟨b2, o2 + j, none⟩) hbs2).trans (hcell2 j (by rw [HLL.out]; exact hlj))
            have HBR := Lib.hid hbr
            clear hcell hcell2 hbr
            have j0 : (0 : Int) ≤ (j : Int) := by omega
            have j1 : (j : Int) < (i : Int) := by omega
            by_cases hx0 : 0 < xs.getD j 0
            · obtain ⟨l, hl, hl1, hl2⟩ := HSM.out j hlj hx0
              have hld : L.getD j 0 = (l : Int) := by rw [List.getD_eq_getElem?_getD, hl]; rfl
              rw [hld] at cl
              clear hl hld
              generalize xs.getD j 0 = x at *
              have g1 : decide ((0 : Int) < (l : Int)) = true := decide_eq_true (by omega)
              have g1' : decide (0 < l) = true := decide_eq_true (by omega)
              have g2 : decide (0 < x) = true := decide_eq_true hx0
              have g3 : decide ((l : Int) < 0) = false := decide_eq_false (by omega)
              have g4 : decide ((most : Int) < (l : Int)) = false := decide_eq_false (by omega)
              have g4' : decide (most < l) = false := decide_eq_false (by omega)
              go_wp2
              go_quiet (fail)
              go_wp2
              go_roundw
              case rel => exact ⟨j + 1, by go_num, by omega, HBR.out.trans ((drewN_belowL wr _).mono HBR.out.size)⟩
              case measure => simp [intOf]; omega
            · have hl := HZ.out j hlj (by omega)
              have hld : L.getD j 0 = 0 := by rw [List.getD_eq_getElem?_getD, hl]; rfl
              rw [hld] at cl
              clear hl hld
              generalize xs.getD j 0 = x at *
              have g2 : decide (0 < x) = false := decide_eq_false hx0
              have g4 : decide ((most : Int) < 0) = false := decide_eq_false (by omega)
              go_wp2
              go_quiet (fail)
              go_wp2
              go_roundw
              case rel => exact ⟨j + 1, by go_num, by omega, HBR.out.trans ((drewN_belowL wr _).mono HBR.out.size)⟩
              case measure => simp [intOf]; omega
          · obtain rfl : j = i := by omega
            have HBR := Lib.hid hbr
            have HIW := Lib.hid (HIA.out wr hbr)
            have HLW := Lib.hid (HLA.out wr hbr)
            have hsz : wc.heap.size ≤ wr.heap.size := hbr.size
            clear hbr
            have hfin : ∀ w', Below wr.heap.size wr w' → Below w.heap.size w w' := fun w' hb => HB.out.trans ((HBR.out.trans (hb.mono hsz)).mono HB.out.size)
            have HFIN := Lib.hid hfin
            clear hfin
            have hcm : ∀ h2 : 2 ≤ nb, Calls Try.prog 13 #[.slice A1 L.length j] wr fun e w' => e = .returned (.bool true) ∧ wr = w' := fun h2 => (complete_any A1 j L wr HLW.out (by rw [HLL.out]; omega)).mono fun e w' hh => (⟨by rw [hh.1, HWH2.out h2], hh.2⟩ : e = .returned (.bool true) ∧ wr = w')
            have hcs := cost_any A A1 c j xs L wr HIW.out HLW.out (by rw [HNN.out]; omega) (by rw [HLL.out]; omega)
            rw [HLL.out, HNN.out, Nat.min_self] at hcs
            rw [HLL.out] at hcm
            have hls := fun (w5 : World) (hb : Below wr.heap.size wr w5) => HLE.out c w5 (HIW.out.below hb)
            generalize costTo xs L j = K at *
            have kk : (K == K) = true := by simp
            have HLS := Lib.hid hls
            have HCS := Lib.hid hcs
            have HCM := Lib.hid hcm
            clear hls hcs hcm HLE HWH HWH2
            by_cases h2 : 1 < nb
            · have g1 : decide ((1 : Int) < (nb : Int)) = true := decide_eq_true (by omega)
              have g1' : decide (1 < nb) = true := decide_eq_true h2
              by_cases h12 : 12 < j
              · have g2 : decide ((12 : Int) < (j : Int)) = true := decide_eq_true (by omega)
                have g2' : decide (12 < j) = true := decide_eq_true h12
                go_wp2_with (first
                  | (go_at_call 13; refine (HCM.out (by omega)).mono ?_; rintro e w4 ⟨rfl, rfl⟩)
                  | (go_at_call 12; refine (awake5_any _).mono ?_; rintro e w4 ⟨rfl, hb4⟩))
                go_ret
                exact ⟨rfl, HFIN.out _ hb4⟩
              · have g2 : decide ((12 : Int) < (j : Int)) = false := decide_eq_false (by omega)
                have g2' : decide (12 < j) = false := decide_eq_false h12
                go_wp2_with (first
                  | (go_at_call 13; refine (HCM.out (by omega)).mono ?_; rintro e w4 ⟨rfl, rfl⟩)
                  | (go_at_call 14; refine HCS.out.mono ?_; rintro e w4 ⟨rfl, nq, rfl⟩; have hb9 := drewN_belowL wr nq)
                  | (go_at_call 15; refine (HLS.out _ hb9).mono ?_; rintro e w5 ⟨rfl, hb5⟩; have hb8 := hb9.trans (hb5.mono hb9.size))
                  | (go_at_call 12; refine (awake5_any _).mono ?_; rintro e w4 ⟨rfl, hb4⟩))
                go_ret
                exact ⟨rfl, HFIN.out _ (hb8.trans (hb4.mono hb8.size))⟩
            · have g1 : decide ((1 : Int) < (nb : Int)) = false := decide_eq_false (by omega)
              have g1' : decide (1 < nb) = false := decide_eq_false h2
              by_cases h12 : 12 < j
              · have g2 : decide ((12 : Int) < (j : Int)) = true := decide_eq_true (by omega)
                have g2' : decide (12 < j) = true := decide_eq_true h12
                go_wp2_with (first
                  | (go_at_call 12; refine (awake5_any _).mono ?_; rintro e w4 ⟨rfl, hb4⟩))
                go_ret
                exact ⟨rfl, HFIN.out _ hb4⟩
              · have g2 : decide ((12 : Int) < (j : Int)) = false := decide_eq_false (by omega)
                have g2' : decide (12 < j) = false := decide_eq_false h12
                go_wp2_with (first
                  | (go_at_call 14; refine HCS.out.mono ?_; rintro e w4 ⟨rfl, nq, rfl⟩; have hb9 := drewN_belowL wr nq)
                  | (go_at_call 15; refine (HLS.out _ hb9).mono ?_; rintro e w5 ⟨rfl, hb5⟩; have hb8 := hb9.trans (hb5.mono hb9.size))
                  | (go_at_call 12; refine (awake5_any _).mono ?_; rintro e w4 ⟨rfl, hb4⟩))
                go_ret
                exact ⟨rfl, HFIN.out _ (hb8.trans (hb4.mono hb8.size))⟩
theorem huffLeast_walk (A : Option Addr) (c : Nat) (xs : List Int) (most : Int) (w : World) (h : Ints .i64 w A xs) (sz : xs.length ≤ 9223372036854775806) (hm : (Lit.int .i64 most).wf = true) :
    Calls Try.prog 4 #[.slice A xs.length c, .int .i64 most] w fun e w' => e = .returned (.bool true) ∧ Below w.heap.size w w' := by
  by_cases hb : most < 1 ∨ 15 < most ∨ 400 < xs.length
  · have h0 : bad0 xs most = true := by
      unfold bad0
      rcases hb with hb | hb | hb
      · rw [decide_eq_true hb]; rfl
      · rw [decide_eq_true hb]; simp
      · rw [decide_eq_true hb]; simp
    exact least_bad A c xs most w h sz hm (fun hf => by rw [h0] at hf; cases hf) (lengths_no A c xs most w h hm (by omega) hb)
  · obtain ⟨m, rfl⟩ : ∃ m : Nat, most = m := ⟨most.toNat, by omega⟩
    have hgo := lengths_go A c xs m w h (by omega) (by omega) (by omega)
    by_cases hh : okX xs ∧ (bs xs xs.length).length ≤ 2 ^ m
    · exact least_ok A c xs m w h (by omega) (by omega) hh.1 hh.2 (by omega) (hgo.mono fun e w' hp => hp.elim (fun h => h.2.2) (fun h => absurd hh h.1))
    · refine least_bad A c xs m w h sz hm (fun hf => ⟨m, rfl, by omega, by omega, ?_⟩) (hgo.mono fun e w' hp => hp.elim (fun h => absurd ⟨h.1, h.2.1⟩ hh) (fun h => h.2))
      have hx : badX xs xs.length = false := by
        cases hx : badX xs xs.length
        · rfl
        · rw [hx] at hf; simp at hf
      have hok := (badX_ok xs).1 hx
      rcases Nat.lt_or_ge (2 ^ m) (bs xs xs.length).length with h1 | h1
      · exact h1
      · exact absurd ⟨hok, h1⟩ hh
end Go.Proofs.Ytdmggpngmlhboaa
