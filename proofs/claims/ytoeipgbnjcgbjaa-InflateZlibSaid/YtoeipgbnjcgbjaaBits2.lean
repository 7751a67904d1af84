/- Walks: Take, Used, Read of package bits. -/
import Derived.Test.YtoeipgbnjcgbjaaBits1
namespace Go.Proofs.Ytoeipgbnjcgbjaa
open Go.RowKit
set_option linter.unusedVariables false

theorem take_piece (v x : Int) (r kk j : Nat) (hv : 0 ≤ v ∧ v < 2 ^ j) (hx : 0 ≤ x ∧ x < 256) (h8 : kk ≤ 8) (h32 : j + kk ≤ 32) :
    bits .or .u32 v (bits .and .u32 (x / 2 ^ r) ((2 ^ kk - 1) % 4294967296) * 2 ^ j % 4294967296) = v + x / 2 ^ r % 2 ^ kk * 2 ^ j := by
  obtain ⟨vn, rfl⟩ := Int.eq_ofNat_of_zero_le hv.1
  obtain ⟨xn, rfl⟩ := Int.eq_ofNat_of_zero_le hx.1
  rw [two_pow_cast] at hv
  rw [two_pow_cast, two_pow_cast, two_pow_cast]
  have hk : 2 ^ kk ≤ 2 ^ 8 := Nat.pow_le_pow_right (by decide) h8
  have hk0 : 0 < 2 ^ kk := Nat.two_pow_pos kk
  have e1 : (((2 ^ kk : Nat) : Int) - 1) % 4294967296 = ((2 ^ kk - 1 : Nat) : Int) := by omega
  have e2 : ((xn : Int) / ((2 ^ r : Nat) : Int)) = ((xn / 2 ^ r : Nat) : Int) := by exact_mod_cast rfl
  have hle : xn / 2 ^ r ≤ xn := Nat.div_le_self _ _
  rw [e1, e2, u32_and_nat _ _ (by omega) (by omega), Nat.and_two_pow_sub_one_eq_mod]
  have hm : xn / 2 ^ r % 2 ^ kk < 2 ^ kk := Nat.mod_lt _ hk0
  have hj : xn / 2 ^ r % 2 ^ kk * 2 ^ j < 2 ^ kk * 2 ^ j := Nat.mul_lt_mul_of_pos_right hm (Nat.two_pow_pos j)
  have h32' : 2 ^ kk * 2 ^ j ≤ 2 ^ 32 := by rw [← Nat.pow_add]; exact Nat.pow_le_pow_right (by decide) (by omega)
  have e3 : ((xn / 2 ^ r % 2 ^ kk : Nat) : Int) * ((2 ^ j : Nat) : Int) % 4294967296 = ((xn / 2 ^ r % 2 ^ kk * 2 ^ j : Nat) : Int) := by
    rw [← Int.natCast_mul]; omega
  have e4 : ((xn / 2 ^ r : Nat) : Int) % ((2 ^ kk : Nat) : Int) = ((xn / 2 ^ r % 2 ^ kk : Nat) : Int) := by exact_mod_cast rfl
  have hvj : 2 ^ j ≤ 2 ^ 32 := Nat.pow_le_pow_right (by decide) (by omega)
  rw [e3, u32_or_nat _ _ (by omega) (by omega), e4, ← Int.natCast_mul, ← Int.natCast_add]
  congr 1
  rw [Nat.or_comm, Nat.mul_comm, ← Nat.two_pow_add_eq_or_of_lt (by omega)]
  omega

theorem one_piece (x : Int) (r : Nat) (hx : 0 ≤ x ∧ x < 256) : bits .and .u32 (x / 2 ^ r % 4294967296) 1 = x / 2 ^ r % 2 := by
  obtain ⟨xn, rfl⟩ := Int.eq_ofNat_of_zero_le hx.1
  rw [two_pow_cast]
  have e2 : ((xn : Int) / ((2 ^ r : Nat) : Int)) = ((xn / 2 ^ r : Nat) : Int) := by exact_mod_cast rfl
  have hle : xn / 2 ^ r ≤ xn := Nat.div_le_self _ _
  rw [e2]
  generalize xn / 2 ^ r = y at *
  have e3 : (y : Int) % 4294967296 = (y : Int) := by omega
  have := u32_and_nat y 1 (by omega) (by decide)
  rw [nat_mask1] at this
  rw [e3]
  exact this
set_option maxRecDepth 100000 in
set_option maxHeartbeats 4000000 in
theorem take_yes (L g : Nat) (bs : List Int) (p n : Nat) (w : World) (h : RdRep 130 L g w bs p) (hb : Bytes bs) (hn : n ≤ 32) (hp : p + n ≤ 8 * bs.length) (hsz : bs.length ≤ 140737488351300) :
    Calls Try.prog 88 #[.pointer (some ⟨g, 0, none⟩), .int .i64 n] w fun e w' => e = .returned (.tuple #[.int .u32 (takeN bs p n), .bool true]) ∧ RdRep 130 L g w' bs (p + n) ∧ Chg (fun k => k = g) w w' := by
  obtain ⟨A, c, c0, hI, hA⟩ := h.c0
  have c1 := h.c1
  have q1 : IntKind.i64.wrap (8 * (bs.length : Int)) = 8 * (bs.length : Int) := IntWalk.i64_in _ (by omega)
  have q2 : IntKind.i64.wrap (8 * (bs.length : Int) - p) = 8 * (bs.length : Int) - p := IntWalk.i64_in _ (by omega)
  have d0 : decide ((n : Int) < 0) = false := by simp
  have d1 : decide ((32 : Int) < n) = false := by simp; omega
  have d2 : decide (8 * (bs.length : Int) - p < n) = false := by simp; omega
  go_enter Try.func88, Try.ntmps88
  go_wp2
  go_quiet (fail)
  go_wp2
  go_loopw [6, 7] (fun v i wr => ∃ j : Nat, j ≤ n ∧ i = .int .i64 j ∧ v = .int .u32 (takeN bs p j) ∧ RdRep 130 L g wr bs (p + j) ∧ Chg (fun k => k = g) w wr) (fun _ i _ => n - (intOf i).toNat)
  case atStart => exact ⟨0, by omega, rfl, rfl, h.drewN _, (Chg.refl _ _).drewN _⟩
  case round =>
    clear c0 c1 hI hA h d0 d1 d2
    obtain ⟨j, hj, rfl, rfl, hR, hC⟩ := hrel
    by_cases hlt : j < n
    · have HM := takeN_more bs hb p j
      obtain ⟨q, hq⟩ : ∃ q, q = p + j := ⟨_, rfl⟩
      rw [← hq] at hR HM
      have hq8 : q < 8 * bs.length := by omega
      obtain ⟨A, c, c0, hI, hA⟩ := hR.c0
      have c1 := hR.c1
      have f1 := hR.frozen 1
      have hv := takeN_le bs p j
      generalize takeN bs p j = v at *
      have HQ := Lib.hid hq
      clear hq
      obtain ⟨kk, hkk⟩ : ∃ kk : Nat, kk = min (8 - q % 8) (n - j) := ⟨_, rfl⟩
      have hk1 : 1 ≤ kk := by omega
      have hk2 : kk ≤ 8 - q % 8 := by omega
      have hk3 : kk ≤ n - j := by omega
      have HK := Lib.hid hkk
      clear hkk
      go_upto_region 6 with (fail)
      go_cut [8] (fun v8 wx => v8 = .int .i64 (kk : Int) ∧ wx = wr)
      case first =>
        go_wp2
        all_goals
          go_meet
          have := HK.out
          refine ⟨?_, rfl⟩
          congr 1
          omega
      case rest =>
        obtain ⟨rfl, rfl⟩ := hcut
        obtain ⟨b, o, rfl, hbl, hcell⟩ := hI (by omega)
        obtain ⟨r, hr⟩ : ∃ r, r = q % 8 := ⟨_, rfl⟩
        obtain ⟨d, hd⟩ : ∃ d, d = q / 8 := ⟨_, rfl⟩
        rw [← hr, ← hd] at HM
        have hdl : d < bs.length := by omega
        have c2 := hcell d hdl
        have hx := hb.at_ d hdl
        generalize bs.getD d 0 = x at *
        have hdI : (d : Int) < bs.length := by omega
        have hr8 : r < 8 := by omega
        have e1 : IntKind.i64.wrap ((q : Int) / 8) = (d : Int) := by
          rw [show (q : Int) / 8 = d by omega]
          exact IntWalk.i64_in _ (by omega)
        have e2 : (q : Int) % 8 = (r : Int) := by omega
        have HQR := Lib.hid hr
        have HQD := Lib.hid hd
        clear hr hd hcell
        go_wp2
        go_quiet (fail)
        go_wp2
        go_roundw
        case rel =>
          have hm := HM kk (by have := HQR.out; have := HQD.out; omega) hdl
          refine ⟨j + kk, by omega, by go_num, ?_, ?_, ((hC.drewN nq).setCell (.inl rfl) _)⟩
          · rw [hm, take_piece v x r kk j hv hx (by omega) (by omega)]
          · have hs := (hR.drewN nq).set (q + kk)
            have hq := HQ.out
            rw [show p + (j + kk) = q + kk by omega]
            exact hs
        case measure => simp [intOf]; omega
    · obtain rfl : j = n := by omega
      go_wp2
      go_ret2
      exact ⟨rfl, hR, hC⟩

set_option maxRecDepth 100000 in
set_option maxHeartbeats 1000000 in
theorem take_no (L g : Nat) (bs : List Int) (p n : Nat) (w : World) (h : RdRep 130 L g w bs p) (hn : n ≤ 32) (hp0 : p ≤ 8 * bs.length) (hp : 8 * bs.length < p + n) (hsz : bs.length ≤ 140737488351300) :
    Calls Try.prog 88 #[.pointer (some ⟨g, 0, none⟩), .int .i64 n] w fun e w' => e = .returned (.tuple #[.int .u32 0, .bool false]) ∧ ∃ m, w' = w.drewN m := by
  obtain ⟨A, c, c0, hI, hA⟩ := h.c0
  have c1 := h.c1
  have q1 : IntKind.i64.wrap (8 * (bs.length : Int)) = 8 * (bs.length : Int) := IntWalk.i64_in _ (by omega)
  have q2 : IntKind.i64.wrap (8 * (bs.length : Int) - p) = 8 * (bs.length : Int) - p := IntWalk.i64_in _ (by omega)
  have d0 : decide ((n : Int) < 0) = false := by simp
  have d1 : decide ((32 : Int) < n) = false := by simp; omega
  have d2 : decide (8 * (bs.length : Int) - p < n) = true := by simp; omega
  go_enter Try.func88, Try.ntmps88
  go_wp2
  go_quiet (fail)
  go_wp2
  go_ret2
  exact ⟨rfl, nq, rfl⟩

set_option maxRecDepth 100000 in
theorem used_any (L g : Nat) (bs : List Int) (p : Nat) (w : World) (h : RdRep 130 L g w bs p) (hp0 : p ≤ 8 * bs.length) (hsz : bs.length ≤ 140737488351300) :
    Calls Try.prog 72 #[.pointer (some ⟨g, 0, none⟩)] w fun e w' => e = .returned (.int .i64 ((p + 7) / 8 : Nat)) ∧ w = w' := by
  have c1 := h.c1
  go_enter Try.func72, Try.ntmps72
  go_wp2
  go_ret
  exact ⟨by congr 1, rfl⟩
set_option maxRecDepth 100000 in
theorem usedR_any (L g : Nat) (bs : List Int) (p : Nat) (w : World) (h : RdRep 117 L g w bs p) (hp0 : p ≤ 8 * bs.length) (hsz : bs.length ≤ 140737488351300) :
    Calls Try.prog 79 #[.pointer (some ⟨g, 0, none⟩)] w fun e w' => e = .returned (.int .i64 ((p + 7) / 8 : Nat)) ∧ w = w' := by
  have c1 := h.c1
  go_enter Try.func79, Try.ntmps79
  go_wp2
  go_ret
  exact ⟨by congr 1, rfl⟩
set_option maxRecDepth 100000 in
set_option maxHeartbeats 1000000 in
theorem left_any (L g : Nat) (bs : List Int) (p : Nat) (w : World) (h : RdRep 117 L g w bs p) (hp0 : p ≤ 8 * bs.length) (hsz : bs.length ≤ 140737488351300) :
    Calls Try.prog 111 #[.pointer (some ⟨g, 0, none⟩)] w fun e w' => e = .returned (.int .i64 (8 * (bs.length : Int) - p)) ∧ ∃ m, w' = w.drewN m := by
  obtain ⟨A, c, c0, hI, hA⟩ := h.c0
  have c1 := h.c1
  have q1 : IntKind.i64.wrap (8 * (bs.length : Int)) = 8 * (bs.length : Int) := IntWalk.i64_in _ (by omega)
  have q2 : IntKind.i64.wrap (8 * (bs.length : Int) - p) = 8 * (bs.length : Int) - p := IntWalk.i64_in _ (by omega)
  go_enter Try.func111, Try.ntmps111
  go_wp2
  go_quiet (fail)
  go_wp2
  go_ret
  exact ⟨rfl, nq, rfl⟩
set_option maxRecDepth 100000 in
set_option maxHeartbeats 1000000 in
theorem one_any (L g : Nat) (bs : List Int) (p : Nat) (w : World) (h : RdRep 117 L g w bs p) (hb : Bytes bs) (hp0 : p < 8 * bs.length) (hsz : bs.length ≤ 140737488351300) :
    Calls Try.prog 112 #[.pointer (some ⟨g, 0, none⟩)] w fun e w' => e = .returned (.int .u32 (bitAt bs p)) ∧ RdRep 117 L g w' bs (p + 1) ∧ Chg (fun k => k = g) w w' := by
  obtain ⟨A, c, c0, hI, hA⟩ := h.c0
  have c1 := h.c1
  have f1 := h.frozen 1
  obtain ⟨b, o, rfl, hbl, hcell⟩ := hI (by omega)
  have HB : Hid (bitAt bs p = bs.getD (p / 8) 0 / 2 ^ (p % 8) % 2) := rfl
  obtain ⟨r, hr⟩ : ∃ r, r = p % 8 := ⟨_, rfl⟩
  obtain ⟨d, hd⟩ : ∃ d, d = p / 8 := ⟨_, rfl⟩
  rw [← hr, ← hd] at HB
  have hdl : d < bs.length := by omega
  have c2 := hcell d hdl
  have hx := hb.at_ d hdl
  generalize bs.getD d 0 = x at *
  have hdI : (d : Int) < bs.length := by omega
  have hr8 : r < 8 := by omega
  have e1 : IntKind.i64.wrap ((p : Int) / 8) = (d : Int) := by
    rw [show (p : Int) / 8 = d by omega]
    exact IntWalk.i64_in _ (by omega)
  have e2 : (p : Int) % 8 = (r : Int) := by omega
  clear hr hd hcell
  go_enter Try.func112, Try.ntmps112
  go_wp2
  go_quiet (fail)
  go_wp2
  go_ret
  exact ⟨by rw [HB.out, ← one_piece x r hx]; rfl, (h.drewN nq).set (p + 1), ((Chg.refl (fun k => k = g) w).drewN nq).setCell (.inl rfl) _⟩
end Go.Proofs.Ytoeipgbnjcgbjaa
