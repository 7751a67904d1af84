/- Inflate: a stored block, by the program. -/
import Derived.Test.YtoeipgbnjcgbjaaInfD
import Derived.Test.YtoeipgbnjcgbjaaInfP
import Derived.Test.YtoeipgbnjcgbjaaBitI
namespace Go.Proofs.Ytoeipgbnjcgbjaa
open Go.RowKit
set_option linter.unusedVariables false

theorem iBytes_no (L R G most p n : Nat) (bs out : List Int) (w : World) (vo : Value) (h : InfAt L R G bs most w p vo out) (hn : n ≤ 16) (hq : 8 * bs.length < upto8 p + 8 * n) :
    Calls Try.prog 104 #[.pointer (some ⟨G, 0, none⟩), .int .i64 n] w fun e w' => e = .returned (.tuple #[.slice none 0 0, .bool false]) ∧ Chg (fun k => k = G) w w' :=
  (bBytes_no L G bs p n w h.rd h.hp h.hs hn hq).mono fun _ _ h => ⟨h.1, h.2.2⟩
theorem iBytes_yes (L R G most p n : Nat) (bs out : List Int) (w : World) (vo : Value) (h : InfAt L R G bs most w p vo out) (hn : n ≤ 16) (hn0 : 0 < n) (hq : upto8 p + 8 * n ≤ 8 * bs.length) :
    Calls Try.prog 104 #[.pointer (some ⟨G, 0, none⟩), .int .i64 n] w fun e w' => (∃ b o, e = .returned (.tuple #[.slice (some ⟨b, o, none⟩) n n, .bool true]) ∧ ∀ i, i < n → w'.cell? ⟨b, o + i, none⟩ = some (.int .u8 (bs.getD (upto8 p / 8 + i) 0))) ∧ InfAt L R G bs most w' (upto8 p + 8 * n) vo out ∧ Chg (fun k => k = G) w w' := by
  refine (bBytes_yes L G bs p n w h.rd h.hp h.hs hn hn0 hq).mono ?_
  rintro e w1 ⟨⟨A, rfl, ho⟩, hr, hc⟩
  have hu : upto8 p % 8 = 0 := by unfold upto8; omega
  have hl : ((bs.drop (upto8 p / 8)).take n).length = n := by rw [List.length_take, List.length_drop]; omega
  have hi : OwnS w1 w.heap.size 5 1 (.slice A n n) n (((bs.drop (upto8 p / 8)).take n).map (Value.int .u8)) := ho
  obtain ⟨b, o, rfl, hb, hcell⟩ := hi.ints (by rw [hl]; exact hn0)
  refine ⟨⟨b, o, rfl, fun i hi => ?_⟩, h.went hr hc hq, hc⟩
  have h1 := hcell i (by rw [hl]; exact hi)
  rw [h1]
  congr 2
  rw [List.getD_eq_getElem?_getD, List.getD_eq_getElem?_getD, List.getElem?_take, if_pos hi, List.getElem?_drop]
theorem or8 (a b : Int) (ha : 0 ≤ a ∧ a < 256) (hb : 0 ≤ b ∧ b < 256) : bits .or .i64 a (b * 256) = a + 256 * b := by
  obtain ⟨x, rfl⟩ := Int.eq_ofNat_of_zero_le ha.1
  obtain ⟨y, rfl⟩ := Int.eq_ofNat_of_zero_le hb.1
  have e := i64_or_nat x (y * 256) (by omega) (by omega)
  rw [show (y : Int) * 256 = ((y * 256 : Nat) : Int) by omega, e, Nat.or_comm, Nat.mul_comm, show 256 * y = 2 ^ 8 * y from rfl, ← Nat.two_pow_add_eq_or_of_lt (by omega : x < 2 ^ 8)]
  omega
set_option maxRecDepth 100000 in
theorem not8 (x : Int) (hx : 0 ≤ x ∧ x < 256) : bits .xor .u8 (if IntKind.u8.signed = true then -1 else IntKind.u8.max) x = 255 - x := by
  show bits .xor .u8 255 x = 255 - x
  obtain ⟨n, rfl⟩ := Int.eq_ofNat_of_zero_le hx.1
  have e := u8_xor_nat 255 n (by decide) (by omega)
  rw [show (255 : Int) = ((255 : Nat) : Int) from rfl, e]
  have h : ∀ k : Fin 256, 255 ^^^ k.val = 255 - k.val := by decide
  have := h ⟨n, by omega⟩
  simp only at this
  omega
/-- The stored block's loop. -/
def RawRel (L R G : Nat) (bs : List Int) (most : Nat) (vo : Value) (RR : Int × Nat × List Int) (n : Nat) (w : World) (k : Nat) (w' : World) : Prop :=
  ∃ p1 out1, PutA L R G bs most p1 vo out1 w w' ∧ RR = rawB bs most (n - k) p1 out1 ∧ p1 % 8 = 0
set_option maxRecDepth 100000 in
set_option maxHeartbeats 8000000 in
theorem iStored_any (L R G most p : Nat) (bs out : List Int) (w : World) (vo : Value) (h : InfAt L R G bs most w p vo out) :
    Calls Try.prog 89 #[.pointer (some ⟨R, 0, none⟩)] w (BlkPost L R G bs most vo (storedM bs most p out) w) := by
  have hu := upto8_le p
  have HH := Lib.hid h
  have c0 := h.c0
  by_cases hq : 8 * bs.length < upto8 p + 32
  · have HB := Lib.hid (iBytes_no L R G most p 4 bs out w vo h (by decide) (by omega))
    have HM := Lib.hid (show storedM bs most p out = (4, upto8 p, out) by unfold storedM; rw [if_pos hq])
    generalize storedM bs most p out = RR at *
    clear h
    go_enter Try.func89, Try.ntmps89
    go_wp2_with fail
    refine HB.out.mono ?_
    rintro e w1 ⟨rfl, hC⟩
    have HC := Lib.hid hC
    clear hC HB
    go_wp2
    go_ret
    exact blk_no HM.out (by decide) (HH.out.belowL (chgG HC.out))
  · have HB := Lib.hid (iBytes_yes L R G most p 4 bs out w vo h (by decide) (by decide) (by omega))
    have HM : Hid (storedM bs most p out = _) := Lib.hid (show storedM bs most p out = _ by unfold storedM; rw [if_neg hq])
    have hb := h.hb
    have q0 := getD_byte hb (upto8 p / 8)
    have q1 := getD_byte hb (upto8 p / 8 + 1)
    have q2 := getD_byte hb (upto8 p / 8 + 2)
    have q3 := getD_byte hb (upto8 p / 8 + 3)
    generalize storedM bs most p out = RR at *
    have hs := h.hs
    have hmo := h.hm
    clear h
    go_enter Try.func89, Try.ntmps89
    go_wp2_with fail
    refine HB.out.mono ?_
    rintro e w1 ⟨⟨b, o, rfl, hcell⟩, hI, hC⟩
    have k0 := hcell 0 (by decide)
    have k1 := hcell 1 (by decide)
    have k2 := hcell 2 (by decide)
    have k3 := hcell 3 (by decide)
    simp only [Nat.add_zero] at k0
    have HI := Lib.hid hI
    have HC := Lib.hid hC
    clear hI hC HB hcell c0
    generalize bs.getD (upto8 p / 8) 0 = x0 at *
    generalize bs.getD (upto8 p / 8 + 1) 0 = x1 at *
    generalize bs.getD (upto8 p / 8 + 2) 0 = x2 at *
    generalize bs.getD (upto8 p / 8 + 3) 0 = x3 at *
    obtain ⟨q, hq1⟩ : ∃ q, upto8 p = q := ⟨_, rfl⟩
    rw [hq1] at hq HI HM hu
    clear hq1
    have o1 := or8 x0 x1 q0 q1
    obtain ⟨nn, hnn⟩ : ∃ nn : Nat, x0 + 256 * x1 = (nn : Int) := ⟨(x0 + 256 * x1).toNat, by omega⟩
    rw [hnn] at o1
    have hn5 : nn < 65536 := by omega
    have HNN := Lib.hid hnn
    clear hnn
    have n2 := not8 x2 q2
    have n3 := not8 x3 q3
    go_wp2
    go_quiet (fail)
    clear o1
    replace HI := Lib.hid (HI.out.drewN nq)
    replace HC := Lib.hid (HC.out.drewN nq)
    replace k0 : (w1.drewN nq).cell? _ = _ := k0
    replace k1 : (w1.drewN nq).cell? _ = _ := k1
    replace k2 : (w1.drewN nq).cell? _ = _ := k2
    replace k3 : (w1.drewN nq).cell? _ = _ := k3
    generalize w1.drewN nq = w2 at *
    by_cases h0 : x0 = 255 - x2
    · have d0 : (x0 != 255 - x2) = false := by simpa using h0
      by_cases h1 : x1 = 255 - x3
      · have d1 : (x1 != 255 - x3) = false := by simpa using h1
        have HM2 : Hid (RR = rawB bs most nn (q + 32) out) := Lib.hid (by rw [HM.out, if_pos ⟨h0, h1⟩, HNN.out, Int.toNat_natCast])
        clear HM h0 h1
        go_wp2
        go_quiet (fail)
        replace HI := Lib.hid (HI.out.drewN nq)
        replace HC := Lib.hid (HC.out.drewN nq)
        clear d0 d1 n2 n3 k0 k1 k2 k3
        generalize w2.drewN nq = w3 at *
        have HR0 : Hid (RawRel L R G bs most vo RR nn w 0 w3) := Lib.hid ⟨q + 32, out, ⟨vo, HI.out, chgG HC.out, .inl rfl⟩, HM2.out, by omega⟩
        clear HM2
        go_wp2
        go_loopw [48] (fun i wr => ∃ k : Nat, i = .int .i64 k ∧ k ≤ nn ∧ RawRel L R G bs most vo RR nn w k wr) (fun i _ => nn - (intOf i).toNat)
        case atStart => exact ⟨0, rfl, by omega, HR0.out⟩
        case round =>
          clear HR0
          obtain ⟨k, rfl, hk, p1, out1, ⟨vo1, hI4, hC4, hF4⟩, hrr, h8⟩ := hrel
          have HI4 := Lib.hid hI4
          have HC4 := Lib.hid hC4
          have HF4 := Lib.hid hF4
          by_cases hlt : k < nn
          · have d4 : decide ((k : Int) < (nn : Int)) = true := decide_eq_true (by omega)
            have HRR := Lib.hid (hrr.trans (by rw [show nn - k = (nn - (k + 1)) + 1 by omega, rawB] : _ = if 8 * bs.length < p1 + 8 then (4, p1, out1) else if most ≤ out1.length then (5, p1, out1) else rawB bs most (nn - (k + 1)) (p1 + 8) (out1 ++ [bs.getD (p1 / 8) 0])))
            have hu1 : upto8 p1 = p1 := by unfold upto8; omega
            have j0 := hI4.c0
            by_cases hq1 : 8 * bs.length < p1 + 8
            · have HB := Lib.hid (iBytes_no L R G most p1 1 bs out1 wr vo1 hI4 (by decide) (by omega))
              have HRR2 := Lib.hid (HRR.out.trans (if_pos hq1))
              clear hI4 hC4 hF4 hrr
              go_wp2_with fail
              refine HB.out.mono ?_
              rintro e w5 ⟨rfl, hC5⟩
              have HC5 := Lib.hid (FiP.trans HC4.out (chgG (R := R) (vo := vo1) hC5) HF4.out)
              clear hC5 HB
              go_wp2
              go_ret
              exact blk_no HRR2.out (by decide) (HH.out.belowL HC5.out)
            · have HB := Lib.hid (iBytes_yes L R G most p1 1 bs out1 wr vo1 hI4 (by decide) (by decide) (by omega))
              have HRR2 := Lib.hid (HRR.out.trans (if_neg hq1))
              have hx := getD_byte hI4.hb (p1 / 8)
              rw [hu1] at HB
              clear hI4 hC4 hF4 hrr HRR
              go_wp2_with fail
              refine HB.out.mono ?_
              rintro e w5 ⟨⟨b5, o5, rfl, hcell⟩, hI5, hC5⟩
              have kx := hcell 0 (by decide)
              simp only [Nat.add_zero] at kx
              have HC5 := Lib.hid (FiP.trans HC4.out (chgG (R := R) (vo := vo1) hC5) HF4.out)
              have HF5 := Lib.hid HF4.out
              have HI5 := Lib.hid hI5
              clear hC5 HB hI5 hcell j0
              generalize bs.getD (p1 / 8) 0 = x at *
              have HP := Lib.hid (iPut_any L R G most (p1 + 8) bs out1 w5 vo1 x HI5.out hx)
              go_wp2_with fail
              refine HP.out.mono ?_
              rintro e w6 ⟨rfl, hP6⟩
              have HP6 := Lib.hid (PutA.trans HC5.out HF5.out hP6)
              clear hP6 kx HP
              by_cases hm : most ≤ out1.length
              · have e7 : putM most out1 x = (5, out1) := by unfold putM; rw [if_pos hm]
                have HM3 := Lib.hid (HRR2.out.trans (if_pos hm))
                rw [e7] at HP6 ⊢
                clear e7
                go_wp2
                go_ret
                exact blk_no HM3.out (by decide) (by obtain ⟨_, _, hC, _⟩ := HP6.out; exact HH.out.belowL hC)
              · have e7 : putM most out1 x = (0, out1 ++ [x]) := by unfold putM; rw [if_neg hm]
                have HM3 := Lib.hid (HRR2.out.trans (if_neg hm))
                rw [e7] at HP6 ⊢
                clear e7
                go_wp2
                go_roundw
                case rel => exact ⟨k + 1, by go_num, by omega, p1 + 8, _, HP6.out, HM3.out, by omega⟩
                case measure => simp [intOf]; omega
          · have d4 : decide ((k : Int) < (nn : Int)) = false := decide_eq_false (by omega)
            have HRR := Lib.hid (hrr.trans (by rw [show nn - k = 0 by omega]; rfl : _ = ((0 : Int), p1, out1)))
            clear hI4 hC4 hF4 hrr
            go_wp2
            go_ret
            exact blk_ok HRR.out (HH.out.belowL HC4.out) ⟨vo1, HI4.out, HC4.out, HF4.out⟩
      · have d1 : (x1 != 255 - x3) = true := by simpa using h1
        have HM2 : Hid (RR = (3, q, out)) := Lib.hid (by rw [HM.out, if_neg (fun h => h1 h.2)])
        clear HM h0 h1
        go_wp2
        go_quiet (fail)
        go_wp2
        go_ret
        exact blk_no HM2.out (by decide) (HH.out.belowL ((chgG HC.out).drewN nq))
    · have d0 : (x0 != 255 - x2) = true := by simpa using h0
      have HM2 : Hid (RR = (3, q, out)) := Lib.hid (by rw [HM.out, if_neg (fun h => h0 h.1)])
      clear HM h0
      go_wp2
      go_quiet (fail)
      go_wp2
      go_ret
      exact blk_no HM2.out (by decide) (HH.out.belowL ((chgG HC.out).drewN nq))
end Go.Proofs.Ytoeipgbnjcgbjaa
