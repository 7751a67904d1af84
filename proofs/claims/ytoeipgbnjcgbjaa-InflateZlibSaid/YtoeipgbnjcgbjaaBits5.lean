/- The walk of the document's Read. -/
import Derived.Test.YtoeipgbnjcgbjaaBits4
namespace Go.Proofs.Ytoeipgbnjcgbjaa
open Go.RowKit
set_option linter.unusedVariables false

theorem hit_step (xs : List Int) (n : Nat) (v : Int) (k : Nat) (h : hit xs n v k = none) (hne : ¬ (xs.getD k 0 = (n : Int) ∧ 0 < n ∧ (codesL xs).getD k 0 = v)) : hit xs n v (k + 1) = none := by
  rw [hit, h]; simp only; rw [if_neg hne]
theorem hit_here (xs : List Int) (n : Nat) (v : Int) (k : Nat) (h : hit xs n v k = none) (he : xs.getD k 0 = (n : Int) ∧ 0 < n ∧ (codesL xs).getD k 0 = v) : ∀ m, k < m → hit xs n v m = some k := by
  intro m
  induction m with
  | zero => intro h; omega
  | succ m ih =>
    intro hm
    by_cases e : k = m
    · subst e; rw [hit, h]; simp only; rw [if_pos he]
    · rw [hit, ih (by omega)]

set_option maxRecDepth 100000 in
set_option maxHeartbeats 8000000 in
theorem refRead_any (L gr : Nat) (A : Option Addr) (c : Nat) (xs bs : List Int) (p : Nat) (w : World) (hI : Ints .i64 w A xs) (hA : 0 < xs.length → ∀ b o, A = some ⟨b, o, none⟩ → b ≠ gr) (hr : RdRep 117 L gr w bs p) (hb : Bytes bs)
    (hcb : cntB xs = true) (hcn : cntN xs ≤ 32768) (hall : ∀ i, i < xs.length → 0 ≤ xs.getD i 0 ∧ xs.getD i 0 ≤ 15) (hn : xs.length ≤ 400) (hp : p ≤ 8 * bs.length) (hsz : bs.length ≤ 140737488351300) :
    Calls Try.prog 113 #[.slice A xs.length c, .pointer (some ⟨gr, 0, none⟩)] w (ReadPost 117 L xs bs gr p w) := by
  have hblk := hr.blk
  go_enter Try.func113, Try.ntmps113
  go_wp2_with fail
  refine (codesR_ok A c xs w hI hcb hn hcn).mono ?_
  rintro e w1 ⟨rfl, hrow, hbel⟩
  go_wp2
  go_loopw [9, 10] (fun u9 u10 wr => ∃ (n q : Nat) (v : Int), n ≤ 15 ∧ u10 = .int .i64 n ∧ u9 = .int .u32 v ∧ 0 ≤ v ∧ v < 2 ^ n ∧ q ≤ 8 * bs.length ∧ Hid (rd xs bs 15 0 p = rd xs bs (15 - n) v q) ∧ RdRep 117 L gr wr bs q ∧ Chg (fun k => k = gr) w1 wr) (fun _ i _ => 16 - (intOf i).toNat)
  case atStart => exact ⟨0, p, 0, by omega, rfl, rfl, by omega, by decide, hp, rfl, hr.below hbel, Chg.refl _ _⟩
  case round =>
    obtain ⟨n, q, v, hn15, rfl, rfl, hv0, hv1, hq, HR, hrr, hch⟩ := hrel
    have hv32 : v < 32768 := Int.lt_of_lt_of_le hv1 (by rw [two_pow_cast]; have := Nat.pow_le_pow_right (n := 2) (by decide) hn15; omega)
    have hn16 : (n : Int) ≤ 15 := by omega
    go_wp2
    obtain ⟨wo, rfl⟩ : ∃ wo : World, wo = wr := ⟨_, rfl⟩
    go_loopw [8, 11] (fun u8 u11 wi => ∃ k : Nat, k ≤ xs.length ∧ u11 = .int .i64 k ∧ u8 = .bool (someB xs n v k) ∧ Hid (hit xs n v k = none) ∧ Drawn wo wi) (fun _ i _ => xs.length - (intOf i).toNat)
    case atStart => exact ⟨0, by omega, rfl, rfl, rfl, Drawn.refl _⟩
    case round =>
      obtain ⟨k, hk, rfl, rfl, HN, hD⟩ := hrel
      by_cases hlt : k < xs.length
      · have hxk := hall k hlt
        obtain ⟨b, o, rfl, hbs, hcell⟩ := hI (by omega)
        have hbg : b ≠ gr := hA (by omega) b o rfl
        have hck := (hD.cell ⟨b, o + k, none⟩).trans ((World.cell?_of_block (hch.block b (Nat.lt_of_lt_of_le hbs hbel.size) hbg)).trans ((hbel.cell (p := ⟨b, o + k, none⟩) hbs).trans (hcell k hlt)))
        have hcv := (hD.cell ⟨w.heap.size, k, none⟩).trans ((World.cell?_of_block (hch.block w.heap.size (RowI.base hrow).2 (by omega))).trans (RowI.cell hrow hlt))
        have HS := fun s => hit_step xs n v k HN.out s
        have HH := fun s => hit_here xs n v k HN.out s xs.length hlt
        have HB : Hid (someB xs n v (k + 1) = (someB xs n v k || decide ((n : Int) < xs.getD k 0 ∧ (codesL xs).getD k 0 / 2 ^ (xs.getD k 0 - n).toNat = v))) := rfl
        clear hcell hI hA
        generalize xs.getD k 0 = x at *
        generalize (codesL xs).getD k 0 = cv at *
        by_cases hhit : x = (n : Int) ∧ 0 < n ∧ cv = v
        · have HD := Lib.hid (rd_hit xs bs n v q k hn15 (HH hhit))
          obtain ⟨h1, h2, h3⟩ := hhit
          have t1 : (x == (n : Int)) = true := by simpa using h1
          have t2 : (0 : Int) < n := by omega
          have t3 : (cv == v) = true := by simpa using h3
          clear HS HH h1 h3 HB
          go_wp2
          go_ret2
          obtain ⟨m, rfl⟩ := hD
          exact readPost_mk (HR.out.trans HD.out) rfl (hrr.drewN m) (((Chg.of_below (S := fun k => k = gr) hbel).trans hch (fun _ _ h => h)).drewN m)
        · have HN' := Lib.hid (HS hhit)
          have ways : ((x == (n : Int)) = false) ∨ ((x == (n : Int)) = true ∧ ¬ (0 : Int) < n) ∨ ((x == (n : Int)) = true ∧ (0 : Int) < n ∧ (cv == v) = false) := by
            by_cases a : x = n
            · by_cases b : 0 < n
              · exact .inr (.inr ⟨by simpa using a, by omega, by simp; exact fun h => hhit ⟨a, b, h⟩⟩)
              · exact .inr (.inl ⟨by simpa using a, by omega⟩)
            · exact .inl (by simpa using a)
          by_cases hgt : (n : Int) < x
          · have ways : (x == (n : Int)) = false := by simp; omega
            obtain ⟨dx, hdx⟩ := Int.eq_ofNat_of_zero_le (show 0 ≤ x - n by omega)
            rw [hdx, Int.toNat_natCast] at HB
            have t5 : IntKind.i64.wrap (x - n) = (dx : Int) := by rw [hdx]; exact IntWalk.i64_in _ (by omega)
            have t9 : min dx 32 = dx := by omega
            clear HS HH hhit hdx
            generalize hsb : someB xs n v k = sb at *
            clear hsb
            cases sb with
            | true =>
              have HE : Hid (someB xs n v (k + 1) = true) := by show _ = _; rw [HB.out]; rfl
              go_wp2
              go_quiet (fail)
              go_wp2
              go_roundw
              case rel => exact ⟨k + 1, by omega, by go_num, by rw [HE.out], HN', hD.more nq⟩
              case measure => simp [intOf]; omega
            | false =>
              by_cases heq : cv / 2 ^ dx = v
              · have t6 : (cv / 2 ^ dx == v) = true := by simpa using heq
                have HE : Hid (someB xs n v (k + 1) = true) := by show _ = _; rw [HB.out]; simp [hgt, heq]
                clear HB heq
                go_wp2
                go_quiet (fail)
                go_wp2
                go_roundw
                case rel => exact ⟨k + 1, by omega, by go_num, by rw [HE.out], HN', hD.more nq⟩
                case measure => simp [intOf]; omega
              · have t6 : (cv / 2 ^ dx == v) = false := by simpa using heq
                have HE : Hid (someB xs n v (k + 1) = false) := by show _ = _; rw [HB.out]; simp [heq]
                clear HB heq
                go_wp2
                go_quiet (fail)
                go_wp2
                go_roundw
                case rel => exact ⟨k + 1, by omega, by go_num, by rw [HE.out], HN', hD.more nq⟩
                case measure => simp [intOf]; omega
          · have HE : Hid (someB xs n v (k + 1) = someB xs n v k) := by show _ = _; rw [HB.out]; simp [hgt]
            clear HS HH hhit HB
            have t7 : decide ((n : Int) < x) = false := by simpa using hgt
            generalize hsb : someB xs n v k = sb at *
            clear hsb
            rcases ways with t1 | ⟨t1, t2⟩ | ⟨t1, t2, t3⟩
            all_goals
              cases sb
              all_goals
                go_wp2
                go_quiet (fail)
                go_wp2
                go_roundw
                case rel => exact ⟨k + 1, by omega, by go_num, by rw [HE.out], HN', hD.more nq⟩
                case measure => simp [intOf]; omega
      · obtain rfl : k = xs.length := by omega
        obtain ⟨m, rfl⟩ := hD
        have hno := HN.out
        generalize hsb : someB xs n v xs.length = sb at *
        cases sb with
        | false =>
          have HD := Lib.hid (rd_form xs bs n v q hn15 hno (.inr hsb))
          clear hno hsb
          go_wp2
          go_ret2
          exact readPost_mk (HR.out.trans HD.out) rfl (hrr.drewN m) (((Chg.of_below (S := fun k => k = gr) hbel).trans hch (fun _ _ h => h)).drewN m)
        | true =>
          have hn14 : n < 15 := by
            rcases Nat.lt_or_ge n 15 with h | h
            · exact h
            · obtain rfl : n = 15 := by omega
              rw [someB_15 xs v xs.length (fun i hi => (hall i hi).2)] at hsb
              cases hsb
          have hl := left_any L gr bs q (wo.drewN m) (hrr.drewN m) hq hsz
          by_cases hq8 : q < 8 * bs.length
          · have HD := Lib.hid (rd_next xs bs n v q (by omega) hno hsb hq8)
            have t8 : ((8 * (bs.length : Int) - q) == 0) = false := by simp; omega
            have hone := fun m => one_any L gr bs q (wo.drewN m) (hrr.drewN m) hb hq8 hsz
            have hbit := bitAt_le bs q
            have HV := Lib.hid (shl_or v (bitAt bs q) ⟨hv0, hv32⟩ hbit)
            clear hno hsb
            generalize bitAt bs q = bit at *
            go_wp2_with fail
            refine hl.mono ?_
            rintro e w2 ⟨rfl, m2, rfl⟩
            rw [World.drewN_drewN]
            go_wp2_with fail
            refine (hone _).mono ?_
            rintro e w3 ⟨rfl, hr3, hc3⟩
            have hch3 := (hch.drewN (m + m2)).trans hc3 (fun _ _ h => h)
            have hb2 : v * 2 % 4294967296 = v * 2 := by omega
            go_wp2
            go_roundw
            case rel =>
              refine ⟨n + 1, q + 1, 2 * v + bit, by omega, by go_num, ?_, by omega, ?_, by omega, ?_, hr3, hch3⟩
              · rw [← HV.out, hb2]
              · rw [Int.pow_succ]; omega
              · exact HR.out.trans HD.out
            case measure => simp [intOf]; omega
          · have HD := Lib.hid (rd_torn xs bs n v q (by omega) hno hsb (by omega))
            have t8 : ((8 * (bs.length : Int) - q) == 0) = true := by simp; omega
            clear hno hsb
            go_wp2_with fail
            refine hl.mono ?_
            rintro e w2 ⟨rfl, m2, rfl⟩
            rw [World.drewN_drewN]
            go_wp2
            go_ret2
            exact readPost_mk (HR.out.trans HD.out) rfl (hrr.drewN (m + m2)) (((Chg.of_below (S := fun k => k = gr) hbel).trans hch (fun _ _ h => h)).drewN (m + m2))
end Go.Proofs.Ytoeipgbnjcgbjaa
