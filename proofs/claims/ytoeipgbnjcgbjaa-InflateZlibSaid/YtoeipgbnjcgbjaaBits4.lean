/- The walk of (*huff.Code).Read. -/
import Derived.Test.YtoeipgbnjcgbjaaBits3
namespace Go.Proofs.Ytoeipgbnjcgbjaa
open Go.RowKit
set_option linter.unusedVariables false

theorem shl_or (v b : Int) (hv : 0 ≤ v ∧ v < 32768) (hb : 0 ≤ b ∧ b ≤ 1) : bits .or .u32 (v * 2 % 4294967296) b = 2 * v + b := by
  obtain ⟨n, rfl⟩ := Int.eq_ofNat_of_zero_le hv.1
  obtain ⟨m, rfl⟩ := Int.eq_ofNat_of_zero_le hb.1
  have e : ((n : Int) * 2 % 4294967296) = ((2 ^ 1 * n : Nat) : Int) := by omega
  rw [e, u32_or_nat _ _ (by omega) (by omega), ← Nat.two_pow_add_eq_or_of_lt (by omega : m < 2 ^ 1)]
  omega
/-- What a reading leaves. -/
def ReadPost (t : TypeId) (L : Nat) (xs bs : List Int) (gr p : Nat) (w : World) (e : Ending) (w' : World) : Prop :=
  e = .returned (.tuple #[.int .i64 (rd xs bs 15 0 p).1, .int .i64 (rd xs bs 15 0 p).2.1]) ∧ RdRep t L gr w' bs (rd xs bs 15 0 p).2.2 ∧ Chg (fun k => k = gr) w w'
theorem readPost_mk {t : TypeId} {L : Nat} {xs bs : List Int} {gr p : Nat} {w w' : World} {a b : Int} {q : Nat} (h : rd xs bs 15 0 p = (a, b, q)) {e : Ending} (he : e = .returned (.tuple #[.int .i64 a, .int .i64 b])) (hr : RdRep t L gr w' bs q) (hc : Chg (fun k => k = gr) w w') : ReadPost t L xs bs gr p w e w' := by
  unfold ReadPost
  rw [h]
  exact ⟨he, hr, hc⟩

set_option maxRecDepth 100000 in
set_option maxHeartbeats 8000000 in
theorem codeRead_any (H g L gr : Nat) (xs bs : List Int) (p : Nat) (w : World) (h : CodeF H g w (firstAt xs xs.length) (symsAt xs xs.length) (deepAt xs xs.length)) (hr : RdRep 130 L gr w bs p) (hH : gr < g ∨ H ≤ gr) (hb : Bytes bs)
    (hall : ∀ i, i < xs.length → 0 ≤ xs.getD i 0 ∧ xs.getD i 0 ≤ 15) (hn : xs.length ≤ 400) (hp : p ≤ 8 * bs.length) (hsz : bs.length ≤ 140737488351300) :
    Calls Try.prog 121 #[.pointer (some ⟨g, 0, none⟩), .pointer (some ⟨gr, 0, none⟩)] w (ReadPost 130 L xs bs gr p w) := by
  have hblk := hr.blk
  have hfA : ∀ i, i < 16 → 0 ≤ firstAt xs xs.length i ∧ firstAt xs xs.length i ≤ 13107200 := fun i hi => firstAt_le xs hn i (by omega) xs.length (Nat.le_refl _)
  have hsA : ∀ i, i < 16 → (symsAt xs xs.length i).length ≤ 400 := fun i hi => Nat.le_trans (symsAt_len xs xs.length i) hn
  have hdA := deepAt_le xs (fun i hi => (hall i hi).2) xs.length (Nat.le_refl _)
  go_enter Try.func121, Try.ntmps121
  go_wp2
  go_loopw [6, 7] (fun u6 u7 wr => ∃ (n q : Nat) (v : Int), n ≤ 15 ∧ u7 = .int .i64 n ∧ u6 = .int .u32 v ∧ 0 ≤ v ∧ v < 2 ^ n ∧ q ≤ 8 * bs.length ∧ Hid (rd xs bs 15 0 p = rd xs bs (15 - n) v q) ∧ RdRep 130 L gr wr bs q ∧ Chg (fun k => k = gr) w wr) (fun _ i _ => 16 - (intOf i).toNat)
  case atStart => exact ⟨0, p, 0, by omega, rfl, rfl, by omega, by decide, hp, rfl, hr, Chg.refl _ _⟩
  case round =>
    obtain ⟨n, q, v, hn15, rfl, rfl, hv0, hv1, hq, HR, hrr, hch⟩ := hrel
    have hcf := h.chg' hch h.le (fun k hg hk => by omega)
    have hv32 : v < 32768 := Int.lt_of_lt_of_le hv1 (by rw [two_pow_cast]; have := Nat.pow_le_pow_right (n := 2) (by decide) hn15; omega)
    obtain ⟨A, c, cs, hsym⟩ := hcf.cellS (i := n) (by omega)
    have cf := hcf.cellF (i := n) (by omega)
    have hf := hfA n (by omega)
    have hs := hsA n (by omega)
    have hn16 : (n : Int) < 16 := by omega
    cases hh : hitsB xs n v with
    | true =>
      obtain ⟨hit1, hy0⟩ := hit_yes xs hn n hn15 v hh
      obtain ⟨h1, h2, h3⟩ := of_decide_eq_true hh
      have HD := Lib.hid (rd_hit xs bs n v q _ hn15 hit1)
      obtain ⟨dv, hdv⟩ := Int.eq_ofNat_of_zero_le (show 0 ≤ v - firstAt xs xs.length n by omega)
      rw [hdv, Int.toNat_natCast] at HD hy0
      rw [hdv] at h3
      obtain ⟨b, o, rfl, csy⟩ := hsym dv (by omega)
      generalize firstAt xs xs.length n = fk at *
      generalize (symsAt xs xs.length n).getD dv 0 = y at *
      generalize (symsAt xs xs.length n).length = sk at *
      have e1 : (v - fk) % 4294967296 = (dv : Int) := by omega
      have e2 : IntKind.u32.wrap (v - fk) = (dv : Int) := by rw [IntKind.wrap_u32']; omega
      have hn0 : (0 : Int) < n := by omega
      clear hit1 hh hdv hsym hcf h hr
      go_wp2
      go_quiet (fail)
      go_wp2
      go_ret2
      exact readPost_mk (HR.out.trans HD.out) (by rw [Int.toNat_of_nonneg hy0]; rfl) (hrr.drewN nq) (hch.drewN nq)
    | false =>
      have hno := hit_no xs hn n hn15 v hh
      have h0 := of_decide_eq_false hh
      have HM := more_some xs hn (fun i hi => (hall i hi).2) n v hv0
      have HT := fun wx m (hx : wx = wr.drewN m) => more_any H g _ _ _ v n wx (hx ▸ hcf.same fun k hk => rfl) hn15 ⟨hv0, hv1⟩ hfA hsA hdA
      have hno' : (¬ (0 : Int) < n) ∨ ((0 : Int) < n ∧ v < firstAt xs xs.length n) ∨ ((0 : Int) < n ∧ ¬ v < firstAt xs xs.length n ∧ ∃ dv : Nat, (v - firstAt xs xs.length n) % 4294967296 = (dv : Int) ∧ (symsAt xs xs.length n).length ≤ dv) := by
        by_cases a : 0 < n
        · by_cases b : firstAt xs xs.length n ≤ v
          · exact .inr (.inr ⟨by omega, by omega, (v - firstAt xs xs.length n).toNat, by omega, by omega⟩)
          · exact .inr (.inl ⟨by omega, by omega⟩)
        · exact .inl (by omega)
      clear hh h0 hsym
      generalize hfk : firstAt xs xs.length n = fk at cf hf hno'
      generalize hsk : (symsAt xs xs.length n).length = sk at cs hs hno'
      clear hfk hsk
      by_cases h15 : n = 15
      · have HD := Lib.hid (rd_form xs bs n v q hn15 hno (.inl h15))
        have d15 : ((n : Int) == 15) = true := by subst h15; rfl
        clear HT HM h15 hno
        rcases hno' with h1 | ⟨h1, h2⟩ | ⟨h1, h2, dv, h3, h4⟩
        all_goals
          go_wp2
          go_ret2
          exact readPost_mk (HR.out.trans HD.out) rfl hrr hch
      · have d15 : ((n : Int) == 15) = false := by simp; omega
        cases hsome : someB xs n v xs.length with
        | false =>
          have HD := Lib.hid (rd_form xs bs n v q hn15 hno (.inr hsome))
          have ht := HT wr 0 rfl
          rw [HM, hsome] at ht
          clear HT HM h15 hno hsome
          rcases hno' with h1 | ⟨h1, h2⟩ | ⟨h1, h2, dv, h3, h4⟩
          all_goals
            go_wp2_with fail
            refine ht.mono ?_
            rintro e w2 ⟨rfl, m, rfl⟩
            go_wp2
            go_ret2
            exact readPost_mk (HR.out.trans HD.out) rfl (hrr.drewN m) (hch.drewN m)
        | true =>
          have ht := HT wr 0 rfl
          rw [HM, hsome] at ht
          by_cases hq8 : q < 8 * bs.length
          · have HD := Lib.hid (rd_next xs bs n v q (by omega) hno hsome hq8)
            have htk := fun m => take_yes L gr bs q 1 (wr.drewN m) (hrr.drewN m) hb (by omega) (by omega) hsz
            rw [takeN_one] at htk
            have hbit := bitAt_le bs q
            have HV := Lib.hid (shl_or v (bitAt bs q) ⟨hv0, hv32⟩ hbit)
            clear HT HM hno hsome
            generalize bitAt bs q = bit at *
            rcases hno' with h1 | ⟨h1, h2⟩ | ⟨h1, h2, dv, h3, h4⟩
            all_goals
              go_wp2_with fail
              refine ht.mono ?_
              rintro e w2 ⟨rfl, m, rfl⟩
              go_wp2_with fail
              refine (htk m).mono ?_
              rintro e w3 ⟨rfl, hr3, hc3⟩
              have hch3 := (hch.drewN m).trans hc3 (fun _ _ h => h)
              have hb2 : v * 2 % 4294967296 = v * 2 := by omega
              go_wp2
              go_roundw
              case rel =>
                refine ⟨n + 1, q + 1, 2 * v + bit, by omega, by go_num, ?_, by omega, ?_, by omega, ?_, hr3, hch3⟩
                · rw [← HV.out, hb2]
                · rw [Int.pow_succ]; omega
                · exact HR.out.trans HD.out
              case measure => simp [intOf]; omega
          · have HD := Lib.hid (rd_torn xs bs n v q (by omega) hno hsome (by omega))
            have htk := fun m => take_no L gr bs q 1 (wr.drewN m) (hrr.drewN m) (by omega) hq (by omega) hsz
            clear HT HM hno hsome
            rcases hno' with h1 | ⟨h1, h2⟩ | ⟨h1, h2, dv, h3, h4⟩
            all_goals
              go_wp2_with fail
              refine ht.mono ?_
              rintro e w2 ⟨rfl, m, rfl⟩
              go_wp2_with fail
              refine (htk m).mono ?_
              rintro e w3 ⟨rfl, m2, rfl⟩
              go_wp2
              go_ret2
              exact readPost_mk (HR.out.trans HD.out) rfl (hrr.drewN (m + m2)) (hch.drewN (m + m2))
end Go.Proofs.Ytoeipgbnjcgbjaa
