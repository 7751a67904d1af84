/- Inflate: a match, by the program. -/
import Derived.Test.YtoeipgbnjcgbjaaInfB
namespace Go.Proofs.Ytoeipgbnjcgbjaa
open Go.RowKit
set_option linter.unusedVariables false

/-- A byte laid behind what was made, if it may be. -/
def putM (most : Nat) (out : List Int) (c : Int) : Int × List Int := if most ≤ out.length then (5, out) else (0, out ++ [c])
def PutA (L R G : Nat) (bs : List Int) (most p : Nat) (vo : Value) (out' : List Int) (w : World) (w' : World) : Prop :=
  ∃ vo', InfAt L R G bs most w' p vo' out' ∧ Chg (FiP R G vo) w w' ∧ FreshI w vo vo'
theorem iPut_any (L R G most p : Nat) (bs out : List Int) (w : World) (vo : Value) (c : Int) (h : InfAt L R G bs most w p vo out) (hc : 0 ≤ c ∧ c < 256) :
    Calls Try.prog 105 #[.pointer (some ⟨R, 0, none⟩), .int .u8 c] w fun e w' => e = .returned (.int .i64 (putM most out c).1) ∧ PutA L R G bs most p vo (putM most out c).2 w w' := by
  unfold putM
  by_cases hm : most ≤ out.length
  · rw [if_pos hm]
    refine (iPut_no L R G most p bs out w vo c h hm).mono ?_
    rintro e w1 ⟨rfl, m, rfl⟩
    exact ⟨rfl, vo, h.drewN m, (Chg.refl _ _).drewN m, .inl rfl⟩
  · rw [if_neg hm]
    refine (iPut_yes L R G most p bs out w vo c h (by omega) hc).mono ?_
    rintro e w1 ⟨rfl, vo', h1, h2, h3⟩
    exact ⟨rfl, vo', h1, h2, h3⟩
/-- A code in memory. -/
structure CodeX (H g : Nat) (w : World) (xs : List Int) : Prop where
  f : CodeF H g w (firstAt xs xs.length) (symsAt xs xs.length) (deepAt xs xs.length)
  hb : cntB xs = true
  hn : xs.length ≤ 400
/-- The reader's blocks are not the code's. -/
def ApartI (R G : Nat) (vo : Value) (H g : Nat) : Prop := ∀ k, FiP R G vo k → k < g ∨ H ≤ k
section
variable {L R G most p H g : Nat} {bs out xs : List Int} {w w' w1 : World} {vo vo' : Value}
theorem CodeX.le (h : CodeX H g w xs) : H ≤ w.heap.size := h.f.le
theorem CodeX.all (h : CodeX H g w xs) : ∀ i, i < xs.length → 0 ≤ xs.getD i 0 ∧ xs.getD i 0 ≤ 15 := by
  intro k hk
  have h1 := List.all_eq_true.1 (show xs.all okLen = true from h.hb) (xs.getD k 0) (by rw [List.getD_eq_getElem?_getD, List.getElem?_eq_getElem hk]; exact List.getElem_mem hk)
  simpa [okLen] using h1
theorem CodeX.chg (h : CodeX H g w xs) (hc : Chg (FiP R G vo) w w') (ha : ApartI R G vo H g) : CodeX H g w' xs :=
  ⟨h.f.chg' hc h.le (fun k h1 h2 h3 => by have := ha k h3; omega), h.hb, h.hn⟩
theorem CodeX.same (h : CodeX H g w xs) (hb : Below w.heap.size w w') : CodeX H g w' xs :=
  ⟨h.f.same (fun k hk => hb.block k (by have := h.le; omega)), h.hb, h.hn⟩
theorem ApartI.fresh (h : ApartI R G vo H g) (hF : FreshI w vo vo') (hH : H ≤ w.heap.size) : ApartI R G vo' H g := by
  rintro k (hk | hk | hk)
  · exact h k (.inl hk)
  · exact h k (.inr (.inl hk))
  · rcases hF with hF | hF
    · exact h k (.inr (.inr (by rw [← hF]; exact hk)))
    · have := hF k hk; omega
theorem chgG (hc : Chg (fun k => k = G) w w') : Chg (FiP R G vo) w w' := hc.mono fun k _ e => .inr (.inl e)
theorem InfAt.belowL (h : InfAt L R G bs most w p vo out) (hc : Chg (FiP R G vo) w w') : Below L w w' :=
  hc.below (by have := h.low; have := h.cel.blk; omega) (fun k hk hs => by have := (h.lt k hs).1; omega)
end
/-- What a reading leaves: the error, the place, what was made. -/
def BlkPost (L R G : Nat) (bs : List Int) (most : Nat) (vo : Value) (r : Int × Nat × List Int) (w : World) (e : Ending) (w' : World) : Prop :=
  e = .returned (.int .i64 r.1) ∧ Below L w w' ∧ (r.1 = 0 → PutA L R G bs most r.2.1 vo r.2.2 w w')
theorem blk_no {L R G : Nat} {bs : List Int} {most : Nat} {vo : Value} {r : Int × Nat × List Int} {w : World} {w' : World} {x : Int} {y : Nat × List Int} (h : r = (x, y)) (hx : x ≠ 0) (hb : Below L w w') : BlkPost L R G bs most vo r w (.returned (.int .i64 x)) w' := by
  subst h
  exact ⟨rfl, hb, fun e => absurd e hx⟩
theorem blk_ok {L R G : Nat} {bs : List Int} {most : Nat} {vo : Value} {r : Int × Nat × List Int} {w : World} {w' : World} {p : Nat} {y : List Int} (h : r = (0, p, y)) (hb : Below L w w') (hp : PutA L R G bs most p vo y w w') : BlkPost L R G bs most vo r w (.returned (.int .i64 0)) w' := by
  subst h
  exact ⟨rfl, hb, fun _ => hp⟩
/-- A symbol read. -/
def SymPost (L R G : Nat) (xs bs : List Int) (most : Nat) (vo : Value) (out : List Int) (p : Nat) (w : World) (e : Ending) (w' : World) : Prop :=
  e = .returned (.tuple #[.int .i64 (rd xs bs 15 0 p).1, .int .i64 (rd xs bs 15 0 p).2.1]) ∧ InfAt L R G bs most w' (rd xs bs 15 0 p).2.2 vo out ∧ Chg (fun k => k = G) w w'
theorem iSym (L R G most p H g : Nat) (bs out xs : List Int) (w : World) (vo : Value) (h : InfAt L R G bs most w p vo out) (hx : CodeX H g w xs) (ha : ApartI R G vo H g) :
    Calls Try.prog 121 #[.pointer (some ⟨g, 0, none⟩), .pointer (some ⟨G, 0, none⟩)] w (SymPost L R G xs bs most vo out p w) := by
  refine (codeRead_any H g L G xs bs p w hx.f h.rd (ha G (.inr (.inl rfl))) h.hb hx.all hx.hn h.hp (by have := h.hs; omega)).mono ?_
  rintro e w1 ⟨h1, h2, h3⟩
  exact ⟨h1, h.went h2 h3 (rd_place xs bs 15 0 p h.hp), h3⟩
theorem getD_byte {l : List Int} (h : Bytes l) (k : Nat) : 0 ≤ l.getD k 0 ∧ l.getD k 0 < 256 := by
  rw [List.getD_eq_getElem?_getD]
  cases e : l[k]? with
  | none => simp
  | some x => exact h x (List.mem_of_getElem? e)
/-- The match's loop: between the operations. -/
def JMat (L R G : Nat) (bs : List Int) (most p : Nat) (vo : Value) (out' : List Int) (w0 : World) : List Value → World → Prop
  | [], w => w = w0
  | _ :: _, w => PutA L R G bs most p vo out' w0 w
/-- The match's loop. -/
def CopyRel (L R G : Nat) (bs : List Int) (most : Nat) (vo : Value) (p far n : Nat) (out : List Int) (w : World) (k : Nat) (w' : World) : Prop :=
  ∃ out1, PutA L R G bs most p vo out1 w w' ∧ copyB most far n out = copyB most far (n - k) out1 ∧ far ≤ out1.length
set_option maxRecDepth 100000 in
set_option maxHeartbeats 8000000 in
theorem iMatch_any (L R G most p H g : Nat) (bs out xs : List Int) (w : World) (vo : Value) (s : Int) (h : InfAt L R G bs most w p vo out) (hx : CodeX H g w xs) (ha : ApartI R G vo H g) (hs : 257 ≤ s ∧ s < 286) :
    Calls Try.prog 122 #[.pointer (some ⟨R, 0, none⟩), .int .i64 s, .pointer (some ⟨g, 0, none⟩)] w (BlkPost L R G bs most vo (matchM bs most xs s p out) w) := by
  have HL := Lib.hid (iLen_any L R G most p bs out w vo s h hs)
  have HH := Lib.hid h
  cases hl : lenE bs s p with
  | none =>
    have HM := Lib.hid (show matchM bs most xs s p out = (4, p, out) by unfold matchM; rw [hl])
    rw [hl] at HL
    clear h hx ha hl
    go_enter Try.func122, Try.ntmps122
    go_wp2_with fail
    refine HL.out.mono ?_
    rintro e w1 ⟨y, rfl, m, rfl⟩
    go_wp2
    go_ret
    exact blk_no HM.out (by decide) (HH.out.belowL ((Chg.refl _ _).drewN m))
  | some r =>
    obtain ⟨n, p1⟩ := r
    have hn := lenE_le hs hl
    have HM : Hid (matchM bs most xs s p out = _) := Lib.hid (by unfold matchM; rw [hl])
    rw [hl] at HL
    have HX := Lib.hid hx
    have HA := Lib.hid ha
    clear h hx ha hl
    go_enter Try.func122, Try.ntmps122
    go_wp2_with fail
    refine HL.out.mono ?_
    rintro e w1 ⟨rfl, hI1, hC1⟩
    have HI1 := Lib.hid hI1
    have HC1 := Lib.hid (chgG (R := R) (vo := vo) hC1)
    have HX1 := Lib.hid (HX.out.chg HC1.out HA.out)
    have HS1 := Lib.hid (iSym L R G most p1 H g bs out xs w1 vo HI1.out HX1.out HA.out)
    have HQ1 := Lib.hid (rd_sym xs bs 15 0 p1)
    have c0 := hI1.c0
    clear hI1 hC1 HL
    go_wp2_with fail
    refine HS1.out.mono ?_
    rintro e w2 ⟨rfl, hI2, hC2⟩
    have HI2 := Lib.hid hI2
    have HC2 := Lib.hid (HC1.out.trans (chgG (R := R) (vo := vo) hC2) (fun _ _ h => h))
    have hq := HQ1.out
    clear hI2 hC2 HC1 HS1 HI1 HX1 HQ1 c0
    generalize rd xs bs 15 0 p1 = RES at *
    obtain ⟨d, er, p2⟩ := RES
    simp only at HM hq HI2
    simp only
    by_cases her : er = 0
    · subst her
      have h30 : ¬ ((0 : Int) ≠ 0) := by decide
      by_cases hd : 30 ≤ d
      · have d1 : decide ((30 : Int) ≤ d) = true := decide_eq_true hd
        have HM2 := Lib.hid (HM.out.trans (by simp only [h30, if_false, if_pos hd] : _ = ((3 : Int), p1, out)))
        clear HM
        go_wp2
        go_ret
        exact blk_no HM2.out (by decide) (HH.out.belowL HC2.out)
      · have d1 : decide ((30 : Int) ≤ d) = false := decide_eq_false hd
        have HD := Lib.hid (iDist_any L R G most p2 bs out w2 vo d HI2.out ⟨hq.1, by omega⟩)
        cases hde : distE bs d p2 with
        | none =>
          have HM2 := Lib.hid (HM.out.trans (by simp only [h30, if_false, if_neg hd, hde] : _ = ((4 : Int), p1, out)))
          rw [hde] at HD
          clear HM hde
          go_wp2_with fail
          refine HD.out.mono ?_
          rintro e w3 ⟨y, rfl, m, rfl⟩
          go_wp2
          go_ret
          exact blk_no HM2.out (by decide) (HH.out.belowL (HC2.out.drewN m))
        | some r =>
          obtain ⟨fi, p3⟩ := r
          have hfi := distE_le ⟨hq.1, by omega⟩ hde
          rw [hde] at HD
          obtain ⟨far, rfl⟩ := Int.eq_ofNat_of_zero_le (show 0 ≤ fi by omega)
          obtain ⟨nn, rfl⟩ := Int.eq_ofNat_of_zero_le (show 0 ≤ n by omega)
          by_cases hfar : (out.length : Int) < (far : Int)
          · have HM2 := Lib.hid (HM.out.trans (by simp only [h30, if_false, if_neg hd, hde, if_pos hfar] : _ = ((3 : Int), p3, out)))
            have d2 : decide ((out.length : Int) < (far : Int)) = true := decide_eq_true hfar
            clear HM hde
            go_wp2_with fail
            refine HD.out.mono ?_
            rintro e w3 ⟨rfl, hI3, hC3⟩
            obtain ⟨A3, c3, hvo3⟩ := hI3.own.shape
            have k1 := hI3.c1
            rw [hvo3] at k1
            have HV3 := Lib.hid hvo3
            have HC3 := Lib.hid (HC2.out.trans (chgG (R := R) (vo := vo) hC3) (fun _ _ h => h))
            clear hI3 hC3 hvo3
            go_wp2
            go_ret
            exact blk_no HM2.out (by decide) (HH.out.belowL HC3.out)
          · have HM2 := Lib.hid (HM.out.trans (by simp only [h30, if_false, if_neg hd, hde, if_neg hfar, Int.toNat_natCast] : _ = ((copyB most far nn out).1, p3, (copyB most far nn out).2)))
            have d2 : decide ((out.length : Int) < (far : Int)) = false := decide_eq_false hfar
            clear HM hde
            go_wp2_with fail
            refine HD.out.mono ?_
            rintro e w3 ⟨rfl, hI3, hC3⟩
            obtain ⟨A3, c3, hvo3⟩ := hI3.own.shape
            have k1 := hI3.c1
            rw [hvo3] at k1
            have HC3 := Lib.hid (HC2.out.trans (chgG (R := R) (vo := vo) hC3) (fun _ _ h => h))
            have HR0 : Hid (CopyRel L R G bs most vo p3 far nn out w 0 w3) := Lib.hid ⟨out, ⟨vo, hI3, HC3.out, .inl rfl⟩, rfl, by omega⟩
            clear hI3 hC3 hvo3
            go_wp2
            clear d1 d2 hfar
            generalize decide (out.length < far) = b50
            go_loopw [52] (fun i wr => ∃ k : Nat, i = .int .i64 k ∧ k ≤ nn ∧ CopyRel L R G bs most vo p3 far nn out w k wr) (fun i _ => nn - (intOf i).toNat)
            case atStart => exact ⟨0, rfl, by omega, HR0.out⟩
            case round =>
              clear HR0 HD HI2 HC2 HC3 k1
              obtain ⟨k, rfl, hk, out1, ⟨vo1, hI4, hC4, hF4⟩, hcp, hf1⟩ := hrel
              have HI4 := Lib.hid hI4
              have HC4 := Lib.hid hC4
              have HF4 := Lib.hid hF4
              by_cases hlt : k < nn
              · have HCP := Lib.hid (hcp.trans (show copyB most far (nn - k) out1 = if most ≤ out1.length then (5, out1) else copyB most far (nn - (k + 1)) (out1 ++ [out1.getD (out1.length - far) 0]) by rw [show nn - k = (nn - (k + 1)) + 1 by omega, copyB]))
                have d4 : decide ((k : Int) < (nn : Int)) = true := decide_eq_true (by omega)
                obtain ⟨A4, c4, hvo4⟩ := hI4.own.shape
                have k1 := hI4.c1
                have hsrc := hI4.own
                rw [hvo4] at k1 hsrc
                have hcap := hsrc.cap
                obtain ⟨b4, o4, rfl, hb4, hcell⟩ := hsrc.ints (by omega)
                have kx := hcell (out1.length - far) (by omega)
                have hx4 := getD_byte hI4.ob (out1.length - far)
                have hol := hI4.ol
                have hmo := hI4.hm
                obtain ⟨dd, hdd⟩ : ∃ dd, out1.length - far = dd := ⟨_, rfl⟩
                rw [hdd] at kx hx4 HCP
                have e5 : IntKind.i64.wrap ((out1.length : Int) - (far : Int)) = (dd : Int) := by rw [IntWalk.i64_in _ (by omega)]; omega
                have e6 : (out1.length : Int) - (far : Int) = (dd : Int) := by omega
                have s1 : (0 : Int) ≤ (dd : Int) := by omega
                have s2 : (dd : Int) < (out1.length : Int) := by omega
                have s3 : dd < out1.length := by omega
                generalize out1.getD dd 0 = x at *
                have HE := Lib.hid e6
                clear hI4 hC4 hF4 hcp hsrc hcell e6
                go_upto_region 16 with (fail)
                go_cut [11] (fun v wx => v = .int .i64 (putM most out1 x).1 ∧ PutA L R G bs most p3 vo1 (putM most out1 x).2 wr wx)
                case first =>
                  refine wp_region_ph (by kernel_rfl) [14] [.span 0 0, .span 0 0, .span 0 0, .span 0 0, .span 0 0, .span 0 0, .span 0 0, .span 0 0, .span 0 0, .span 0 0, .span 0 0, .span 0 0, .span 0 0, .span 0 0, .phase 0, .span 1 1] [fun z9 => z9 = .pointer (some ⟨R, 0, none⟩), fun z9 => z9 = .pointer (some ⟨R, 0, none⟩), fun z9 => z9 = .pointer (some ⟨R, 0, none⟩), fun z9 => z9 = .pointer (some ⟨R, 1, none⟩), fun z9 => z9 = .slice (some ⟨b4, o4, none⟩) out1.length c4, fun z9 => z9 = .pointer (some ⟨R, 0, none⟩), fun z9 => z9 = .pointer (some ⟨R, 0, none⟩), fun z9 => z9 = .pointer (some ⟨R, 1, none⟩), fun z9 => z9 = .slice (some ⟨b4, o4, none⟩) out1.length c4, fun z9 => z9 = .int .i64 out1.length, fun z9 => z9 = .int .i64 far, fun z9 => z9 = .int .i64 dd, fun z9 => z9 = .pointer (some ⟨b4, o4 + dd, none⟩), fun z9 => z9 = .int .u8 x, fun z9 => z9 = .int .i64 (putM most out1 x).1, fun z9 => z9 = .int .i64 (putM most out1 x).1] (JMat L R G bs most p3 vo1 (putM most out1 x).2 wr.drew) (by kernel_rfl) (by kernel_rfl) (by kernel_rfl) (by kernel_rfl) (by kernel_rfl) (by kernel_rfl) rfl rfl (rfl) ?steps ?done
                  case steps =>
                    refine ⟨?_, ?_, ?_, ?_, ?_, ?_, ?_, ?_, ?_, ?_, ?_, ?_, ?_, ?_, ?_, ?_, trivial⟩
                    · intro us au w1 k0 hlo hhi ha hd hst hI
                      obtain rfl : k0 = 0 := by omega
                      have q0 := slot_far (t := 0) (v := .pointer (some ⟨R, 0, none⟩)) ha (by kernel_rfl) (by kernel_rfl)
                      have p0 := slot_norm q0
                      clear ha hd hst
                      exact StepI.pure (v := .pointer (some ⟨R, 0, none⟩)) rfl rfl (by go_simp) ⟨rfl, hI⟩
                    · intro us au w1 k1 hlo hhi ha hd hst hI
                      obtain rfl : k1 = 0 := by omega
                      have q0 := slot_far (t := 0) (v := .pointer (some ⟨R, 0, none⟩)) ha (by kernel_rfl) (by kernel_rfl)
                      have p0 := slot_norm q0
                      clear ha hd hst
                      exact StepI.pure (v := .pointer (some ⟨R, 0, none⟩)) rfl rfl (by go_simp) ⟨rfl, hI⟩
                    · intro us au w1 k2 hlo hhi ha hd hst hI
                      obtain rfl : k2 = 0 := by omega
                      have e1 := hd 1 _ (by kernel_rfl) rfl
                      have q55 := slot_at (t := 55) 1 ha (by kernel_rfl) (by kernel_rfl) (by kernel_rfl) e1
                      have p55 := slot_norm q55
                      clear ha hd hst
                      exact StepI.pure (v := .pointer (some ⟨R, 0, none⟩)) rfl rfl (by go_simp) ⟨rfl, hI⟩
                    · intro us au w1 k3 hlo hhi ha hd hst hI
                      obtain rfl : k3 = 0 := by omega
                      have e2 := hd 2 _ (by kernel_rfl) rfl
                      have q56 := slot_at (t := 56) 2 ha (by kernel_rfl) (by kernel_rfl) (by kernel_rfl) e2
                      have p56 := slot_norm q56
                      clear ha hd hst
                      exact StepI.pure (v := .pointer (some ⟨R, 1, none⟩)) rfl rfl (by go_simp) ⟨rfl, hI⟩
                    · intro us au w1 k4 hlo hhi ha hd hst hI
                      obtain rfl : k4 = 0 := by omega
                      have e3 := hd 3 _ (by kernel_rfl) rfl
                      have q57 := slot_at (t := 57) 3 ha (by kernel_rfl) (by kernel_rfl) (by kernel_rfl) e3
                      have p57 := slot_norm q57
                      clear ha hd hst
                      have cl : w1.cell? ⟨R, 1, none⟩ = some (.slice (some ⟨b4, o4, none⟩) out1.length c4) := by rw [show w1 = _ from hI]; exact k1
                      exact StepI.pure (v := .slice (some ⟨b4, o4, none⟩) out1.length c4) rfl rfl (by go_simp) ⟨rfl, hI⟩
                    · intro us au w1 k5 hlo hhi ha hd hst hI
                      obtain rfl : k5 = 0 := by omega
                      have q0 := slot_far (t := 0) (v := .pointer (some ⟨R, 0, none⟩)) ha (by kernel_rfl) (by kernel_rfl)
                      have p0 := slot_norm q0
                      clear ha hd hst
                      exact StepI.pure (v := .pointer (some ⟨R, 0, none⟩)) rfl rfl (by go_simp) ⟨rfl, hI⟩
                    · intro us au w1 k6 hlo hhi ha hd hst hI
                      obtain rfl : k6 = 0 := by omega
                      have e5 := hd 5 _ (by kernel_rfl) rfl
                      have q59 := slot_at (t := 59) 5 ha (by kernel_rfl) (by kernel_rfl) (by kernel_rfl) e5
                      have p59 := slot_norm q59
                      clear ha hd hst
                      exact StepI.pure (v := .pointer (some ⟨R, 0, none⟩)) rfl rfl (by go_simp) ⟨rfl, hI⟩
                    · intro us au w1 k7 hlo hhi ha hd hst hI
                      obtain rfl : k7 = 0 := by omega
                      have e6 := hd 6 _ (by kernel_rfl) rfl
                      have q60 := slot_at (t := 60) 6 ha (by kernel_rfl) (by kernel_rfl) (by kernel_rfl) e6
                      have p60 := slot_norm q60
                      clear ha hd hst
                      exact StepI.pure (v := .pointer (some ⟨R, 1, none⟩)) rfl rfl (by go_simp) ⟨rfl, hI⟩
                    · intro us au w1 k8 hlo hhi ha hd hst hI
                      obtain rfl : k8 = 0 := by omega
                      have e7 := hd 7 _ (by kernel_rfl) rfl
                      have q61 := slot_at (t := 61) 7 ha (by kernel_rfl) (by kernel_rfl) (by kernel_rfl) e7
                      have p61 := slot_norm q61
                      clear ha hd hst
                      have cl : w1.cell? ⟨R, 1, none⟩ = some (.slice (some ⟨b4, o4, none⟩) out1.length c4) := by rw [show w1 = _ from hI]; exact k1
                      exact StepI.pure (v := .slice (some ⟨b4, o4, none⟩) out1.length c4) rfl rfl (by go_simp) ⟨rfl, hI⟩
                    · intro us au w1 k9 hlo hhi ha hd hst hI
                      obtain rfl : k9 = 0 := by omega
                      have e8 := hd 8 _ (by kernel_rfl) rfl
                      have q62 := slot_at (t := 62) 8 ha (by kernel_rfl) (by kernel_rfl) (by kernel_rfl) e8
                      have p62 := slot_norm q62
                      clear ha hd hst
                      exact StepI.pure (v := .int .i64 out1.length) rfl rfl (by go_simp) ⟨rfl, hI⟩
                    · intro us au w1 k10 hlo hhi ha hd hst hI
                      obtain rfl : k10 = 0 := by omega
                      have q10 := slot_far (t := 10) (v := .int .i64 far) ha (by kernel_rfl) (by kernel_rfl)
                      have p10 := slot_norm q10
                      clear ha hd hst
                      exact StepI.pure (v := .int .i64 far) rfl rfl (by go_simp) ⟨rfl, hI⟩
                    · intro us au w1 k11 hlo hhi ha hd hst hI
                      obtain rfl : k11 = 0 := by omega
                      have e9 := hd 9 _ (by kernel_rfl) rfl
                      have e10 := hd 10 _ (by kernel_rfl) rfl
                      have q63 := slot_at (t := 63) 9 ha (by kernel_rfl) (by kernel_rfl) (by kernel_rfl) e9
                      have p63 := slot_norm q63
                      have q64 := slot_at (t := 64) 10 ha (by kernel_rfl) (by kernel_rfl) (by kernel_rfl) e10
                      have p64 := slot_norm q64
                      clear ha hd hst
                      exact StepI.pure (v := .int .i64 dd) rfl rfl (by go_simp) ⟨rfl, hI⟩
                    · intro us au w1 k12 hlo hhi ha hd hst hI
                      obtain rfl : k12 = 0 := by omega
                      have e4 := hd 4 _ (by kernel_rfl) rfl
                      have e11 := hd 11 _ (by kernel_rfl) rfl
                      have q58 := slot_at (t := 58) 4 ha (by kernel_rfl) (by kernel_rfl) (by kernel_rfl) e4
                      have p58 := slot_norm q58
                      have q65 := slot_at (t := 65) 11 ha (by kernel_rfl) (by kernel_rfl) (by kernel_rfl) e11
                      have p65 := slot_norm q65
                      clear ha hd hst
                      exact StepI.pure (v := .pointer (some ⟨b4, o4 + dd, none⟩)) rfl rfl (by go_simp) ⟨rfl, hI⟩
                    · intro us au w1 k13 hlo hhi ha hd hst hI
                      obtain rfl : k13 = 0 := by omega
                      have e12 := hd 12 _ (by kernel_rfl) rfl
                      have q66 := slot_at (t := 66) 12 ha (by kernel_rfl) (by kernel_rfl) (by kernel_rfl) e12
                      have p66 := slot_norm q66
                      clear ha hd hst
                      have cl : w1.cell? ⟨b4, o4 + dd, none⟩ = some (.int .u8 x) := by rw [show w1 = _ from hI]; exact kx
                      exact StepI.pure (v := .int .u8 x) rfl rfl (by go_simp) ⟨rfl, hI⟩
                    · intro us au w1 ha hd hst hI
                      have e0 := hd 0 _ (by kernel_rfl) rfl
                      have e13 := hd 13 _ (by kernel_rfl) rfl
                      have q54 := slot_at (t := 54) 0 ha (by kernel_rfl) (by kernel_rfl) (by kernel_rfl) e0
                      have p54 := slot_norm q54
                      have q67 := slot_at (t := 67) 13 ha (by kernel_rfl) (by kernel_rfl) (by kernel_rfl) e13
                      have p67 := slot_norm q67
                      clear ha hd hst
                      have hw1 : w1 = wr.drew := hI
                      subst hw1
                      refine StepI.call (f := 105) (args := #[.pointer (some ⟨R, 0, none⟩), .int .u8 x]) rfl rfl (by go_simp) ?_
                      refine (iPut_any L R G most p3 bs out1 wr.drew vo1 x HI4.out.drew hx4).mono ?_
                      rintro e w5 ⟨rfl, vo5, h5, hc5, hf5⟩
                      exact ⟨_, rfl, rfl, vo5, h5, hc5, hf5⟩
                    · intro us au w1 k15 hlo hhi ha hd hst hI
                      obtain rfl : k15 = 1 := by omega
                      have e14 := hd 14 _ (by kernel_rfl) rfl
                      have q68 := slot_at (t := 68) 14 ha (by kernel_rfl) (by kernel_rfl) (by kernel_rfl) e14
                      have p68 := slot_norm q68
                      clear ha hd hst
                      exact StepI.pure (v := .int .i64 (putM most out1 x).1) rfl rfl (by go_simp) ⟨rfl, hI⟩
                  case done =>
                    intro us w1 hI hd
                    obtain ⟨vo5, hI5, hC5, hF5⟩ := hI
                    have h15 := hd 15 _ (by decide) rfl
                    clear hd d4
                    simp only [putAll]
                    go_simp
                    go_wp2
                    go_meet
                    exact ⟨(by first | rfl | exact h15), vo5, hI5, (((Chg.refl _ wr).drew).trans hC5 (fun _ _ h => h)), hF5⟩
                case rest =>
                  obtain ⟨rfl, vo5, hI5, hC5, hF5⟩ := hcut
                  have HC5 := Lib.hid (FiP.trans HC4.out hC5 HF4.out)
                  have HF5 := Lib.hid (FreshI.trans HF4.out hF5 HC4.out.size)
                  have HI5 := Lib.hid hI5
                  clear hI5 hC5 hF5 k1 kx
                  by_cases hm : most ≤ out1.length
                  · have e7 : (putM most out1 x).1 = 5 := by unfold putM; rw [if_pos hm]
                    have HM3 := Lib.hid (HM2.out.trans (by rw [HCP.out, if_pos hm] : _ = ((5 : Int), p3, out1)))
                    rw [e7]
                    clear e7
                    go_wp2
                    go_ret
                    exact blk_no HM3.out (by decide) (HH.out.belowL HC5.out)
                  · have e7 : putM most out1 x = (0, out1 ++ [x]) := by unfold putM; rw [if_neg hm]
                    rw [e7] at HI5 ⊢
                    clear e7
                    go_wp2
                    go_roundw
                    case rel => exact ⟨k + 1, by go_num, by omega, _, ⟨vo5, HI5.out, HC5.out, HF5.out⟩, by rw [HCP.out, if_neg hm], by simp; omega⟩
                    case measure => simp [intOf]; omega
              · have d4 : decide ((k : Int) < (nn : Int)) = false := decide_eq_false (by omega)
                have HM3 := Lib.hid (HM2.out.trans (by rw [hcp, show nn - k = 0 by omega]; rfl : _ = ((0 : Int), p3, out1)))
                clear hI4 hC4 hF4 hcp
                go_wp2
                go_ret
                exact blk_ok HM3.out (HH.out.belowL HC4.out) ⟨vo1, HI4.out, HC4.out, HF4.out⟩
    · have d1 : (er == 0) = false := by simpa using her
      have d2 : (er != 0) = true := by simpa using her
      have HM2 := Lib.hid (HM.out.trans (by simp only [ne_eq, her, not_false_eq_true, if_true] : _ = (er, p1, out)))
      clear HM
      go_wp2
      go_ret
      exact blk_no HM2.out her (HH.out.belowL HC2.out)
end Go.Proofs.Ytoeipgbnjcgbjaa
