/- Inflate: a block of codes, by the program. -/
import Derived.Test.YtoeipgbnjcgbjaaInfC
namespace Go.Proofs.Ytoeipgbnjcgbjaa
open Go.RowKit
set_option linter.unusedVariables false

/-- How many bytes were made, by the reader's cell. -/
def lenAt (w : World) (R : Nat) : Nat := match w.cell? ⟨R, 1, none⟩ with
  | some (.slice _ n _) => n
  | _ => 0
theorem InfAt.lenAt {L R G most p : Nat} {bs out : List Int} {w : World} {vo : Value} (h : InfAt L R G bs most w p vo out) : lenAt w R = out.length := by
  unfold Go.Proofs.Ytoeipgbnjcgbjaa.lenAt
  rw [h.c1]
  obtain ⟨A, c, e⟩ := h.own.shape
  rw [e]
theorem PutA.trans {L R G most p' : Nat} {bs out' : List Int} {w w1 w2 : World} {vo vo1 : Value} (hC : Chg (FiP R G vo) w w1) (hF : FreshI w vo vo1) (h : PutA L R G bs most p' vo1 out' w1 w2) : PutA L R G bs most p' vo out' w w2 := by
  obtain ⟨vo2, h1, h2, h3⟩ := h
  exact ⟨vo2, h1, FiP.trans hC h2 hF, FreshI.trans hF h3 hC.size⟩
def SymRel (L R G : Nat) (bs : List Int) (most : Nat) (vo : Value) (r : Int × Nat × List Int) (lit dist : List Int) (w : World) (w' : World) : Prop :=
  ∃ f p1 out1, r = codedM bs most lit dist f p1 out1 ∧ most < f + out1.length ∧ PutA L R G bs most p1 vo out1 w w'
theorem codedM_more (bs : List Int) (most : Nat) (dist : List Int) (s : Int) (p : Nat) (out : List Int) (h : (matchM bs most dist s p out).1 = 0) (hs : 257 ≤ s ∧ s < 286) : out.length < (matchM bs most dist s p out).2.2.length := by
  unfold matchM at h ⊢
  cases hl : lenE bs s p with
  | none => rw [hl] at h; cases h
  | some r =>
    obtain ⟨n, p1⟩ := r
    have hn := lenE_le hs hl
    rw [hl] at h
    simp only at h ⊢
    split at h
    · rename_i a; exact absurd h a
    · rename_i a
      rw [if_neg a]
      split at h
      · cases h
      · rename_i b
        rw [if_neg b]
        cases hd : distE bs (rd dist bs 15 0 p1).1 (rd dist bs 15 0 p1).2.2 with
        | none => rw [hd] at h; cases h
        | some r =>
          obtain ⟨far, p3⟩ := r
          rw [hd] at h
          simp only at h ⊢
          split at h
          · cases h
          · rename_i c
            rw [if_neg c]
            simp only at h ⊢
            have := copyB_ok most far.toNat n.toNat out h
            omega
set_option maxRecDepth 100000 in
set_option maxHeartbeats 8000000 in
theorem iSymbols_any (L R G most p H1 g1 H2 g2 F : Nat) (bs out lit dist : List Int) (w : World) (vo : Value) (h : InfAt L R G bs most w p vo out) (hx1 : CodeX H1 g1 w lit) (ha1 : ApartI R G vo H1 g1) (hx2 : CodeX H2 g2 w dist) (ha2 : ApartI R G vo H2 g2) (hF : most < F) :
    Calls Try.prog 107 #[.pointer (some ⟨R, 0, none⟩), .pointer (some ⟨g1, 0, none⟩), .pointer (some ⟨g2, 0, none⟩)] w (BlkPost L R G bs most vo (codedM bs most lit dist F p out) w) := by
  have HR0 : Hid (SymRel L R G bs most vo (codedM bs most lit dist F p out) lit dist w w) := Lib.hid ⟨F, p, out, rfl, by omega, vo, h, Chg.refl _ _, .inl rfl⟩
  have HH := Lib.hid h
  have HX1 := Lib.hid hx1
  have HX2 := Lib.hid hx2
  have HA1 := Lib.hid ha1
  have HA2 := Lib.hid ha2
  generalize codedM bs most lit dist F p out = RR at *
  clear h hx1 ha1 hx2 ha2 hF
  go_enter Try.func107, Try.ntmps107
  go_wp2
  go_step3
  go_wp2
  go_step3
  go_wp2
  go_loopw [] (fun wr => SymRel L R G bs most vo RR lit dist w wr) (fun wr => most - lenAt wr R)
  case atStart => exact HR0.out
  case round =>
    clear HR0
    obtain ⟨f, p1, out1, hrr, hf, vo1, hI1, hC1, hF1⟩ := hrel
    have hol := hI1.ol
    obtain ⟨f', rfl⟩ : ∃ f', f = f' + 1 := ⟨f - 1, by omega⟩
    have HM : Hid (RR = _) := Lib.hid (hrr.trans (by rw [codedM]))
    have HI1 := Lib.hid hI1
    have HC1 := Lib.hid hC1
    have HF1 := Lib.hid hF1
    have HX11 := Lib.hid (HX1.out.chg hC1 HA1.out)
    have HX21 := Lib.hid (HX2.out.chg hC1 HA2.out)
    have HA11 := Lib.hid (HA1.out.fresh hF1 HX1.out.le)
    have HA21 := Lib.hid (HA2.out.fresh hF1 HX2.out.le)
    have HS1 := Lib.hid (iSym L R G most p1 H1 g1 bs out1 lit wr vo1 hI1 HX11.out HA11.out)
    have HQ1 := Lib.hid (rd_sym lit bs 15 0 p1)
    have hmo := hI1.hm
    have HL1 := Lib.hid hI1.lenAt
    have c0 := hI1.c0
    have hn := HX1.out.hn
    clear hI1 hC1 hF1 hrr
    go_wp2_with fail
    refine HS1.out.mono ?_
    rintro e w2 ⟨rfl, hI2, hC2⟩
    have HI2 := Lib.hid hI2
    have HC2 := Lib.hid (FiP.trans HC1.out (chgG (R := R) (vo := vo1) hC2) HF1.out)
    have HX12 := Lib.hid (HX11.out.chg (chgG (R := R) (vo := vo1) hC2) HA11.out)
    have HX22 := Lib.hid (HX21.out.chg (chgG (R := R) (vo := vo1) hC2) HA21.out)
    have HF2 := Lib.hid HF1.out
    have hq := HQ1.out
    clear hI2 hC2 HS1 HQ1 c0 HX11 HX21
    generalize rd lit bs 15 0 p1 = RES at *
    obtain ⟨s, er, p2⟩ := RES
    simp only at HM hq HI2
    simp only
    by_cases her : er = 0
    · subst her
      have h30 : ¬ ((0 : Int) ≠ 0) := by decide
      by_cases hs1 : s < 256
      · have d1 : decide (s < 256) = true := decide_eq_true hs1
        have e1 : IntKind.u8.wrap s = s := by rw [IntKind.wrap_u8']; omega
        have HP := Lib.hid (iPut_any L R G most p2 bs out1 w2 vo1 s HI2.out ⟨hq.1, hs1⟩)
        have HM2 : Hid (RR = if most ≤ out1.length then (5, p1, out1) else codedM bs most lit dist f' p2 (out1 ++ [s])) := Lib.hid (HM.out.trans (by simp only [h30, if_false, if_pos hs1]))
        clear HM
        go_wp2_with fail
        refine HP.out.mono ?_
        rintro e w3 ⟨rfl, hP3⟩
        have HP3 := Lib.hid (PutA.trans HC2.out HF2.out hP3)
        clear hP3
        by_cases hm : most ≤ out1.length
        · have e7 : putM most out1 s = (5, out1) := by unfold putM; rw [if_pos hm]
          have HM3 := Lib.hid (HM2.out.trans (if_pos hm))
          rw [e7] at HP3 ⊢
          clear e7
          go_wp2
          try rw [Exit.noGoto_ret]
          go_ret
          exact blk_no HM3.out (by decide) (by obtain ⟨_, _, hC, _⟩ := HP3.out; exact HH.out.belowL hC)
        · have e7 : putM most out1 s = (0, out1 ++ [s]) := by unfold putM; rw [if_neg hm]
          have HM3 := Lib.hid (HM2.out.trans (if_neg hm))
          rw [e7] at HP3 ⊢
          clear e7
          go_wp2
          go_roundw
          case rel => exact ⟨f', p2, _, HM3.out, by rw [List.length_append, List.length_singleton]; omega, HP3.out⟩
          case measure =>
            obtain ⟨vo3, hI3, _⟩ := HP3.out
            rw [hI3.lenAt, HL1.out, List.length_append, List.length_singleton]
            omega
      · have d1 : decide (s < 256) = false := decide_eq_false hs1
        by_cases hs2 : s = 256
        · subst hs2
          have HM2 : Hid (RR = (0, p2, out1)) := Lib.hid (HM.out.trans (by simp only [h30, if_false, if_neg hs1, if_true]))
          clear HM
          go_wp2
          try rw [Exit.noGoto_ret]
          go_ret
          exact blk_ok HM2.out (HH.out.belowL HC2.out) ⟨vo1, HI2.out, HC2.out, HF2.out⟩
        · have d2 : (s == 256) = false := by simpa using hs2
          by_cases hs3 : 286 ≤ s
          · have d3 : decide ((286 : Int) ≤ s) = true := decide_eq_true hs3
            have HM2 : Hid (RR = (3, p1, out1)) := Lib.hid (HM.out.trans (by simp only [h30, if_false, if_neg hs1, if_neg hs2, if_pos hs3]))
            clear HM
            go_wp2
            try simp only [Exit.noGoto_ret]
            go_ret
            exact blk_no HM2.out (by decide) (HH.out.belowL HC2.out)
          · have d3 : decide ((286 : Int) ≤ s) = false := decide_eq_false hs3
            have HP := Lib.hid (iMatch_any L R G most p2 H2 g2 bs out1 dist w2 vo1 s HI2.out HX22.out HA21.out ⟨by omega, by omega⟩)
            have HMO := Lib.hid (codedM_more bs most dist s p2 out1)
            have HM2 : Hid (RR = if (matchM bs most dist s p2 out1).1 ≠ 0 then matchM bs most dist s p2 out1 else codedM bs most lit dist f' (matchM bs most dist s p2 out1).2.1 (matchM bs most dist s p2 out1).2.2) := Lib.hid (HM.out.trans (by simp only [h30, if_false, if_neg hs1, if_neg hs2, if_neg hs3]))
            clear HM
            generalize matchM bs most dist s p2 out1 = M at *
            obtain ⟨em, pm, om⟩ := M
            simp only at HM2 HMO
            go_wp2_with fail
            refine HP.out.mono ?_
            rintro e w3 ⟨rfl, hB3, hP3⟩
            simp only at hP3
            by_cases hem : em = 0
            · subst hem
              have HM3 := Lib.hid (HM2.out.trans (if_neg h30))
              have HP3 := Lib.hid (PutA.trans HC2.out HF2.out (hP3 rfl))
              have HMO2 := HMO.out rfl ⟨by omega, by omega⟩
              clear hP3
              go_wp2
              go_roundw
              case rel => exact ⟨f', pm, om, HM3.out, by omega, HP3.out⟩
              case measure =>
                obtain ⟨vo3, hI3, _⟩ := HP3.out
                have := hI3.ol
                rw [hI3.lenAt, HL1.out]
                omega
            · have d4 : (em == 0) = false := by simpa using hem
              have d5 : (em != 0) = true := by simpa using hem
              have HM3 := Lib.hid (HM2.out.trans (if_pos hem))
              have HB3 := Lib.hid ((HH.out.belowL HC2.out).trans hB3)
              clear hP3 hB3
              go_wp2
              try simp only [Exit.noGoto_ret]
              go_ret
              exact blk_no HM3.out hem HB3.out
    · have d1 : (er == 0) = false := by simpa using her
      have d2 : (er != 0) = true := by simpa using her
      have HM2 : Hid (RR = (er, p1, out1)) := Lib.hid (HM.out.trans (by simp only [ne_eq, her, not_false_eq_true, if_true]))
      clear HM
      go_wp2
      try simp only [Exit.noGoto_ret]
      go_ret
      exact blk_no HM2.out her (HH.out.belowL HC2.out)
end Go.Proofs.Ytoeipgbnjcgbjaa
