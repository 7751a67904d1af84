/- The document's Map; the statement's to. -/
import Derived.Test.YtbaokenjkbabnaaDoorNmQ
namespace Go.Proofs.YtbaokenjkbabnaaDoor
open Go.RowKit
set_option linter.unusedVariables false

theorem mid_is (f : Bool) (src dst t : List UInt8) (hi : idx src 42 < src.length) : midOk ⟨f, src, dst⟩ t = (decide (¬ t.length < idx src 42 + (src.length - (idx src 42 + 1))) && (decide (t.take (idx src 42) = src.take (idx src 42)) && Lib.hasSuffix t (src.drop (idx src 42 + 1)))) := by
  unfold midOk
  simp only
  have hA : (src.take (idx src 42)).length = idx src 42 := by rw [List.length_take]; omega
  have hB : (src.drop (idx src 42 + 1)).length = src.length - (idx src 42 + 1) := List.length_drop
  generalize src.take (idx src 42) = A at *
  generalize src.drop (idx src 42 + 1) = B at *
  generalize src.length - (idx src 42 + 1) = nb at *
  generalize idx src 42 = i at *
  rw [Bool.eq_iff_iff]
  unfold Lib.hasPrefix Lib.hasSuffix
  simp only [Bool.and_eq_true, decide_eq_true_eq, List.isPrefixOf_iff_prefix, List.isSuffixOf_iff_suffix]
  constructor
  · rintro ⟨h1, h2⟩
    have hl := h2.length_le
    rw [List.length_drop] at hl
    have hp := h1.length_le
    refine ⟨by omega, ?_, h2.trans (List.drop_suffix _ _)⟩
    have := List.prefix_iff_eq_take.1 h1
    rw [hA] at this
    exact this.symm
  · rintro ⟨h1, h2, h3⟩
    refine ⟨List.prefix_iff_eq_take.2 (by rw [hA]; exact h2.symm), ?_⟩
    exact List.suffix_of_suffix_length_le h3 (List.drop_suffix _ _) (by rw [List.length_drop]; omega)
set_option maxRecDepth 100000 in
set_option maxHeartbeats 1000000 in
theorem to_any (p : Sp) (w : World) :
    Calls Tryd.prog 16 #[spV p] w fun e w' => e = .returned (spV p) ∧ Below w.heap.size w w' := by
  obtain ⟨f, src, dst⟩ := p
  unfold spV
  simp only
  generalize mk src = S
  generalize mk dst = D
  have hP := (cel_new3 w 25 (.bool f) (.string S) (.string D)).alloc (.cells #[.bool false, .string ⟨#[]⟩, .string ⟨#[]⟩] 37)
  have hR := cel_new3 (w.alloc (.cells #[.bool f, .string S, .string D] 25)) 37 (.bool false) (.string ⟨#[]⟩) (.string ⟨#[]⟩)
  rw [show (w.alloc (.cells #[.bool f, .string S, .string D] 25)).heap.size = w.heap.size + 1 by simp] at hR
  have hB : Below w.heap.size w ((w.alloc (.cells #[.bool f, .string S, .string D] 25)).alloc (.cells #[.bool false, .string ⟨#[]⟩, .string ⟨#[]⟩] 37)) := ((Below.refl _ _).alloc (Nat.le_refl _) _).alloc (by simp) _
  go_enter Tryd.func16, Tryd.ntmps16
  go_upto_region 1 with (fail)
  generalize ((w.alloc (.cells #[.bool f, .string S, .string D] 25)).alloc (.cells #[.bool false, .string ⟨#[]⟩, .string ⟨#[]⟩] 37)) = w1 at *
  obtain ⟨k0, k1, k2⟩ := cel3 hP
  obtain ⟨r0, r1, r2⟩ := cel3 hR
  have y0 := hR.frozen 0
  have y1 := hR.frozen 1
  have y2 := hR.frozen 2
  have hC10 := (((hR.set 0 (.bool f)).set 1 (.string S)).set 2 (.string D)).congr (f' := fun i => (#[.bool f, .string S, .string D] : Array Value).getD i undef) (three rfl rfl rfl)
  have hB10 : Below w.heap.size w (((w1.setCell ⟨w.heap.size + 1, 0, none⟩ (.bool f)).setCell ⟨w.heap.size + 1, 1, none⟩ (.string S)).setCell ⟨w.heap.size + 1, 2, none⟩ (.string D)) := ((hB.setCell (by simp) _).setCell (by simp) _).setCell (by simp) _
  clear hP hR hB
  go_wp2
  exact bodyPost_ret (v := .agg #[.bool f, .string S, .string D]) (results_cel rfl _ rfl hC10 Tryd.underlying37 rfl info_specR (Nat.le_refl 3) (fun j hj => getD_some hj)) rfl ⟨rfl, hB10⟩
set_option maxRecDepth 100000 in
set_option maxHeartbeats 4000000 in
theorem mapR_any (p : Sp) (t : ByteArray) (w : World) (hG : Good p) (ht : t.size ≤ 140737488352000) :
    Calls Tryd.prog 17 #[spV p, .string t] w fun e w' => e = .returned (mapV (mapL p t.data.toList)) ∧ Below w.heap.size w w' := by
  obtain ⟨RES, hRES⟩ : ∃ RES, mapL p t.data.toList = RES := ⟨_, rfl⟩
  rw [hRES]
  have HRES := Lib.hid hRES
  clear hRES
  obtain ⟨f, src, dst⟩ := p
  have hs1 := hG.s1
  have hd1 := hG.d1
  have heq := hG.eq
  have hsl := hG.sl
  have hdl := hG.dl
  simp only at hs1 hd1 heq hsl hdl
  unfold spV
  simp only
  have hP := cel_new3 w 37 (.bool f) (.string (mk src)) (.string (mk dst))
  have hB : Below w.heap.size w (w.alloc (.cells #[.bool f, .string (mk src), .string (mk dst)] 37)) := (Below.refl _ _).alloc (Nat.le_refl _) _
  have hst : ∀ w', Calls Tryd.prog 35 #[.string (mk src)] w' fun e w'' => e = .returned (.int .i64 (starL src)) ∧ w' = w'' := fun w' => star_any (mk src) w' (by rw [mk_size]; omega)
  by_cases hc : src.count 42 = 0
  · have e0 : starL src = -1 := by unfold starL; rw [if_pos hc]
    rw [e0] at hst
    have HST := Lib.hid hst
    clear hst e0 hs1 hd1 heq
    go_enter Tryd.func17, Tryd.ntmps17
    obtain ⟨k0, k1, k2⟩ := cel3 hP
    go_wp2_with fail
    refine (HST.out _).mono ?_
    rintro e w' ⟨rfl, rfl⟩
    generalize w.alloc (.cells #[.bool f, .string (mk src), .string (mk dst)] 37) = w1 at *
    have hne := str_neq t src
    by_cases he : t.data.toList = src
    · rw [decide_eq_true he] at hne
      have hne2 : (!t.toList == (mk src).toList) = false := by rw [hne]; rfl
      have hva : Calls Tryd.prog 12 #[.string (mk dst)] w1 fun e w' => e = .returned (.bool (validN dst)) ∧ Below w1.heap.size w1 w' := validR_any (mk dst) w1 (by rw [mk_size]; omega)
      have hm : RES = if validN dst = true then some dst else none := by
        rw [← HRES.out]
        unfold mapL
        simp only
        rw [if_pos hc]
        by_cases hv : validN dst = true
        · rw [if_pos ⟨he, hv⟩, if_pos hv]
        · rw [if_neg (fun h => hv h.2), if_neg hv]
      clear he
      have HM := Lib.hid hm
      clear hm hc
      generalize validN dst = V at *
      cases V
      · go_wp2_with fail
        refine hva.mono ?_
        rintro e w3 ⟨rfl, hb3⟩
        go_wp2
        go_ret2
        rw [HM.out]
        exact ⟨rfl, hB.trans (hb3.mono hB.size)⟩
      · go_wp2_with fail
        refine hva.mono ?_
        rintro e w3 ⟨rfl, hb3⟩
        have hP := hP.below hb3 hP.blk
        clear k0 k1 k2
        obtain ⟨k0, k1, k2⟩ := cel3 hP
        go_wp2
        go_ret2
        rw [HM.out]
        exact ⟨rfl, hB.trans (hb3.mono hB.size)⟩
    · rw [decide_eq_false he] at hne
      have hne2 : (!t.toList == (mk src).toList) = true := by rw [hne]; rfl
      have hm : RES = none := by
        rw [← HRES.out]
        unfold mapL
        simp only
        rw [if_pos hc, if_neg (fun h => he h.1)]
      have HM := Lib.hid hm
      clear hm he hc
      go_wp2
      go_ret2
      rw [HM.out]
      exact ⟨rfl, hB⟩
  · have hc1 : src.count 42 = 1 := by omega
    have hcd : dst.count 42 = 1 := by omega
    have hi := idx_lt hc1
    have hj := idx_lt hcd
    have e0 : starL src = (idx src 42 : Int) := by unfold starL; rw [if_neg hc, if_pos hc1]
    rw [e0] at hst
    have hst2 : ∀ w', Calls Tryd.prog 35 #[.string (mk dst)] w' fun e w'' => e = .returned (.int .i64 (idx dst 42 : Int)) ∧ w' = w'' := fun w' => by
      have := star_any (mk dst) w' (by rw [mk_size]; omega)
      rw [mk_data, show starL dst = (idx dst 42 : Int) by unfold starL; rw [if_neg (by omega), if_pos hcd]] at this
      exact this
    have hm : RES = if midOk ⟨f, src, dst⟩ t.data.toList && validN (subst dst (midL ⟨f, src, dst⟩ t.data.toList)) then some (subst dst (midL ⟨f, src, dst⟩ t.data.toList)) else none := by
      rw [← HRES.out]
      unfold mapL
      simp only
      rw [if_neg hc]
    rw [mid_is f src dst _ hi] at hm
    unfold midL at hm
    simp only at hm
    have a1 : (mk src).extract 0 (idx src 42) = mk (src.take (idx src 42)) := by rw [mk_ext0, mk_data]
    have a2 : (mk src).extract (idx src 42 + 1) (mk src).size = mk (src.drop (idx src 42 + 1)) := by rw [mk_extE, mk_data]
    have a3 : (mk (src.take (idx src 42))).size = idx src 42 := by rw [mk_size, List.length_take]; omega
    have a4 : (mk (src.drop (idx src 42 + 1))).size = src.length - (idx src 42 + 1) := by rw [mk_size, List.length_drop]
    have hnb : src.length - (idx src 42 + 1) ≤ 100 := by omega
    have hsz : (mk src).size = src.length := mk_size src
    have hdz : (mk dst).size = dst.length := mk_size dst
    have hsub : ∀ x, subst dst x = dst.take (idx dst 42) ++ x ++ dst.drop (idx dst 42 + 1) := fun x => rfl
    have HSUB := Lib.hid hsub
    clear hsub hs1 hd1 heq hc hc1 hcd HRES e0 hG
    generalize src.length - (idx src 42 + 1) = nb at *
    generalize src.take (idx src 42) = Aq at *
    generalize src.drop (idx src 42 + 1) = Bq at *
    generalize idx src 42 = i at *
    have hen : ∀ w', Calls Tryd.prog 32 #[.string t, .string (mk Bq)] w' fun e w'' => e = .returned (.bool (Lib.hasSuffix t.data.toList Bq)) ∧ w' = w'' := fun w' => ends_any t (mk Bq) w' (by omega)
    have HEN := Lib.hid hen
    have HST := Lib.hid hst
    have HST2 := Lib.hid hst2
    have HA1 := Lib.hid a1
    have HA2 := Lib.hid a2
    clear hen hst hst2
    have c0 : (0 : Int) ≤ (i : Int) := by omega
    have c1 : decide ((i : Int) < 0) = false := decide_eq_false (by omega)
    have c2 : (i : Int) ≤ ((mk src).size : Int) := by omega
    have c3 : (0 : Int) ≤ (i : Int) + 1 := by omega
    have c4 : (i : Int) + 1 ≤ ((mk src).size : Int) := by omega
    have c5 : IntKind.i64.wrap ((i : Int) + 1) = (i : Int) + 1 := IntWalk.i64_in _ (by omega)
    have c6 : IntKind.i64.wrap ((i : Int) + (nb : Int)) = (i : Int) + (nb : Int) := IntWalk.i64_in _ (by omega)
    have HSZ := Lib.hid hsz
    have HDZ := Lib.hid hdz
    have HX := Lib.hid (show i ≤ 100 ∧ idx dst 42 ≤ 100 from by omega)
    clear hsz hdz
    by_cases hlen : t.size < i + nb
    · have d1 : decide ((t.size : Int) < (i : Int) + (nb : Int)) = true := decide_eq_true (by omega)
      have d1' : decide (t.size < i + nb) = true := decide_eq_true hlen
      have hr : RES = none := by
        rw [hm, decide_eq_false (show ¬ ¬ t.data.toList.length < i + nb by rw [← Lib.size_eq]; omega)]
        rfl
      have HM := Lib.hid hr
      clear hr hm hlen
      obtain ⟨k0, k1, k2⟩ := cel3 hP
      go_enter Tryd.func17, Tryd.ntmps17
      go_wp2_with fail
      refine (HST.out _).mono ?_
      rintro e w' ⟨rfl, rfl⟩
      generalize w.alloc (.cells #[.bool f, .string (mk src), .string (mk dst)] 37) = w1 at *
      go_wp2
      go_ret2
      rw [HM.out]
      exact ⟨rfl, hB⟩
    · have d1 : decide ((t.size : Int) < (i : Int) + (nb : Int)) = false := decide_eq_false (by omega)
      have d1' : decide (t.size < i + nb) = false := decide_eq_false hlen
      rw [decide_eq_true (show ¬ t.data.toList.length < i + nb by rw [← Lib.size_eq]; omega), Bool.true_and] at hm
      have c7 : (i : Int) ≤ (t.size : Int) := by omega
      have hne := str_neq (t.extract 0 i) Aq
      rw [show (t.extract 0 i).data.toList = t.data.toList.take i by rw [mk_ext0, mk_data]] at hne
      by_cases he : t.data.toList.take i = Aq
      · rw [decide_eq_true he] at hne hm
        rw [Bool.true_and] at hm
        have hne2 : (!(t.extract 0 i).toList == (mk Aq).toList) = false := by rw [hne]; rfl
        have HEN1 := HEN.out
        by_cases hf : Lib.hasSuffix t.data.toList Bq = true
        · rw [hf] at hm HEN1
          rw [Bool.true_and] at hm
          have hva := fun w' => validR_any (mk (subst dst ((t.data.toList.drop i).take (t.data.toList.length - i - nb)))) w'
          obtain ⟨hh, hh1, hh2⟩ : ∃ hh : Nat, hh = t.size - nb ∧ i ≤ hh := ⟨_, rfl, by omega⟩
          have e1 : IntKind.i64.wrap ((t.size : Int) - (nb : Int)) = (hh : Int) := by rw [IntWalk.i64_in _ (by omega)]; omega
          have e2 : (i : Int) ≤ (hh : Int) := by omega
          have e3 : (hh : Int) ≤ (t.size : Int) := by omega
          have b1 : (0 : Int) ≤ (idx dst 42 : Int) := by omega
          have b2 : decide ((idx dst 42 : Int) < 0) = false := decide_eq_false (by omega)
          have b3 : (idx dst 42 : Int) ≤ ((mk dst).size : Int) := by have := HDZ.out; omega
          have b4 : (0 : Int) ≤ (idx dst 42 : Int) + 1 := by omega
          have b5 : (idx dst 42 : Int) + 1 ≤ ((mk dst).size : Int) := by have := HDZ.out; omega
          have b6 : IntKind.i64.wrap ((idx dst 42 : Int) + 1) = (idx dst 42 : Int) + 1 := IntWalk.i64_in _ (by have := HX.out; omega)
          have htot : (mk dst).extract 0 (idx dst 42) ++ t.extract i hh ++ (mk dst).extract (idx dst 42 + 1) (mk dst).size = mk (subst dst ((t.data.toList.drop i).take (t.data.toList.length - i - nb))) := by
            rw [HSUB.out, mk_ext0, mk_ext t i hh, mk_extE, mk_app, mk_app, mk_data, show hh - i = t.data.toList.length - i - nb by rw [← Lib.size_eq]; omega]
          have hUl : (subst dst ((t.data.toList.drop i).take (t.data.toList.length - i - nb))).length ≤ 140737488352300 := by
            rw [HSUB.out]
            simp only [List.length_append, List.length_take, List.length_drop]
            rw [← Lib.size_eq]
            omega
          have s1 : ((mk dst).extract 0 (idx dst 42)).size ≤ 100 := by rw [ByteArray.size_extract]; have := HX.out; omega
          have s2 : (t.extract i hh).size ≤ 140737488352000 := by rw [ByteArray.size_extract]; omega
          have s3 : ((mk dst).extract (idx dst 42 + 1) (mk dst).size).size ≤ 100 := by rw [ByteArray.size_extract]; have := HDZ.out; omega
          have s4 : (mk dst).size ≤ 100 := by have := HDZ.out; omega
          have s5 : idx dst 42 ≤ 100 := HX.out.2
          generalize subst dst ((t.data.toList.drop i).take (t.data.toList.length - i - nb)) = U at *
          have hva : ∀ w', Calls Tryd.prog 12 #[.string (mk U)] w' fun e w'' => e = .returned (.bool (validN U)) ∧ Below w'.heap.size w' w'' := fun w' => hva w' (by rw [mk_size]; omega)
          have HVA := Lib.hid hva
          have HM := Lib.hid hm
          clear hva hm he hf hUl hj hi hh1 hlen
          generalize idx dst 42 = j at *
          obtain ⟨k0, k1, k2⟩ := cel3 hP
          go_enter Tryd.func17, Tryd.ntmps17
          go_wp2_with fail
          refine (HST.out _).mono ?_
          rintro e w' ⟨rfl, rfl⟩
          generalize w.alloc (.cells #[.bool f, .string (mk src), .string (mk dst)] 37) = w1 at *
          go_wp2_with fail
          refine (HEN1 _).mono ?_
          rintro e w' ⟨rfl, rfl⟩
          go_wp2_with fail
          refine (HST2.out _).mono ?_
          rintro e w' ⟨rfl, rfl⟩
          go_upto_region 13 with (fail)
          go_quiet (fail)
          have hB := Below.drewN hB nq
          generalize w1.drewN nq = w2 at *
          clear k0 k1 k2 htot s1 s2 s3 s4 s5 hP
          generalize validN U = V at *
          cases V
          · go_wp2_with fail
            refine (HVA.out _).mono ?_
            rintro e w3 ⟨rfl, hb3⟩
            go_wp2
            go_ret2
            rw [HM.out]
            exact ⟨rfl, hB.trans (hb3.mono hB.size)⟩
          · go_wp2_with fail
            refine (HVA.out _).mono ?_
            rintro e w3 ⟨rfl, hb3⟩
            go_wp2
            go_ret2
            rw [HM.out]
            exact ⟨rfl, hB.trans (hb3.mono hB.size)⟩
        · have hf' : Lib.hasSuffix t.data.toList Bq = false := by simpa using hf
          rw [hf'] at hm HEN1
          have hr : RES = none := by rw [hm]; rfl
          have HM := Lib.hid hr
          clear hr hm he hf hf'
          obtain ⟨k0, k1, k2⟩ := cel3 hP
          go_enter Tryd.func17, Tryd.ntmps17
          go_wp2_with fail
          refine (HST.out _).mono ?_
          rintro e w' ⟨rfl, rfl⟩
          generalize w.alloc (.cells #[.bool f, .string (mk src), .string (mk dst)] 37) = w1 at *
          go_wp2_with fail
          refine (HEN1 _).mono ?_
          rintro e w' ⟨rfl, rfl⟩
          go_wp2
          go_ret2
          rw [HM.out]
          exact ⟨rfl, hB⟩
      · rw [decide_eq_false he] at hne hm
        have hne2 : (!(t.extract 0 i).toList == (mk Aq).toList) = true := by rw [hne]; rfl
        have hr : RES = none := by rw [hm]; rfl
        have HM := Lib.hid hr
        clear hr hm he
        obtain ⟨k0, k1, k2⟩ := cel3 hP
        go_enter Tryd.func17, Tryd.ntmps17
        go_wp2_with fail
        refine (HST.out _).mono ?_
        rintro e w' ⟨rfl, rfl⟩
        generalize w.alloc (.cells #[.bool f, .string (mk src), .string (mk dst)] 37) = w1 at *
        go_wp2
        go_ret2
        rw [HM.out]
        exact ⟨rfl, hB⟩
end Go.Proofs.YtbaokenjkbabnaaDoor
