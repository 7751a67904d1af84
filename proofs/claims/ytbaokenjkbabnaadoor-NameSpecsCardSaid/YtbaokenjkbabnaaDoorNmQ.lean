/- The document's Parse. Printed by gennmq.py. -/
import Derived.Test.YtbaokenjkbabnaaDoorNmK
namespace Go.Proofs.YtbaokenjkbabnaaDoor
open Go.RowKit
set_option linter.unusedVariables false

theorem first58 (l : List UInt8) (k : Nat) (h : l[k]? = some 58) (h0 : 58 ∉ l.take k) : idx l 58 = k ∧ colonL l = true := by
  have hl := (List.getElem?_eq_some_iff.1 h).1
  have hm : 58 ∈ l := by rw [← (List.getElem?_eq_some_iff.1 h).2]; exact List.getElem_mem hl
  refine ⟨?_, by unfold colonL; exact decide_eq_true fun hc => List.count_eq_zero.1 hc hm⟩
  rcases idx_cases 58 l with ⟨h1, h2⟩ | ⟨i, h1, h2, h3, h4⟩
  · exact absurd hm h2
  · unfold idx
    rw [h1, Int.toNat_natCast]
    rcases Nat.lt_trichotomy i k with hlt | rfl | hgt
    · exfalso
      apply h0
      rw [List.mem_iff_getElem?]
      exact ⟨i, by rw [List.getElem?_take, if_pos hlt]; exact h3⟩
    · rfl
    · exfalso
      apply h4
      rw [List.mem_iff_getElem?]
      exact ⟨k, by rw [List.getElem?_take, if_pos hgt]; exact h⟩
theorem none58 (l : List UInt8) (h : 58 ∉ l) : colonL l = false := by unfold colonL; rw [List.count_eq_zero.2 h]; rfl
theorem take_not58 (l : List UInt8) (k : Nat) (c : UInt8) (h : l[k]? = some c) (h0 : 58 ∉ l.take k) (hc : c ≠ 58) : 58 ∉ l.take (k + 1) := by
  have hl := (List.getElem?_eq_some_iff.1 h).1
  rw [List.take_succ_eq_append_getElem hl, (List.getElem?_eq_some_iff.1 h).2, List.mem_append]
  rintro (h | h)
  · exact h0 h
  · rw [List.mem_singleton] at h; exact hc h.symm
theorem get_mkL (L : List UInt8) (k : Nat) (h : k < (mk L).size) : L[k]? = some (mk L)[k] := by
  have hl : k < L.length := by rw [← mk_size]; exact h
  rw [List.getElem?_eq_getElem hl]
  rfl
structure PreR (w : World) (f : Bool) (wx : World) : Prop where
  r : Cel wx w.heap.size 37 3 (fun i => (#[.bool false, .string ⟨#[]⟩, .string ⟨#[]⟩] : Array Value).getD i undef)
  p : Cel wx (w.heap.size + 1) 37 3 (fun i => (#[.bool f, .string ⟨#[]⟩, .string ⟨#[]⟩] : Array Value).getD i undef)
  b : Below w.heap.size w wx
theorem plus_cases (s : ByteArray) (h : 0 < s.size) : plusL s.data.toList = decide (s[0] = 43) := by
  have hg := get_toList s 0 h
  have hg0 : s.get! 0 = s[0] := by have := get_at s 0 h; rwa [Nat.add_zero] at this
  rw [hg0] at hg
  unfold plusL Lib.hasPrefix
  cases hl : s.data.toList with
  | nil => rw [hl] at hg; cases hg
  | cons x xs =>
    rw [hl] at hg
    injection hg with hg
    simp only [List.isPrefixOf, Bool.and_true]
    rw [hg]
    by_cases h43 : s[0] = 43
    · rw [h43]; rfl
    · rw [decide_eq_false h43, beq_eq_false_iff_ne]; exact fun e => h43 e.symm
set_option maxRecDepth 100000 in
set_option maxHeartbeats 4000000 in
theorem parseR_any (s : ByteArray) (w : World) (hs : s.size ≤ 140737488352000) :
    Calls Tryd.prog 15 #[.string s] w fun e w' => e = .returned (parseV (parseL s.data.toList)) ∧ Below w.heap.size w w' := by
  have hbl : (bodyL s.data.toList).length ≤ 140737488352000 := by
    unfold bodyL
    rw [Lib.size_eq] at hs
    split
    · rw [List.length_drop]; omega
    · exact hs
  obtain ⟨RES, hRES⟩ : ∃ RES, parseL s.data.toList = RES := ⟨_, rfl⟩
  rw [hRES]
  unfold parseL at hRES
  have HRES := Lib.hid hRES
  clear hRES
  have HBL := Lib.hid hbl
  clear hbl
  have hR0 := (cel_new3 w 37 (.bool false) (.string ⟨#[]⟩) (.string ⟨#[]⟩)).alloc (.cells #[.bool false, .string ⟨#[]⟩, .string ⟨#[]⟩] 37)
  have hP0 := cel_new3 (w.alloc (.cells #[.bool false, .string ⟨#[]⟩, .string ⟨#[]⟩] 37)) 37 (.bool false) (.string ⟨#[]⟩) (.string ⟨#[]⟩)
  rw [show (w.alloc (.cells #[.bool false, .string ⟨#[]⟩, .string ⟨#[]⟩] 37)).heap.size = w.heap.size + 1 by simp] at hP0
  have hB0 : Below w.heap.size w ((w.alloc (.cells #[.bool false, .string ⟨#[]⟩, .string ⟨#[]⟩] 37)).alloc (.cells #[.bool false, .string ⟨#[]⟩, .string ⟨#[]⟩] 37)) := ((Below.refl _ _).alloc (Nat.le_refl _) _).alloc (by simp) _
  go_enter Tryd.func15, Tryd.ntmps15
  go_upto_region 2 with (fail)
  go_cut [19] (fun v wx => v = .bool (plusL s.data.toList) ∧ wx = (w.alloc (.cells #[.bool false, .string ⟨#[]⟩, .string ⟨#[]⟩] 37)).alloc (.cells #[.bool false, .string ⟨#[]⟩, .string ⟨#[]⟩] 37))
  case first =>
    by_cases h0 : 0 < s.size
    · have d0 : decide (0 < s.size) = true := decide_eq_true h0
      have d0' : decide ((0 : Int) < (s.size : Int)) = true := decide_eq_true (by omega)
      have hpl := plus_cases s h0
      by_cases h43 : s[0] = 43
      · have q1 : ((s[0].toNat : Int) == 43) = true := by rw [h43]; rfl
        have q2 : (s[0].toNat == 43) = true := by rw [h43]; rfl
        rw [decide_eq_true h43] at hpl
        have HPL := Lib.hid hpl
        clear hpl h43
        go_wp2
        go_meet
        rw [HPL.out]
        exact ⟨rfl, rfl⟩
      · have q1 : ((s[0].toNat : Int) == 43) = false := by
          rw [beq_eq_false_iff_ne]; intro h
          exact h43 (UInt8.toNat_inj.1 (by show s[0].toNat = 43; omega))
        have q2 : (s[0].toNat == 43) = false := by
          rw [beq_eq_false_iff_ne]; intro h
          exact h43 (UInt8.toNat_inj.1 (by show s[0].toNat = 43; omega))
        rw [decide_eq_false h43] at hpl
        have HPL := Lib.hid hpl
        clear hpl h43
        go_wp2
        go_meet
        rw [HPL.out]
        exact ⟨rfl, rfl⟩
    · have d0 : decide (0 < s.size) = false := decide_eq_false h0
      have d0' : decide ((0 : Int) < (s.size : Int)) = false := decide_eq_false (by omega)
      have hpl : plusL s.data.toList = false := by
        have : s.data.toList = [] := List.length_eq_zero_iff.1 (by rw [← Lib.size_eq]; omega)
        rw [this]; rfl
      have HPL := Lib.hid hpl
      clear hpl
      go_wp2
      go_meet
      rw [HPL.out]
      exact ⟨rfl, rfl⟩
  case rest =>
  obtain ⟨rfl, rfl⟩ := hcut
  go_upto_if 19 with (fail)
  go_cut [0] (fun v wx => v = .string (mk (bodyL s.data.toList)) ∧ PreR w (plusL s.data.toList) wx)
  case first =>
    generalize ((w.alloc (.cells #[.bool false, .string ⟨#[]⟩, .string ⟨#[]⟩] 37)).alloc (.cells #[.bool false, .string ⟨#[]⟩, .string ⟨#[]⟩] 37)) = w0 at *
    obtain ⟨k0, k1, k2⟩ := cel3 hP0
    by_cases hpl : plusL s.data.toList = true
    · have h0 : 0 < s.size := by
        rw [Lib.size_eq]
        cases hl : s.data.toList with
        | nil => rw [hl] at hpl; exact absurd hpl (by decide)
        | cons x xs => simp
      have i0 : (1 : Int) ≤ (s.size : Int) := by omega
      have z0 := hP0.frozen 0
      have hP1 := (hP0.set 0 (.bool true)).congr (f' := fun i => (#[.bool true, .string ⟨#[]⟩, .string ⟨#[]⟩] : Array Value).getD i undef) (three rfl rfl rfl)
      have hR1 : Cel (w0.setCell ⟨w.heap.size + 1, 0, none⟩ (.bool true)) w.heap.size 37 3 _ := hR0.setFar (by simp) _
      have hB1 := hB0.setCell (p := ⟨w.heap.size + 1, 0, none⟩) (by simp) (.bool true)
      have hbd : s.extract 1 s.size = mk (bodyL s.data.toList) := by unfold bodyL; rw [hpl, if_pos rfl, mk_extE]
      have HBD := Lib.hid hbd
      have HPL := Lib.hid hpl
      rw [hpl]
      clear hpl hbd hP0 hR0 hB0
      go_wp2
      go_meet
      rw [HBD.out, HPL.out]
      exact ⟨rfl, hR1, hP1, hB1⟩
    · have hpl : plusL s.data.toList = false := by simpa using hpl
      have hbd : s = mk (bodyL s.data.toList) := by unfold bodyL; rw [hpl, if_neg (by decide), mk_of]
      have HBD := Lib.hid hbd
      have HPL := Lib.hid hpl
      rw [hpl]
      clear hpl hbd
      go_wp2
      go_meet
      rw [HPL.out, ← HBD.out]
      exact ⟨rfl, hR0, hP0, hB0⟩
  case rest =>
    obtain ⟨rfl, hpre⟩ := hcut
    clear hR0 hP0 hB0
    generalize plusL s.data.toList = f at *
    generalize bodyL s.data.toList = L at *
    obtain ⟨hR, hP, hB⟩ := hpre
    generalize wc = w1 at *
    have hLl := HBL.out
    have HSL := Lib.hid (show (mk L).size ≤ 140737488352000 by rw [mk_size]; exact hLl)
    go_upto_region 7 with (fail)
    go_loopw [5, 6] (fun a i wr => a = .int .i64 (-1) ∧ wr = w1 ∧ ∃ k : Nat, i = .int .i64 (k : Int) ∧ k ≤ (mk L).size ∧ 58 ∉ L.take k) (fun _ i _ => (mk L).size - (intOf i).toNat)
    case atStart => exact ⟨rfl, rfl, 0, rfl, Nat.zero_le _, by simp⟩
    case round =>
      obtain ⟨rfl, rfl, k, rfl, hk, hno⟩ := hrel
      by_cases hlt : k < (mk L).size
      · have g1 : decide (k < (mk L).size) = true := decide_eq_true hlt
        have g1' : decide ((k : Int) < ((mk L).size : Int)) = true := decide_eq_true (by omega)
        have i1 : (0 : Int) ≤ (k : Int) := by omega
        have i2 : (k : Int) < ((mk L).size : Int) := by omega
        have hg := get_mkL L k hlt
        by_cases h58 : (mk L)[k] = 58
        · rw [h58] at hg
          have q1 : (((mk L)[k].toNat : Int) == 58) = true := by rw [h58]; rfl
          have q1' : ((mk L)[k].toNat == 58) = true := by rw [h58]; rfl
          obtain ⟨hx, hc⟩ := first58 L k hg hno
          have hSr : srcL L = L.take k := by unfold srcL; rw [hc, hx]; rfl
          have hDd : dstL L = L.drop (k + 1) := by unfold dstL; rw [hc, hx]; rfl
          rw [hc] at HRES
          have x1 : (mk L).extract 0 k = mk (srcL L) := by rw [hSr, mk_ext0, mk_data]
          have x2 : (mk L).extract (k + 1) (mk L).size = mk (dstL L) := by rw [hDd, mk_extE, mk_data]
          have hsl : (srcL L).length ≤ 140737488352000 := by rw [hSr, List.length_take]; omega
          have hdl : (dstL L).length ≤ 140737488352000 := by rw [hDd, List.length_drop]; omega
          have i3 : (k : Int) ≤ ((mk L).size : Int) := by omega
          have i4 : (k : Int) + 1 ≤ ((mk L).size : Int) := by omega
          have i5 : (0 : Int) ≤ (k : Int) + 1 := by omega
          have kw : IntKind.i64.wrap ((k : Int) + 1) = (k : Int) + 1 := IntWalk.i64_in _ (by have := HSL.out; omega)
          have d2 : decide ((0 : Int) ≤ (k : Int)) = true := decide_eq_true i1
          clear hx hc hSr hDd hg hno h58
          generalize srcL L = Sr at *
          generalize dstL L = D at *
          have hsideS : ∀ w', Calls Tryd.prog 34 #[.string (mk Sr)] w' fun e w'' => e = .returned (.tuple #[.bool (sideL Sr).1, .bool (sideL Sr).2]) ∧ Below w'.heap.size w' w'' := fun w' => may_any (mk Sr) w' (by rw [mk_size]; omega)
          have hsideD : ∀ w', Calls Tryd.prog 34 #[.string (mk D)] w' fun e w'' => e = .returned (.tuple #[.bool (sideL D).1, .bool (sideL D).2]) ∧ Below w'.heap.size w' w'' := fun w' => may_any (mk D) w' (by rw [mk_size]; omega)
          have HS := Lib.hid hsideS
          have HD := Lib.hid hsideD
          have HE : Hid (Sr = [] → (sideL Sr).1 = false) := Lib.hid (fun h => by rw [h]; decide)
          clear hsideS hsideD hsl hdl
          unfold okL at HRES
          generalize (sideL D).1 = d1 at *
          generalize (sideL D).2 = d2 at *
          generalize (sideL Sr).1 = s1 at *
          generalize (sideL Sr).2 = s2 at *
          obtain ⟨k0, k1, k2⟩ := cel3 hP
          have z1 := hP.frozen 1
          have z2 := hP.frozen 2
          clear hLl HBL
          go_upto_region 16 with (fail)
          have hP := (((((hP.set 1 (.string (mk L))).set 2 (.string (mk L))).set 1 (.string (mk Sr))).set 2 (.string (mk D)))).congr (f' := fun i => (#[.bool f, .string (mk Sr), .string (mk D)] : Array Value).getD i undef) (three rfl rfl rfl)
          have hR : Cel ((((wr.setCell ⟨w.heap.size + 1, 1, none⟩ (.string (mk L))).setCell ⟨w.heap.size + 1, 2, none⟩ (.string (mk L))).setCell ⟨w.heap.size + 1, 1, none⟩ (.string (mk Sr))).setCell ⟨w.heap.size + 1, 2, none⟩ (.string (mk D))) w.heap.size 37 3 _ := ((((hR.setFar (by simp) _).setFar (by simp) _).setFar (by simp) _).setFar (by simp) _)
          have hB : Below w.heap.size w ((((wr.setCell ⟨w.heap.size + 1, 1, none⟩ (.string (mk L))).setCell ⟨w.heap.size + 1, 2, none⟩ (.string (mk L))).setCell ⟨w.heap.size + 1, 1, none⟩ (.string (mk Sr))).setCell ⟨w.heap.size + 1, 2, none⟩ (.string (mk D))) := ((((hB.setCell (by simp) _).setCell (by simp) _).setCell (by simp) _).setCell (by simp) _)
          clear k0 k1 k2 z1 z2
          generalize ((((wr.setCell ⟨w.heap.size + 1, 1, none⟩ (.string (mk L))).setCell ⟨w.heap.size + 1, 2, none⟩ (.string (mk L))).setCell ⟨w.heap.size + 1, 1, none⟩ (.string (mk Sr))).setCell ⟨w.heap.size + 1, 2, none⟩ (.string (mk D))) = w5 at *
          obtain ⟨k0, k1, k2⟩ := cel3 hP
          go_wp2_with fail
          refine (HS.out w5).mono ?_
          rintro e w3 ⟨rfl, hb3⟩
          have hR := hR.below hb3 hR.blk
          have hP := hP.below hb3 hP.blk
          have hB := hB.trans (hb3.mono hB.size)
          clear k0 k1 k2 hb3
          obtain ⟨k0, k1, k2⟩ := cel3 hP
          go_wp2_with fail
          refine (HD.out w3).mono ?_
          rintro e w4 ⟨rfl, hb4⟩
          have hR := hR.below hb4 hR.blk
          have hP := hP.below hb4 hP.blk
          have hB := hB.trans (hb4.mono hB.size)
          clear k0 k1 k2 hb4
          obtain ⟨k0, k1, k2⟩ := cel3 hP
          by_cases he : Sr = []
          · subst he
            have q1 : (mk []).toList = [] := by rw [Lib.toList_data]; rfl
            have q2 : (mk []).toList.isEmpty = true := by rw [q1]; rfl
            cases d1
            · have hv : Hid (parseV RES = .tuple #[.agg #[.bool false, .string (mk []), .string (mk [])], .int .i64 3]) := by show _ = _; rw [← HRES.out]; first | rfl | (simp [parseV]; done) | (fail; done) | (simp [parseV, spV]; done) | (fail; done)
              go_wp2_with (refine wpList_store_part (vs := #[.bool false, .string (mk []), .string (mk [])]) (off := 0) rfl (.tmp 2) (.tmp 79) rfl rfl rfl hR info_specR (by decide) (by simp [Value.oneCell']) ?_; intro w9 hC9 hg9 hs9; have hC10 := cel_stored rfl hC9)
              exact bodyPost_ret (v := .tuple #[.agg #[.bool false, .string (mk []), .string (mk [])], .int .i64 3]) (results_cel2 rfl _ _ rfl rfl hC10 Tryd.underlying37 rfl info_specR (by decide) (fun j hj => getD_some hj)) rfl ⟨by rw [hv.out], hB.grown hg9 hB.size (fun k h => by injection h with h; omega)⟩
            · cases d2
              · have hv : Hid (parseV RES = .tuple #[.agg #[.bool f, .string (mk []), .string (mk D)], .int .i64 0]) := by show _ = _; rw [← HRES.out]; first | rfl | (simp [parseV]; done) | (fail; done) | (simp [parseV, spV]; done) | (fail; done)
                obtain ⟨r0, r1, r2⟩ := cel3 hR
                have y0 := hR.frozen 0
                have y1 := hR.frozen 1
                have y2 := hR.frozen 2
                have hC10 := (((hR.set 0 (.bool f)).set 1 (.string (mk []))).set 2 (.string (mk D))).congr (f' := fun i => (#[.bool f, .string (mk []), .string (mk D)] : Array Value).getD i undef) (three rfl rfl rfl)
                have hB10 : Below w.heap.size w (((w4.setCell ⟨w.heap.size, 0, none⟩ (.bool f)).setCell ⟨w.heap.size, 1, none⟩ (.string (mk []))).setCell ⟨w.heap.size, 2, none⟩ (.string (mk D))) := ((hB.setCell (Nat.le_refl _) _).setCell (Nat.le_refl _) _).setCell (Nat.le_refl _) _
                clear hP hR hB
                go_wp2
                exact bodyPost_ret (v := .tuple #[.agg #[.bool f, .string (mk []), .string (mk D)], .int .i64 0]) (results_cel2 rfl _ _ rfl rfl hC10 Tryd.underlying37 rfl info_specR (Nat.le_refl 3) (fun j hj => getD_some hj)) rfl ⟨by rw [hv.out], hB10⟩
              · have hv : Hid (parseV RES = .tuple #[.agg #[.bool false, .string (mk []), .string (mk [])], .int .i64 3]) := by show _ = _; rw [← HRES.out]; first | rfl | (simp [parseV]; done) | (fail; done) | (simp [parseV, spV]; done) | (fail; done)
                go_wp2_with (refine wpList_store_part (vs := #[.bool false, .string (mk []), .string (mk [])]) (off := 0) rfl (.tmp 2) (.tmp 79) rfl rfl rfl hR info_specR (by decide) (by simp [Value.oneCell']) ?_; intro w9 hC9 hg9 hs9; have hC10 := cel_stored rfl hC9)
                exact bodyPost_ret (v := .tuple #[.agg #[.bool false, .string (mk []), .string (mk [])], .int .i64 3]) (results_cel2 rfl _ _ rfl rfl hC10 Tryd.underlying37 rfl info_specR (by decide) (fun j hj => getD_some hj)) rfl ⟨by rw [hv.out], hB.grown hg9 hB.size (fun k h => by injection h with h; omega)⟩
          · have q1 : (mk Sr).toList.isEmpty = false := by rw [Lib.toList_data, List.isEmpty_eq_false_iff]; exact he
            cases s1
            · have hv : Hid (parseV RES = .tuple #[.agg #[.bool false, .string (mk []), .string (mk [])], .int .i64 3]) := by show _ = _; rw [← HRES.out]; first | rfl | (simp [parseV]; done) | (simp [parseV, he]; done) | (simp [parseV, spV]; done) | (simp [parseV, spV, he]; done)
              go_wp2_with (refine wpList_store_part (vs := #[.bool false, .string (mk []), .string (mk [])]) (off := 0) rfl (.tmp 2) (.tmp 79) rfl rfl rfl hR info_specR (by decide) (by simp [Value.oneCell']) ?_; intro w9 hC9 hg9 hs9; have hC10 := cel_stored rfl hC9)
              exact bodyPost_ret (v := .tuple #[.agg #[.bool false, .string (mk []), .string (mk [])], .int .i64 3]) (results_cel2 rfl _ _ rfl rfl hC10 Tryd.underlying37 rfl info_specR (by decide) (fun j hj => getD_some hj)) rfl ⟨by rw [hv.out], hB.grown hg9 hB.size (fun k h => by injection h with h; omega)⟩
            · cases d1
              · have hv : Hid (parseV RES = .tuple #[.agg #[.bool false, .string (mk []), .string (mk [])], .int .i64 3]) := by show _ = _; rw [← HRES.out]; first | rfl | (simp [parseV]; done) | (simp [parseV, he]; done) | (simp [parseV, spV]; done) | (simp [parseV, spV, he]; done)
                go_wp2_with (refine wpList_store_part (vs := #[.bool false, .string (mk []), .string (mk [])]) (off := 0) rfl (.tmp 2) (.tmp 79) rfl rfl rfl hR info_specR (by decide) (by simp [Value.oneCell']) ?_; intro w9 hC9 hg9 hs9; have hC10 := cel_stored rfl hC9)
                exact bodyPost_ret (v := .tuple #[.agg #[.bool false, .string (mk []), .string (mk [])], .int .i64 3]) (results_cel2 rfl _ _ rfl rfl hC10 Tryd.underlying37 rfl info_specR (by decide) (fun j hj => getD_some hj)) rfl ⟨by rw [hv.out], hB.grown hg9 hB.size (fun k h => by injection h with h; omega)⟩
              · cases s2
                · cases d2
                  · have hv : Hid (parseV RES = .tuple #[.agg #[.bool f, .string (mk Sr), .string (mk D)], .int .i64 0]) := by show _ = _; rw [← HRES.out]; first | rfl | (simp [parseV]; done) | (simp [parseV, he]; done) | (simp [parseV, spV]; done) | (simp [parseV, spV, he]; done)
                    obtain ⟨r0, r1, r2⟩ := cel3 hR
                    have y0 := hR.frozen 0
                    have y1 := hR.frozen 1
                    have y2 := hR.frozen 2
                    have hC10 := (((hR.set 0 (.bool f)).set 1 (.string (mk Sr))).set 2 (.string (mk D))).congr (f' := fun i => (#[.bool f, .string (mk Sr), .string (mk D)] : Array Value).getD i undef) (three rfl rfl rfl)
                    have hB10 : Below w.heap.size w (((w4.setCell ⟨w.heap.size, 0, none⟩ (.bool f)).setCell ⟨w.heap.size, 1, none⟩ (.string (mk Sr))).setCell ⟨w.heap.size, 2, none⟩ (.string (mk D))) := ((hB.setCell (Nat.le_refl _) _).setCell (Nat.le_refl _) _).setCell (Nat.le_refl _) _
                    clear hP hR hB
                    go_wp2
                    exact bodyPost_ret (v := .tuple #[.agg #[.bool f, .string (mk Sr), .string (mk D)], .int .i64 0]) (results_cel2 rfl _ _ rfl rfl hC10 Tryd.underlying37 rfl info_specR (Nat.le_refl 3) (fun j hj => getD_some hj)) rfl ⟨by rw [hv.out], hB10⟩
                  · have hv : Hid (parseV RES = .tuple #[.agg #[.bool false, .string (mk []), .string (mk [])], .int .i64 3]) := by show _ = _; rw [← HRES.out]; first | rfl | (simp [parseV]; done) | (simp [parseV, he]; done) | (simp [parseV, spV]; done) | (simp [parseV, spV, he]; done)
                    go_wp2_with (refine wpList_store_part (vs := #[.bool false, .string (mk []), .string (mk [])]) (off := 0) rfl (.tmp 2) (.tmp 79) rfl rfl rfl hR info_specR (by decide) (by simp [Value.oneCell']) ?_; intro w9 hC9 hg9 hs9; have hC10 := cel_stored rfl hC9)
                    exact bodyPost_ret (v := .tuple #[.agg #[.bool false, .string (mk []), .string (mk [])], .int .i64 3]) (results_cel2 rfl _ _ rfl rfl hC10 Tryd.underlying37 rfl info_specR (by decide) (fun j hj => getD_some hj)) rfl ⟨by rw [hv.out], hB.grown hg9 hB.size (fun k h => by injection h with h; omega)⟩
                · cases d2
                  · have hv : Hid (parseV RES = .tuple #[.agg #[.bool false, .string (mk []), .string (mk [])], .int .i64 3]) := by show _ = _; rw [← HRES.out]; first | rfl | (simp [parseV]; done) | (simp [parseV, he]; done) | (simp [parseV, spV]; done) | (simp [parseV, spV, he]; done)
                    go_wp2_with (refine wpList_store_part (vs := #[.bool false, .string (mk []), .string (mk [])]) (off := 0) rfl (.tmp 2) (.tmp 79) rfl rfl rfl hR info_specR (by decide) (by simp [Value.oneCell']) ?_; intro w9 hC9 hg9 hs9; have hC10 := cel_stored rfl hC9)
                    exact bodyPost_ret (v := .tuple #[.agg #[.bool false, .string (mk []), .string (mk [])], .int .i64 3]) (results_cel2 rfl _ _ rfl rfl hC10 Tryd.underlying37 rfl info_specR (by decide) (fun j hj => getD_some hj)) rfl ⟨by rw [hv.out], hB.grown hg9 hB.size (fun k h => by injection h with h; omega)⟩
                  · have hv : Hid (parseV RES = .tuple #[.agg #[.bool f, .string (mk Sr), .string (mk D)], .int .i64 0]) := by show _ = _; rw [← HRES.out]; first | rfl | (simp [parseV]; done) | (simp [parseV, he]; done) | (simp [parseV, spV]; done) | (simp [parseV, spV, he]; done)
                    obtain ⟨r0, r1, r2⟩ := cel3 hR
                    have y0 := hR.frozen 0
                    have y1 := hR.frozen 1
                    have y2 := hR.frozen 2
                    have hC10 := (((hR.set 0 (.bool f)).set 1 (.string (mk Sr))).set 2 (.string (mk D))).congr (f' := fun i => (#[.bool f, .string (mk Sr), .string (mk D)] : Array Value).getD i undef) (three rfl rfl rfl)
                    have hB10 : Below w.heap.size w (((w4.setCell ⟨w.heap.size, 0, none⟩ (.bool f)).setCell ⟨w.heap.size, 1, none⟩ (.string (mk Sr))).setCell ⟨w.heap.size, 2, none⟩ (.string (mk D))) := ((hB.setCell (Nat.le_refl _) _).setCell (Nat.le_refl _) _).setCell (Nat.le_refl _) _
                    clear hP hR hB
                    go_wp2
                    exact bodyPost_ret (v := .tuple #[.agg #[.bool f, .string (mk Sr), .string (mk D)], .int .i64 0]) (results_cel2 rfl _ _ rfl rfl hC10 Tryd.underlying37 rfl info_specR (Nat.le_refl 3) (fun j hj => getD_some hj)) rfl ⟨by rw [hv.out], hB10⟩
        · have q1 : (((mk L)[k].toNat : Int) == 58) = false := by
            rw [beq_eq_false_iff_ne]; intro h
            exact h58 (UInt8.toNat_inj.1 (by show (mk L)[k].toNat = 58; omega))
          have q1' : ((mk L)[k].toNat == 58) = false := by
            rw [beq_eq_false_iff_ne]; intro h
            exact h58 (UInt8.toNat_inj.1 (by show (mk L)[k].toNat = 58; omega))
          have kw : IntKind.i64.wrap ((k : Int) + 1) = ((k + 1 : Nat) : Int) := by rw [IntWalk.i64_in _ (by have := HSL.out; omega)]; rfl
          have HNO := Lib.hid (take_not58 L k _ hg hno h58)
          clear hg hno h58
          go_wp2
          go_roundw
          case rel => exact ⟨rfl, trivial, k + 1, by go_num, by omega, HNO.out⟩
          case measure => simp [intOf]; omega
      · have g1 : decide (k < (mk L).size) = false := decide_eq_false hlt
        have g1' : decide ((k : Int) < ((mk L).size : Int)) = false := decide_eq_false (by omega)
        have hc : colonL L = false := none58 L (by rwa [List.take_of_length_le (by rw [mk_size] at hlt; omega)] at hno)
        have hSr : srcL L = L := by unfold srcL; rw [hc]; rfl
        have hDd : dstL L = L := by unfold dstL; rw [hc]; rfl
        rw [hc, hSr, hDd] at HRES
        have hsl := hLl
        have hdl := hLl
        clear hc hSr hDd hno
        generalize L = Sr at *
        have hsideS : ∀ w', Calls Tryd.prog 34 #[.string (mk Sr)] w' fun e w'' => e = .returned (.tuple #[.bool (sideL Sr).1, .bool (sideL Sr).2]) ∧ Below w'.heap.size w' w'' := fun w' => may_any (mk Sr) w' (by rw [mk_size]; omega)
        have hsideD : ∀ w', Calls Tryd.prog 34 #[.string (mk Sr)] w' fun e w'' => e = .returned (.tuple #[.bool (sideL Sr).1, .bool (sideL Sr).2]) ∧ Below w'.heap.size w' w'' := fun w' => may_any (mk Sr) w' (by rw [mk_size]; omega)
        have HS := Lib.hid hsideS
        have HD := Lib.hid hsideD
        have HE : Hid (Sr = [] → (sideL Sr).1 = false) := Lib.hid (fun h => by rw [h]; decide)
        clear hsideS hsideD hsl hdl
        unfold okL at HRES
        obtain ⟨d1, hd1⟩ : ∃ d1, (sideL Sr).1 = d1 := ⟨_, rfl⟩
        obtain ⟨d2, hd2⟩ : ∃ d2, (sideL Sr).2 = d2 := ⟨_, rfl⟩
        rw [hd1, hd2] at HS HD HRES
        rw [hd1] at HE
        clear hd1 hd2
        obtain ⟨k0, k1, k2⟩ := cel3 hP
        have z1 := hP.frozen 1
        have z2 := hP.frozen 2
        clear hLl HBL
        go_upto_region 16 with (fail)
        have hP := (((hP.set 1 (.string (mk Sr))).set 2 (.string (mk Sr)))).congr (f' := fun i => (#[.bool f, .string (mk Sr), .string (mk Sr)] : Array Value).getD i undef) (three rfl rfl rfl)
        have hR : Cel ((wr.setCell ⟨w.heap.size + 1, 1, none⟩ (.string (mk Sr))).setCell ⟨w.heap.size + 1, 2, none⟩ (.string (mk Sr))) w.heap.size 37 3 _ := ((hR.setFar (by simp) _).setFar (by simp) _)
        have hB : Below w.heap.size w ((wr.setCell ⟨w.heap.size + 1, 1, none⟩ (.string (mk Sr))).setCell ⟨w.heap.size + 1, 2, none⟩ (.string (mk Sr))) := ((hB.setCell (by simp) _).setCell (by simp) _)
        clear k0 k1 k2 z1 z2
        generalize ((wr.setCell ⟨w.heap.size + 1, 1, none⟩ (.string (mk Sr))).setCell ⟨w.heap.size + 1, 2, none⟩ (.string (mk Sr))) = w5 at *
        obtain ⟨k0, k1, k2⟩ := cel3 hP
        go_wp2_with fail
        refine (HS.out w5).mono ?_
        rintro e w3 ⟨rfl, hb3⟩
        have hR := hR.below hb3 hR.blk
        have hP := hP.below hb3 hP.blk
        have hB := hB.trans (hb3.mono hB.size)
        clear k0 k1 k2 hb3
        obtain ⟨k0, k1, k2⟩ := cel3 hP
        go_wp2_with fail
        refine (HD.out w3).mono ?_
        rintro e w4 ⟨rfl, hb4⟩
        have hR := hR.below hb4 hR.blk
        have hP := hP.below hb4 hP.blk
        have hB := hB.trans (hb4.mono hB.size)
        clear k0 k1 k2 hb4
        obtain ⟨k0, k1, k2⟩ := cel3 hP
        by_cases he : Sr = []
        · subst he
          have q1 : (mk []).toList = [] := by rw [Lib.toList_data]; rfl
          have q2 : (mk []).toList.isEmpty = true := by rw [q1]; rfl
          obtain rfl : d1 = false := HE.out rfl
          have hv : Hid (parseV RES = .tuple #[.agg #[.bool false, .string (mk []), .string (mk [])], .int .i64 3]) := by show _ = _; rw [← HRES.out]; first | rfl | (simp [parseV]; done) | (fail; done) | (simp [parseV, spV]; done) | (fail; done)
          go_wp2_with (refine wpList_store_part (vs := #[.bool false, .string (mk []), .string (mk [])]) (off := 0) rfl (.tmp 2) (.tmp 79) rfl rfl rfl hR info_specR (by decide) (by simp [Value.oneCell']) ?_; intro w9 hC9 hg9 hs9; have hC10 := cel_stored rfl hC9)
          exact bodyPost_ret (v := .tuple #[.agg #[.bool false, .string (mk []), .string (mk [])], .int .i64 3]) (results_cel2 rfl _ _ rfl rfl hC10 Tryd.underlying37 rfl info_specR (by decide) (fun j hj => getD_some hj)) rfl ⟨by rw [hv.out], hB.grown hg9 hB.size (fun k h => by injection h with h; omega)⟩
        · have q1 : (mk Sr).toList.isEmpty = false := by rw [Lib.toList_data, List.isEmpty_eq_false_iff]; exact he
          cases d1
          · have hv : Hid (parseV RES = .tuple #[.agg #[.bool false, .string (mk []), .string (mk [])], .int .i64 3]) := by show _ = _; rw [← HRES.out]; first | rfl | (simp [parseV]; done) | (simp [parseV, he]; done) | (simp [parseV, spV]; done) | (simp [parseV, spV, he]; done)
            go_wp2_with (refine wpList_store_part (vs := #[.bool false, .string (mk []), .string (mk [])]) (off := 0) rfl (.tmp 2) (.tmp 79) rfl rfl rfl hR info_specR (by decide) (by simp [Value.oneCell']) ?_; intro w9 hC9 hg9 hs9; have hC10 := cel_stored rfl hC9)
            exact bodyPost_ret (v := .tuple #[.agg #[.bool false, .string (mk []), .string (mk [])], .int .i64 3]) (results_cel2 rfl _ _ rfl rfl hC10 Tryd.underlying37 rfl info_specR (by decide) (fun j hj => getD_some hj)) rfl ⟨by rw [hv.out], hB.grown hg9 hB.size (fun k h => by injection h with h; omega)⟩
          · cases d2
            · have hv : Hid (parseV RES = .tuple #[.agg #[.bool f, .string (mk Sr), .string (mk Sr)], .int .i64 0]) := by show _ = _; rw [← HRES.out]; first | rfl | (simp [parseV]; done) | (simp [parseV, he]; done) | (simp [parseV, spV]; done) | (simp [parseV, spV, he]; done)
              obtain ⟨r0, r1, r2⟩ := cel3 hR
              have y0 := hR.frozen 0
              have y1 := hR.frozen 1
              have y2 := hR.frozen 2
              have hC10 := (((hR.set 0 (.bool f)).set 1 (.string (mk Sr))).set 2 (.string (mk Sr))).congr (f' := fun i => (#[.bool f, .string (mk Sr), .string (mk Sr)] : Array Value).getD i undef) (three rfl rfl rfl)
              have hB10 : Below w.heap.size w (((w4.setCell ⟨w.heap.size, 0, none⟩ (.bool f)).setCell ⟨w.heap.size, 1, none⟩ (.string (mk Sr))).setCell ⟨w.heap.size, 2, none⟩ (.string (mk Sr))) := ((hB.setCell (Nat.le_refl _) _).setCell (Nat.le_refl _) _).setCell (Nat.le_refl _) _
              clear hP hR hB
              go_wp2
              exact bodyPost_ret (v := .tuple #[.agg #[.bool f, .string (mk Sr), .string (mk Sr)], .int .i64 0]) (results_cel2 rfl _ _ rfl rfl hC10 Tryd.underlying37 rfl info_specR (Nat.le_refl 3) (fun j hj => getD_some hj)) rfl ⟨by rw [hv.out], hB10⟩
            · have hv : Hid (parseV RES = .tuple #[.agg #[.bool f, .string (mk Sr), .string (mk Sr)], .int .i64 0]) := by show _ = _; rw [← HRES.out]; first | rfl | (simp [parseV]; done) | (simp [parseV, he]; done) | (simp [parseV, spV]; done) | (simp [parseV, spV, he]; done)
              obtain ⟨r0, r1, r2⟩ := cel3 hR
              have y0 := hR.frozen 0
              have y1 := hR.frozen 1
              have y2 := hR.frozen 2
              have hC10 := (((hR.set 0 (.bool f)).set 1 (.string (mk Sr))).set 2 (.string (mk Sr))).congr (f' := fun i => (#[.bool f, .string (mk Sr), .string (mk Sr)] : Array Value).getD i undef) (three rfl rfl rfl)
              have hB10 : Below w.heap.size w (((w4.setCell ⟨w.heap.size, 0, none⟩ (.bool f)).setCell ⟨w.heap.size, 1, none⟩ (.string (mk Sr))).setCell ⟨w.heap.size, 2, none⟩ (.string (mk Sr))) := ((hB.setCell (Nat.le_refl _) _).setCell (Nat.le_refl _) _).setCell (Nat.le_refl _) _
              clear hP hR hB
              go_wp2
              exact bodyPost_ret (v := .tuple #[.agg #[.bool f, .string (mk Sr), .string (mk Sr)], .int .i64 0]) (results_cel2 rfl _ _ rfl rfl hC10 Tryd.underlying37 rfl info_specR (Nat.le_refl 3) (fun j hj => getD_some hj)) rfl ⟨by rw [hv.out], hB10⟩
end Go.Proofs.YtbaokenjkbabnaaDoor
