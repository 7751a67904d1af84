/- NameSpecs, walked. Printed by gennmt.py. -/
import Derived.Test.YtbaokenjkbabnaaDoorNmR
import Derived.Test.YtbaokenjkbabnaaDoorNmL
namespace Go.Proofs.YtbaokenjkbabnaaDoor
open Go.RowKit
set_option linter.unusedVariables false

theorem bel3 {w w5 wa wb : World} (hB : Below w.heap.size w w5) (ha : Below w5.drew.heap.size w5.drew wa) (hb : Below wa.heap.size wa wb) : Below w.heap.size w wb :=
  (hB.drew.trans (ha.mono hB.drew.size)).trans (hb.mono (hB.drew.trans (ha.mono hB.drew.size)).size)
set_option maxRecDepth 100000 in
set_option maxHeartbeats 4000000 in
theorem nameSpecs_walk (s t : ByteArray) (w : World) (hE : Env w) (hs : s.size ≤ 140737488351232) (ht : t.size ≤ 140737488351232) :
    Calls Tryd.prog 6 #[.string s, .string t] w fun e w' => e = .returned (.bool true) ∧ Below w.heap.size w w' := by
  have hp := parse_any s w hE (by omega)
  have hpr := fun w' => parseR_any s w' (by omega)
  have HA : Hid (∀ w', Below w.heap.size w w' → Calls Tryd.prog 9 #[] w' fun e w'' => e = .returned (.bool true) ∧ Below w'.heap.size w' w'') := fun w' hb => awake14_any w' (hE.below hb)
  cases hR : parseL s.data.toList with
  | none =>
    rw [hR] at hp hpr
    have hp : Calls Tryd.prog 8 #[.string s] w fun e w' => e = .returned (.tuple #[.agg #[.bool false, .string ⟨#[]⟩, .string ⟨#[]⟩], .int .i64 3]) ∧ Below w.heap.size w w' := hp
    have HPR : Hid (∀ w', Calls Tryd.prog 15 #[.string s] w' fun e w'' => e = .returned (.tuple #[.agg #[.bool false, .string ⟨#[]⟩, .string ⟨#[]⟩], .int .i64 3]) ∧ Below w'.heap.size w' w'') := hpr
    have HTO : Hid (∀ w', Calls Tryd.prog 16 #[.agg #[.bool false, .string ⟨#[]⟩, .string ⟨#[]⟩]] w' fun e w'' => e = .returned (.agg #[.bool false, .string ⟨#[]⟩, .string ⟨#[]⟩]) ∧ Below w'.heap.size w' w'') := fun w' => to_any ⟨false, [], []⟩ w'
    clear hR hE hpr
    go_enter Tryd.func6, Tryd.ntmps6
    go_wp2_with fail
    refine hp.mono ?_
    rintro e w1 ⟨rfl, hb1⟩
    have hB : Below w.heap.size w (w1.alloc (.cells #[.bool false, .string ⟨#[]⟩, .string ⟨#[]⟩] 25)) := hb1.alloc hb1.size _
    have hP := cel_new3 w1 25 (.bool false) (.string ⟨#[]⟩) (.string ⟨#[]⟩)
    clear hp hb1
    go_wp2_with fail
    refine (HPR.out _).mono ?_
    rintro e w3 ⟨rfl, hb3⟩
    have hP := hP.below hb3 hP.blk
    have hB := hB.trans (hb3.mono hB.size)
    clear hb3
    generalize w1.heap.size = ga at *
    have hb4 : Below w3.heap.size w3 (w3.alloc (.cells #[.bool false, .string ⟨#[]⟩, .string ⟨#[]⟩] 37)) := (Below.refl _ _).alloc (Nat.le_refl _) _
    have hQ := cel_new3 w3 37 (.bool false) (.string ⟨#[]⟩) (.string ⟨#[]⟩)
    have hP := hP.below hb4 hP.blk
    have hB := hB.trans (hb4.mono hB.size)
    go_upto_region 3 with (fail)
    clear hb4
    generalize w3.heap.size = gb at *
    generalize w3.alloc (.cells #[.bool false, .string ⟨#[]⟩, .string ⟨#[]⟩] 37) = w4 at *
    go_cut [31] (fun v wx => v = .bool false ∧ Cel wx ga 25 3 (fun i => (#[.bool false, .string ⟨#[]⟩, .string ⟨#[]⟩] : Array Value).getD i undef) ∧ Cel wx gb 37 3 (fun i => (#[.bool false, .string ⟨#[]⟩, .string ⟨#[]⟩] : Array Value).getD i undef) ∧ Below w.heap.size w wx)
    case first =>
      obtain ⟨k0, k1, k2⟩ := cel3 hP
      obtain ⟨l0, l1, l2⟩ := cel3 hQ
      go_region_with (go_at_call 16; refine (HTO.out _).mono ?_; rintro e w5 ⟨rfl, hb5⟩; (obtain ⟨m0, m1, m2⟩ := cel3 (hQ.drew.below hb5 hQ.drew.blk)))
      all_goals
        go_wp2
        go_meet
        exact ⟨rfl, hP.drew.below hb5 hP.drew.blk, hQ.drew.below hb5 hQ.drew.blk, hB.drew.trans (hb5.mono hB.drew.size)⟩
    case rest =>
      obtain ⟨rfl, hP, hQ, hB⟩ := hcut
      generalize wc = w5 at *
      go_wp2_with fail
      refine (HA.out _ hB).mono ?_
      rintro e w6 ⟨rfl, hb6⟩
      go_wp2
      go_ret
      exact ⟨rfl, hB.trans (hb6.mono hB.size)⟩
  | some p =>
    rw [hR] at hp hpr
    obtain ⟨hG, _, _⟩ := parse_good hR
    have hsl := hG.sl
    have hdl := hG.dl
    have htx := fun w' => text_any p w' (by omega) (by omega)
    have htr := fun w' => textR_any p w' (by omega) (by omega)
    have hto := fun w' => to_any p w'
    have hmp : ∀ w', Below w.heap.size w w' → Calls Tryd.prog 10 #[spV p, .string t] w' fun e w'' => e = .returned (mapV (mapL p t.data.toList)) ∧ Below w'.heap.size w' w'' := fun w' hb => map_any p t w' (hE.below hb) hG (by omega)
    have hmr : ∀ w', Calls Tryd.prog 17 #[spV p, .string t] w' fun e w'' => e = .returned (mapV (mapL p t.data.toList)) ∧ Below w'.heap.size w' w'' := fun w' => mapR_any p t w' hG (by omega)
    have hp : Calls Tryd.prog 8 #[.string s] w fun e w' => e = .returned (.tuple #[spV p, .int .i64 0]) ∧ Below w.heap.size w w' := hp
    have hpr : ∀ w', Calls Tryd.prog 15 #[.string s] w' fun e w'' => e = .returned (.tuple #[spV p, .int .i64 0]) ∧ Below w'.heap.size w' w'' := hpr
    obtain ⟨o, b, hob⟩ : ∃ o b, mapV (mapL p t.data.toList) = .tuple #[.string o, .bool b] := by
      cases mapL p t.data.toList with
      | none => exact ⟨_, _, rfl⟩
      | some x => exact ⟨_, _, rfl⟩
    rw [hob] at hmp hmr
    clear hE hR hG hsl hdl hob
    unfold spV at hp hpr htx htr hmp hmr hto
    generalize mk (textL p) = TX at *
    generalize mk p.src = S1 at *
    generalize mk p.dst = D1 at *
    generalize p.f = fl at *
    have HPR := Lib.hid hpr
    have HTO := Lib.hid hto
    have HTX := Lib.hid htx
    have HTR := Lib.hid htr
    have HMP := Lib.hid hmp
    have HMR := Lib.hid hmr
    clear hpr hto htx htr hmp hmr
    go_enter Tryd.func6, Tryd.ntmps6
    go_wp2_with fail
    refine hp.mono ?_
    rintro e w1 ⟨rfl, hb1⟩
    have hB : Below w.heap.size w (w1.alloc (.cells #[.bool fl, .string S1, .string D1] 25)) := hb1.alloc hb1.size _
    have hP := cel_new3 w1 25 (.bool fl) (.string S1) (.string D1)
    clear hp hb1
    go_wp2_with fail
    refine (HPR.out _).mono ?_
    rintro e w3 ⟨rfl, hb3⟩
    have hP := hP.below hb3 hP.blk
    have hB := hB.trans (hb3.mono hB.size)
    clear hb3
    generalize w1.heap.size = ga at *
    have hb4 : Below w3.heap.size w3 (w3.alloc (.cells #[.bool fl, .string S1, .string D1] 37)) := (Below.refl _ _).alloc (Nat.le_refl _) _
    have hQ := cel_new3 w3 37 (.bool fl) (.string S1) (.string D1)
    have hP := hP.below hb4 hP.blk
    have hB := hB.trans (hb4.mono hB.size)
    go_upto_region 3 with (fail)
    clear hb4
    generalize w3.heap.size = gb at *
    generalize w3.alloc (.cells #[.bool fl, .string S1, .string D1] 37) = w4 at *
    go_cut [31] (fun v wx => v = .bool false ∧ Cel wx ga 25 3 (fun i => (#[.bool fl, .string S1, .string D1] : Array Value).getD i undef) ∧ Cel wx gb 37 3 (fun i => (#[.bool fl, .string S1, .string D1] : Array Value).getD i undef) ∧ Below w.heap.size w wx)
    case first =>
      obtain ⟨k0, k1, k2⟩ := cel3 hP
      obtain ⟨l0, l1, l2⟩ := cel3 hQ
      go_region_with (go_at_call 16; refine (HTO.out _).mono ?_; rintro e w5 ⟨rfl, hb5⟩; (obtain ⟨m0, m1, m2⟩ := cel3 (hQ.drew.below hb5 hQ.drew.blk)))
      all_goals
        go_wp2
        go_meet
        exact ⟨rfl, hP.drew.below hb5 hP.drew.blk, hQ.drew.below hb5 hQ.drew.blk, hB.drew.trans (hb5.mono hB.drew.size)⟩
    case rest =>
      obtain ⟨rfl, hP, hQ, hB⟩ := hcut
      generalize wc = w5 at *
      obtain ⟨k0, k1, k2⟩ := cel3 hP
      go_wp2_with fail
      refine (HMP.out _ hB).mono ?_
      rintro e w6 ⟨rfl, hb6⟩
      have hP := hP.below hb6 hP.blk
      have hQ := hQ.below hb6 hQ.blk
      have hB := hB.trans (hb6.mono hB.size)
      clear hb6 k0 k1 k2
      obtain ⟨k0, k1, k2⟩ := cel3 hQ
      go_wp2_with fail
      refine (HMR.out _).mono ?_
      rintro e w7 ⟨rfl, hb7⟩
      have hP := hP.below hb7 hP.blk
      have hQ := hQ.below hb7 hQ.blk
      have hB := hB.trans (hb7.mono hB.size)
      clear hb7 k0 k1 k2
      obtain ⟨k0, k1, k2⟩ := cel3 hP
      obtain ⟨l0, l1, l2⟩ := cel3 hQ
      have o1 : (o.toList == o.toList) = true := by simp
      have b1 : (b == b) = true := by simp
      have t1 : (TX.toList == TX.toList) = true := by simp
      go_upto_region 9 with (fail)
      go_region_with (first
        | (go_at_call 18; refine (HTX.out _).mono ?_; rintro e wa ⟨rfl, hba⟩; (obtain ⟨m0, m1, m2⟩ := cel3 (hQ.drew.below hba hQ.drew.blk)))
        | (go_at_call 19; refine (HTR.out _).mono ?_; rintro e wb ⟨rfl, hbb⟩)
        | (go_at_call 9; refine (HA.out _ (bel3 hB hba hbb)).mono ?_; rintro e wd ⟨rfl, hbd⟩))
      all_goals
        go_wp2
        go_ret
        exact ⟨rfl, (bel3 hB hba hbb).trans (hbd.mono (bel3 hB hba hbb).size)⟩
end Go.Proofs.YtbaokenjkbabnaaDoor
