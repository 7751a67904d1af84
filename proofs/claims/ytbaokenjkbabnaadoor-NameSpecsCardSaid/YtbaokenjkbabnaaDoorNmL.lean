/- NameBack: plain, and its walk. -/
import Derived.Test.YtbaokenjkbabnaaDoorNmI
namespace Go.Proofs.YtbaokenjkbabnaaDoor
open Go.RowKit
set_option linter.unusedVariables false

theorem idx_colon (a b : List UInt8) (h : (58 : UInt8) ∉ a) : idx (a ++ 58 :: b) 58 = a.length ∧ (a ++ 58 :: b).count 58 ≠ 0 := by
  have hc : (a ++ 58 :: b).count 58 ≠ 0 := by rw [List.count_append, List.count_cons_self]; omega
  refine ⟨?_, hc⟩
  rcases idx_cases 58 (a ++ 58 :: b) with ⟨h1, h2⟩ | ⟨i, h1, h2, h3, h4⟩
  · exact absurd (List.count_eq_zero.2 h2) hc
  · unfold idx
    rw [h1, Int.toNat_natCast]
    rcases Nat.lt_trichotomy i a.length with hlt | heq | hgt
    · exfalso
      rw [List.getElem?_append_left hlt] at h3
      apply h
      rw [List.mem_iff_getElem?]
      exact ⟨i, h3⟩
    · exact heq
    · exfalso
      apply h4
      rw [List.mem_iff_getElem?]
      exact ⟨a.length, by rw [List.getElem?_take, if_pos hgt, List.getElem?_append_right (Nat.le_refl _)]; simp⟩
theorem src_nocolon (l : List UInt8) : (58 : UInt8) ∉ srcL l := by
  unfold srcL colonL
  rcases idx_cases 58 l with ⟨h1, h2⟩ | ⟨i, h1, h2, h3, h4⟩
  · rw [List.count_eq_zero.2 h2]
    exact h2
  · have := count_cut l 58 i h2 h3 h4
    rw [if_pos (decide_eq_true (by omega))]
    unfold idx
    rw [h1, Int.toNat_natCast]
    exact h4
theorem parse_text {l : List UInt8} {p : Sp} (h : parseL l = some p) : parseL (textL p) = some p := by
  obtain ⟨hg, hk, hp⟩ := parse_good h
  have hbody : bodyL (textL p) = p.src ++ 58 :: p.dst ∧ plusL (textL p) = p.f := by
    unfold bodyL textL plusL
    cases hf : p.f
    · have hno : Lib.hasPrefix (p.src ++ 58 :: p.dst) [43] = false := by
        have hl : plusL l = false := by rw [hp] at hf; exact hf
        have hb : bodyL l = l := by unfold bodyL; rw [hl]; rfl
        have hs : p.src = srcL l := by rw [hp]; show srcL (bodyL l) = _; rw [hb]
        rw [hs]
        unfold plusL at hl
        unfold Lib.hasPrefix at hl ⊢
        cases hsr : srcL l with
        | nil => rfl
        | cons c r =>
          have hc : l.head? = some c := by
            unfold srcL at hsr
            split at hsr
            · cases l with
              | nil => simp at hsr
              | cons x xs =>
                cases hi : idx (x :: xs) 58 with
                | zero => rw [hi] at hsr; simp at hsr
                | succ n => rw [hi] at hsr; simp at hsr; simp [hsr.1]
            · rw [hsr]; rfl
          cases l with
          | nil => simp at hc
          | cons x xs =>
            simp at hc
            subst hc
            have hpx : ∀ y : List UInt8, List.isPrefixOf [43] (x :: y) = ((43 : UInt8) == x) := fun y => by simp [List.isPrefixOf]
            rw [hpx] at hl
            rw [List.cons_append, hpx]
            exact hl
      simp only [List.nil_append, Bool.false_eq_true, if_false, List.singleton_append]
      rw [hno]
      simp
    · simp [Lib.hasPrefix]
  have hno : (58 : UInt8) ∉ p.src := by rw [hp]; exact src_nocolon _
  obtain ⟨i1, i2⟩ := idx_colon p.src p.dst hno
  have hcol : colonL (p.src ++ 58 :: p.dst) = true := by unfold colonL; exact decide_eq_true i2
  have hsrc : srcL (p.src ++ 58 :: p.dst) = p.src := by unfold srcL; rw [hcol, i1]; simp
  have hdst : dstL (p.src ++ 58 :: p.dst) = p.dst := by
    unfold dstL
    rw [hcol, i1]
    simp
  unfold parseL
  rw [hbody.1, hbody.2, hsrc, hdst, hcol]
  have hok : okL p.src p.dst true = true := by
    unfold okL at hk ⊢
    by_cases he : p.src = []
    · rw [if_pos he] at hk ⊢
      rw [Bool.and_eq_true, Bool.and_eq_true] at hk ⊢
      exact ⟨hk.1, rfl, hk.2.2⟩
    · rw [if_neg he] at hk ⊢
      exact hk
  rw [hok]
  rfl
theorem map_valid {p : Sp} {t x : List UInt8} (h : mapL p t = some x) : validN x = true := by
  unfold mapL at h
  split at h
  · split at h
    · rename_i hh; injection h with h; subst h; exact hh.2
    · cases h
  · split at h
    · rename_i hh
      injection h with h
      subst h
      rw [Bool.and_eq_true] at hh
      exact hh.2
    · cases h
theorem text_len (p : Sp) : (textL p).length ≤ p.src.length + p.dst.length + 2 := by
  unfold textL
  cases p.f <;> simp <;> omega
set_option maxRecDepth 100000 in
set_option maxHeartbeats 4000000 in
theorem nameBack_walk (s t : ByteArray) (w : World) (hE : Env w) (hs : s.size ≤ 140737488351232) (ht : t.size ≤ 140737488351232) :
    Calls Tryd.prog 7 #[.string s, .string t] w fun e w' => e = .returned (.bool true) ∧ Below w.heap.size w w' := by
  have hp := parse_any s w hE (by omega)
  have HA : Hid (∀ w', Below w.heap.size w w' → Calls Tryd.prog 9 #[] w' fun e w'' => e = .returned (.bool true) ∧ Below w'.heap.size w' w'') := fun w' hb => awake14_any w' (hE.below hb)
  cases hR : parseL s.data.toList with
  | none =>
    rw [hR] at hp
    have hp : Calls Tryd.prog 8 #[.string s] w fun e w' => e = .returned (.tuple #[.agg #[.bool false, .string ⟨#[]⟩, .string ⟨#[]⟩], .int .i64 3]) ∧ Below w.heap.size w w' := hp
    clear hR hE
    go_enter Tryd.func7, Tryd.ntmps7
    go_wp2_with fail
    refine hp.mono ?_
    rintro e w1 ⟨rfl, hb1⟩
    have hB : Below w.heap.size w (w1.alloc (.cells #[.bool false, .string ⟨#[]⟩, .string ⟨#[]⟩] 25)) := hb1.alloc hb1.size _
    go_wp2_with fail
    refine (HA.out _ hB).mono ?_
    rintro e w2 ⟨rfl, hb2⟩
    go_wp2
    go_ret
    exact ⟨rfl, hB.trans (hb2.mono hB.size)⟩
  | some p =>
    rw [hR] at hp
    obtain ⟨hG, _, _⟩ := parse_good hR
    have hsl := hG.sl
    have hdl := hG.dl
    have htl := text_len p
    have hpt : ∀ w', Below w.heap.size w w' → Calls Tryd.prog 8 #[.string (mk (textL p))] w' fun e w'' => e = .returned (.tuple #[spV p, .int .i64 0]) ∧ Below w'.heap.size w' w'' := fun w' hb => by
      have := parse_any (mk (textL p)) w' (hE.below hb) (by rw [mk_size]; omega)
      rw [mk_data, parse_text hR] at this
      exact this
    have htx := fun w' => text_any p w' (by omega) (by omega)
    have hmp : ∀ w', Below w.heap.size w w' → Calls Tryd.prog 10 #[spV p, .string t] w' fun e w'' => e = .returned (mapV (mapL p t.data.toList)) ∧ Below w'.heap.size w' w'' := fun w' hb => map_any p t w' (hE.below hb) hG (by omega)
    have hvx : ∀ x, mapL p t.data.toList = some x → ∀ w', Below w.heap.size w w' → Calls Tryd.prog 11 #[.string (mk x)] w' fun e w'' => e = .returned (.bool true) ∧ Below w'.heap.size w' w'' := fun x hx w' hb =>
      (valid_any (mk x) w' (hE.below hb) (by rw [mk_size]; have := validN_le (map_valid hx); omega)).mono fun e w'' h => ⟨h.1.trans (by rw [mk_data, map_valid hx]), h.2⟩
    have hp : Calls Tryd.prog 8 #[.string s] w fun e w' => e = .returned (.tuple #[spV p, .int .i64 0]) ∧ Below w.heap.size w w' := hp
    clear hE hR hG htl hsl hdl
    unfold spV at hp hpt htx hmp
    generalize textL p = TX at *
    generalize mk p.src = S1 at *
    generalize mk p.dst = D1 at *
    generalize p.f = fl at *
    have HPT := Lib.hid hpt
    have HTX := Lib.hid htx
    have HMP := Lib.hid hmp
    have HVX := Lib.hid hvx
    clear hpt htx hmp hvx
    go_enter Tryd.func7, Tryd.ntmps7
    go_wp2_with fail
    refine hp.mono ?_
    rintro e w1 ⟨rfl, hb1⟩
    have hB : Below w.heap.size w (w1.alloc (.cells #[.bool fl, .string S1, .string D1] 25)) := hb1.alloc hb1.size _
    have hP := cel_new3 w1 25 (.bool fl) (.string S1) (.string D1)
    clear hp hb1
    go_wp2_with fail
    refine (HTX.out _).mono ?_
    rintro e w2 ⟨rfl, hb2⟩
    have hP := hP.below hb2 hP.blk
    have hB := hB.trans (hb2.mono hB.size)
    clear hb2
    go_wp2_with fail
    refine (HPT.out _ hB).mono ?_
    rintro e w3 ⟨rfl, hb3⟩
    have hP := hP.below hb3 hP.blk
    have hB := hB.trans (hb3.mono hB.size)
    clear hb3
    have hb4 : Below w3.heap.size w3 (w3.alloc (.cells #[.bool fl, .string S1, .string D1] 25)) := (Below.refl _ _).alloc (Nat.le_refl _) _
    have hQ := cel_new3 w3 25 (.bool fl) (.string S1) (.string D1)
    have hP := hP.below hb4 hP.blk
    have hB := hB.trans (hb4.mono hB.size)
    obtain ⟨k0, k1, k2⟩ := cel3 hP
    clear hb4
    have hmp := HMP.out _ hB
    cases hX : mapL p t.data.toList with
    | none =>
      rw [hX] at hmp
      have hmp : Calls Tryd.prog 10 #[.agg #[.bool fl, .string S1, .string D1], .string t] _ fun e w'' => e = .returned (.tuple #[.string ⟨#[]⟩, .bool false]) ∧ Below _ _ w'' := hmp
      clear hX
      go_wp2_with fail
      refine hmp.mono ?_
      rintro e w5 ⟨rfl, hb5⟩
      have hP := hP.below hb5 hP.blk
      have hQ := hQ.below hb5 hQ.blk
      have hB := hB.trans (hb5.mono hB.size)
      clear hb5 k0 k1 k2 hmp
      obtain ⟨k0, k1, k2⟩ := cel3 hP
      obtain ⟨l0, l1, l2⟩ := cel3 hQ
      go_wp2_with fail
      refine (HA.out _ hB).mono ?_
      rintro e w6 ⟨rfl, hb6⟩
      go_wp2
      go_ret
      exact ⟨rfl, hB.trans (hb6.mono hB.size)⟩
    | some x =>
      have hv := HVX.out x hX
      rw [hX] at hmp
      have hmp : Calls Tryd.prog 10 #[.agg #[.bool fl, .string S1, .string D1], .string t] _ fun e w'' => e = .returned (.tuple #[.string (mk x), .bool true]) ∧ Below _ _ w'' := hmp
      clear hX
      go_wp2_with fail
      refine hmp.mono ?_
      rintro e w5 ⟨rfl, hb5⟩
      have hP := hP.below hb5 hP.blk
      have hQ := hQ.below hb5 hQ.blk
      have hB := hB.trans (hb5.mono hB.size)
      clear hb5 k0 k1 k2 hmp
      obtain ⟨k0, k1, k2⟩ := cel3 hP
      obtain ⟨l0, l1, l2⟩ := cel3 hQ
      go_wp2_with fail
      refine (hv _ hB).mono ?_
      rintro e w6 ⟨rfl, hb6⟩
      have hB := hB.trans (hb6.mono hB.size)
      clear hb6
      go_wp2_with fail
      refine (HA.out _ hB).mono ?_
      rintro e w7 ⟨rfl, hb7⟩
      go_wp2
      go_ret
      exact ⟨rfl, hB.trans (hb7.mono hB.size)⟩
end Go.Proofs.YtbaokenjkbabnaaDoor
