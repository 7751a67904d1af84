/- name.Map, name.Text. -/
import Derived.Test.YtbaokenjkbabnaaDoorNmG
namespace Go.Proofs.YtbaokenjkbabnaaDoor
open Go.RowKit
set_option linter.unusedVariables false

def mapV (o : Option (List UInt8)) : Value := match o with | some l => .tuple #[.string (mk l), .bool true] | none => .tuple #[.string (mk []), .bool false]
theorem str_neq (a : ByteArray) (l : List UInt8) : (a.toList == (mk l).toList) = decide (a.data.toList = l) := by
  rw [Lib.toList_data, Lib.toList_data, mk_data]
  by_cases h : a.data.toList = l
  · rw [h, decide_eq_true rfl]; simp
  · rw [decide_eq_false h, beq_eq_false_iff_ne]; exact h
theorem one_idx {l : List UInt8} (h : l.count 42 = 1) : ∃ i : Nat, Lib.indexByte l 42 = i ∧ idx l 42 = i ∧ i < l.length := by
  rcases idx_cases 42 l with ⟨h1, h2⟩ | ⟨i, h1, h2, h3, h4⟩
  · rw [List.count_eq_zero.2 h2] at h; omega
  · exact ⟨i, h1, by unfold idx; rw [h1]; rfl, h2⟩
theorem take_len {l : List UInt8} {i : Nat} (h : i < l.length) : (l.take i).length = i := by rw [List.length_take]; omega
set_option maxRecDepth 100000 in
set_option maxHeartbeats 4000000 in
theorem map_any (p : Sp) (t : ByteArray) (w : World) (hE : Env w) (hG : Good p) (ht : t.size ≤ 140737488353000) :
    Calls Tryd.prog 10 #[spV p, .string t] w fun e w' => e = .returned (mapV (mapL p t.data.toList)) ∧ Below w.heap.size w w' := by
  have hE1 : ∀ w', Below w.heap.size w w' → Env w' := fun w' hb => hE.below hb
  have HE1 := Lib.hid hE1
  obtain ⟨RES, hRES⟩ : ∃ RES, mapL p t.data.toList = RES := ⟨_, rfl⟩
  rw [hRES]
  have HRES := Lib.hid hRES
  clear hRES hE1 hE
  obtain ⟨f, src, dst⟩ := p
  have hs1 := hG.s1
  have hd1 := hG.d1
  have heq := hG.eq
  have hsl := hG.sl
  have hdl := hG.dl
  simp only at hs1 hd1 heq hsl hdl
  unfold spV
  simp only
  have hP := cel_new3 w 25 (.bool f) (.string (mk src)) (.string (mk dst))
  have hB : Below w.heap.size w (w.alloc (.cells #[.bool f, .string (mk src), .string (mk dst)] 25)) := (Below.refl _ _).alloc (Nat.le_refl _) _
  by_cases hc : src.count 42 = 0
  · have hcut := cut1_none (mk src) 42 (w.alloc (.cells #[.bool f, .string (mk src), .string (mk dst)] 25)) (idx_none.1 hc)
    clear hs1 hd1 heq
    go_enter Tryd.func10, Tryd.ntmps10
    go_wp2_with fail
    refine hcut.mono ?_
    rintro e w2 ⟨rfl, hb2⟩
    have hP := hP.below hb2 hP.blk
    have hB := hB.trans (hb2.mono hB.size)
    obtain ⟨k0, k1, k2⟩ := cel3 hP
    clear hcut hb2
    have hne := str_neq t src
    by_cases he : t.data.toList = src
    · rw [decide_eq_true he] at hne
      have hne2 : (!t.toList == (mk src).toList) = false := by rw [hne]; rfl
      have hva := valid_any (mk dst) w2 (HE1.out _ hB) (by rw [mk_size]; omega)
      have hva : Calls Tryd.prog 11 #[.string (mk dst)] w2 fun e w' => e = .returned (.bool (validN dst)) ∧ Below w2.heap.size w2 w' := hva
      have hm : RES = if validN dst = true then some dst else none := by
        rw [← HRES.out]
        unfold mapL
        simp only
        rw [if_pos hc]
        by_cases hv : validN dst = true
        · rw [if_pos ⟨he, hv⟩, if_pos hv]
        · rw [if_neg (fun h => hv h.2), if_neg hv]
      clear he
      by_cases hv : validN dst = true
      · rw [if_pos hv] at hm
        rw [hv] at hva
        have HM := Lib.hid hm
        clear hm hv hc
        go_wp2_with (go_at_call 11; refine hva.mono ?_; rintro e w3 ⟨rfl, hb3⟩)
        go_ret2
        rw [HM.out]
        exact ⟨rfl, hB.trans (hb3.mono hB.size)⟩
      · have hv' : validN dst = false := by simpa using hv
        rw [if_neg hv] at hm
        rw [hv'] at hva
        have HM := Lib.hid hm
        clear hm hv hv' hc
        go_wp2_with (go_at_call 11; refine hva.mono ?_; rintro e w3 ⟨rfl, hb3⟩)
        go_ret2
        rw [HM.out]
        exact ⟨rfl, hB.trans (hb3.mono hB.size)⟩
    · rw [decide_eq_false he] at hne
      have hne2 : (!t.toList == (mk src).toList) = true := by rw [hne]; rfl
      have hm : RES = none := by
        rw [← HRES.out]
        unfold mapL
        simp only
        rw [if_pos hc, if_neg (fun h => he h.1)]
      have HM := Lib.hid hm
      clear hm he hc
      go_wp2
      go_ret2
      rw [HM.out]
      exact ⟨rfl, hB⟩
  · have hc1 : src.count 42 = 1 := by omega
    have hcd : dst.count 42 = 1 := by omega
    obtain ⟨i, h1, hx, hi⟩ := one_idx hc1
    have hcut := cut1_at (mk src) 42 (w.alloc (.cells #[.bool f, .string (mk src), .string (mk dst)] 25)) i h1 (by rw [mk_size]; exact hi) (by rw [mk_size]; omega)
    rw [mk_data] at hcut
    have hm : RES = if Lib.hasPrefix t.data.toList (src.take i) && Lib.hasSuffix (t.data.toList.drop i) (src.drop (i + 1)) && validN (subst dst ((t.data.toList.drop i).take (t.data.toList.length - i - (src.drop (i + 1)).length))) then some (subst dst ((t.data.toList.drop i).take (t.data.toList.length - i - (src.drop (i + 1)).length))) else none := by
      rw [← HRES.out]
      unfold mapL midOk midL
      simp only
      rw [if_neg hc, hx, List.length_drop]
    have hcp : ∀ w', Calls Tryd.prog 20 #[.string t, .string (mk (src.take i))] w' fun e w'' => e = .returned (.tuple #[.string (mk (if Lib.hasPrefix t.data.toList (src.take i) then t.data.toList.drop i else t.data.toList)), .bool (Lib.hasPrefix t.data.toList (src.take i))]) ∧ w' = w'' := fun w' =>
      (Tryd.strings_CutPrefix t (mk (src.take i)) w').mono fun _ _ ⟨a, b⟩ => ⟨by rw [a]; unfold Lib.trimPrefix; rw [mk_data, take_len hi]; rfl, b.symm⟩
    clear hs1 hd1 heq hc hc1 h1 hx HRES
    generalize hA : src.take i = A at *
    generalize src.drop (i + 1) = Bq at *
    go_enter Tryd.func10, Tryd.ntmps10
    go_wp2_with fail
    refine hcut.mono ?_
    rintro e w2 ⟨rfl, hb2⟩
    have hP := hP.below hb2 hP.blk
    have hB := hB.trans (hb2.mono hB.size)
    obtain ⟨k0, k1, k2⟩ := cel3 hP
    clear hcut hb2 hA
    by_cases y1 : Lib.hasPrefix t.data.toList A = true
    · rw [y1, Bool.true_and] at hm
      have hcp := hcp w2
      rw [y1, if_pos rfl] at hcp
      have hcs : Calls Tryd.prog 23 #[.string (mk (t.data.toList.drop i)), .string (mk Bq)] w2 fun e w'' => e = .returned (.tuple #[.string (mk (Lib.trimSuffix (t.data.toList.drop i) Bq)), .bool (Lib.hasSuffix (t.data.toList.drop i) Bq)]) ∧ w2 = w'' :=
        (Tryd.strings_CutSuffix (mk (t.data.toList.drop i)) (mk Bq) w2 (by rw [mk_size, List.length_drop, ← Lib.size_eq]; omega)).mono fun _ _ ⟨a, b⟩ => ⟨a, b.symm⟩
      by_cases y2 : Lib.hasSuffix (t.data.toList.drop i) Bq = true
      · have htr : Lib.trimSuffix (t.data.toList.drop i) Bq = (t.data.toList.drop i).take (t.data.toList.length - i - Bq.length) := by
          unfold Lib.trimSuffix
          rw [if_pos y2, List.length_drop]
        rw [htr, y2] at hcs
        rw [y2, Bool.true_and] at hm
        generalize hM : (t.data.toList.drop i).take (t.data.toList.length - i - Bq.length) = M at *
        have hMl : M.length ≤ t.size := by rw [← hM, List.length_take, List.length_drop, ← Lib.size_eq]; omega
        clear hM htr
        have hrp := repl_one (mk dst) (mk M) w2 hcd (by rw [mk_size, mk_size]; omega)
        rw [mk_data, mk_data] at hrp
        have hsz : (subst dst M).length ≤ 140737488355328 := by have := subst_len dst M (by omega); omega
        generalize subst dst M = U at *
        have hva : ∀ w', Below w.heap.size w w' → Calls Tryd.prog 11 #[.string (mk U)] w' fun e w'' => e = .returned (.bool (validN U)) ∧ Below w'.heap.size w' w'' := fun w' hb => valid_any (mk U) w' (HE1.out _ hb) (by rw [mk_size]; exact hsz)
        have HVA := Lib.hid hva
        clear hva hsz y1 y2
        by_cases hv : validN U = true
        · rw [if_pos hv] at hm
          have HM := Lib.hid hm
          clear hm
          go_wp2_with fail
          refine hcp.mono ?_
          rintro e w' ⟨rfl, rfl⟩
          go_wp2_with fail
          refine hcs.mono ?_
          rintro e w' ⟨rfl, rfl⟩
          go_wp2_with fail
          refine hrp.mono ?_
          rintro e w3 ⟨rfl, hb3⟩
          have hB := hB.trans (hb3.mono hB.size)
          have hva := HVA.out w3 hB
          rw [hv] at hva
          clear hcp hcs hrp hv
          go_wp2_with (go_at_call 11; refine hva.mono ?_; rintro e w4 ⟨rfl, hb4⟩)
          go_ret2
          rw [HM.out]
          exact ⟨rfl, hB.trans (hb4.mono hB.size)⟩
        · have hv' : validN U = false := by simpa using hv
          rw [if_neg hv] at hm
          have HM := Lib.hid hm
          clear hm
          go_wp2_with fail
          refine hcp.mono ?_
          rintro e w' ⟨rfl, rfl⟩
          go_wp2_with fail
          refine hcs.mono ?_
          rintro e w' ⟨rfl, rfl⟩
          go_wp2_with fail
          refine hrp.mono ?_
          rintro e w3 ⟨rfl, hb3⟩
          have hB := hB.trans (hb3.mono hB.size)
          have hva := HVA.out w3 hB
          rw [hv'] at hva
          clear hcp hcs hrp hv hv'
          go_wp2_with (go_at_call 11; refine hva.mono ?_; rintro e w4 ⟨rfl, hb4⟩)
          go_ret2
          rw [HM.out]
          exact ⟨rfl, hB.trans (hb4.mono hB.size)⟩
      · have y2' : Lib.hasSuffix (t.data.toList.drop i) Bq = false := by simpa using y2
        rw [y2'] at hcs
        rw [y2', Bool.false_and, if_neg (by decide)] at hm
        have HM := Lib.hid hm
        clear hm y1 y2 y2'
        go_wp2_with fail
        refine hcp.mono ?_
        rintro e w' ⟨rfl, rfl⟩
        go_wp2_with fail
        refine hcs.mono ?_
        rintro e w' ⟨rfl, rfl⟩
        go_wp2
        go_ret2
        rw [HM.out]
        exact ⟨rfl, hB⟩
    · have y1' : Lib.hasPrefix t.data.toList A = false := by simpa using y1
      have hcp := hcp w2
      rw [y1'] at hcp
      rw [y1', Bool.false_and, Bool.false_and, if_neg (by decide)] at hm
      have HM := Lib.hid hm
      clear hm y1 y1'
      go_wp2_with fail
      refine hcp.mono ?_
      rintro e w' ⟨rfl, rfl⟩
      go_wp2
      go_ret2
      rw [HM.out]
      exact ⟨rfl, hB⟩
set_option maxRecDepth 100000 in
theorem text_any (p : Sp) (w : World) (hsl : p.src.length ≤ 1000) (hdl : p.dst.length ≤ 1000) :
    Calls Tryd.prog 18 #[spV p] w fun e w' => e = .returned (.string (mk (textL p))) ∧ Below w.heap.size w w' := by
  obtain ⟨f, src, dst⟩ := p
  unfold spV textL
  simp only at hsl hdl ⊢
  have e1 : mk src ++ ⟨#[58]⟩ ++ mk dst = mk (src ++ ([58] ++ dst)) := by
    have := mk_app src [58]
    rw [show mk src ++ ⟨#[58]⟩ = mk (src ++ [58]) from this, mk_app, List.append_assoc]
  have e2 : (⟨#[43]⟩ : ByteArray) ++ (mk src ++ ⟨#[58]⟩ ++ mk dst) = mk ([43] ++ (src ++ ([58] ++ dst))) := by rw [e1]; exact mk_app [43] _
  have z1 : (mk src).size ≤ 1000 := by rw [mk_size]; exact hsl
  have z2 : (mk dst).size ≤ 1000 := by rw [mk_size]; exact hdl
  have E1 := Lib.hid e1
  have E2 := Lib.hid e2
  clear e1 e2 hsl hdl
  cases f
  · go_enter Tryd.func18, Tryd.ntmps18
    go_wp2
    go_ret
    exact ⟨congrArg (fun s => Ending.returned (Value.string s)) E1.out, (Below.refl _ _).alloc (Nat.le_refl _) _⟩
  · go_enter Tryd.func18, Tryd.ntmps18
    go_wp2
    go_ret
    exact ⟨congrArg (fun s => Ending.returned (Value.string s)) E2.out, (Below.refl _ _).alloc (Nat.le_refl _) _⟩
end Go.Proofs.YtbaokenjkbabnaaDoor
