/- name.side, name.Under, the document's Under; name.Parse, name.Text. -/
import Derived.Test.YtbaokenjkbabnaaDoorNmF
import Derived.Test.YtbaokenjkbabnaaDoorRow
namespace Go.Proofs.YtbaokenjkbabnaaDoor
open Go.RowKit
set_option linter.unusedVariables false

theorem count_any (s : ByteArray) (w : World) : Calls Tryd.prog 38 #[.string s, .string ⟨#[42]⟩] w fun e w' => e = .returned (.int .i64 (s.data.toList.count 42 : Nat)) ∧ w = w' := (Tryd.strings_Count_one s 42 w).mono fun _ _ ⟨a, b⟩ => ⟨by rw [a]; rfl, b.symm⟩
set_option maxRecDepth 100000 in
set_option maxHeartbeats 1000000 in
theorem side_any (s : ByteArray) (w : World) (hE : Env w) (hs : s.size ≤ 140737488355000) :
    Calls Tryd.prog 22 #[.string s] w fun e w' => e = .returned (.tuple #[.bool (sideL s.data.toList).1, .bool (sideL s.data.toList).2]) ∧ Below w.heap.size w w' := by
  have hc := count_any s w
  have hcl : s.data.toList.count 42 ≤ s.size := by rw [Lib.size_eq]; exact List.count_le_length
  by_cases h2 : s.data.toList.count 42 < 2
  · by_cases h1 : s.data.toList.count 42 = 1
    · have hr := repl_one s ⟨#[120]⟩ w h1 (by show s.size + 1 ≤ _; omega)
      have e1 : (sideL s.data.toList).1 = validN (subst s.data.toList [120]) := by unfold sideL; rw [if_pos h1, decide_eq_true h2, Bool.true_and]
      have e2 : (sideL s.data.toList).2 = true := by unfold sideL; exact decide_eq_true h1
      rw [e1, e2]
      rw [h1] at hc
      have hsz : (subst s.data.toList [120]).length ≤ 140737488355328 := by
        have := subst_len s.data.toList [120] (by omega)
        rw [← Lib.size_eq] at this
        simp at this
        omega
      have hr : Calls Tryd.prog 24 #[.string s, .string ⟨#[42]⟩, .string ⟨#[120]⟩, .int .i64 1] w fun e w' => e = .returned (.string (mk (subst s.data.toList [120]))) ∧ Below w.heap.size w w' := hr
      clear e1 e2 h1 h2 hcl
      generalize subst s.data.toList [120] = L at *
      go_enter Tryd.func22, Tryd.ntmps22
      go_wp2_with fail
      refine hc.mono ?_
      rintro e w' ⟨rfl, rfl⟩
      go_wp2_with fail
      refine hr.mono ?_
      rintro e w1 ⟨rfl, hb1⟩
      go_wp2_with fail
      refine (valid_any (mk L) w1 (hE.below hb1) (by rw [mk_size]; exact hsz)).mono ?_
      rintro e w2 ⟨rfl, hb2⟩
      go_wp2
      go_ret2
      exact ⟨rfl, hb1.trans (hb2.mono hb1.size)⟩
    · have h0 : s.data.toList.count 42 = 0 := by omega
      have hr := repl_none s ⟨#[120]⟩ w h0
      have e1 : (sideL s.data.toList).1 = validN s.data.toList := by unfold sideL; rw [if_neg h1, decide_eq_true h2, Bool.true_and]
      have e2 : (sideL s.data.toList).2 = false := by unfold sideL; exact decide_eq_false h1
      rw [e1, e2]
      rw [h0] at hc
      clear e1 e2 h1 h2 h0 hcl
      go_enter Tryd.func22, Tryd.ntmps22
      go_wp2_with fail
      refine hc.mono ?_
      rintro e w' ⟨rfl, rfl⟩
      go_wp2_with fail
      refine hr.mono ?_
      rintro e w1 ⟨rfl, hb1⟩
      go_wp2_with fail
      refine (valid_any s w1 (hE.below hb1) (by omega)).mono ?_
      rintro e w2 ⟨rfl, hb2⟩
      go_wp2
      go_ret2
      exact ⟨rfl, hb1.trans (hb2.mono hb1.size)⟩
  · have e1 : (sideL s.data.toList).1 = false := by unfold sideL; rw [decide_eq_false h2, Bool.false_and]
    have e2 : (sideL s.data.toList).2 = false := by unfold sideL; exact decide_eq_false (by omega)
    rw [e1, e2]
    obtain ⟨C, hC⟩ : ∃ C, s.data.toList.count 42 = C := ⟨_, rfl⟩
    rw [hC] at hc h2
    have d1 : decide ((C : Int) < 2) = false := decide_eq_false (by omega)
    have d2 : ((C : Int) == 1) = false := by rw [beq_eq_false_iff_ne]; omega
    clear e1 e2 hcl hC
    go_enter Tryd.func22, Tryd.ntmps22
    go_wp2_with fail
    refine hc.mono ?_
    rintro e w' ⟨rfl, rfl⟩
    go_wp2
    go_ret2
    exact ⟨rfl, Below.refl _ _⟩
def underL (a b : List UInt8) : Bool := Lib.hasPrefix b (a ++ [47])
set_option maxRecDepth 100000 in
theorem under_any (s t : ByteArray) (w : World) (hs : s.size ≤ 140737488355000) :
    Calls Tryd.prog 13 #[.string s, .string t] w fun e w' => e = .returned (.bool (underL s.data.toList t.data.toList)) ∧ w = w' := by
  have e : s ++ ⟨#[47]⟩ = mk (s.data.toList ++ [47]) := by
    have := mk_app s.data.toList [47]
    rw [mk_of] at this
    exact this
  have hp : Calls Tryd.prog 26 #[.string t, .string (s ++ ⟨#[47]⟩)] w fun e w' => e = .returned (.bool (underL s.data.toList t.data.toList)) ∧ w = w' := by
    rw [e]
    exact (Tryd.strings_HasPrefix t (mk (s.data.toList ++ [47])) w).mono fun _ _ ⟨a, b⟩ => ⟨a, b.symm⟩
  clear e
  go_enter Tryd.func13, Tryd.ntmps13
  go_wp2_with (go_at_call 26; refine hp.mono ?_; rintro e w' ⟨rfl, rfl⟩)
  go_ret
  exact ⟨rfl, rfl⟩
set_option maxRecDepth 100000 in
theorem underR_any (s t : ByteArray) (w : World) (hs : s.size ≤ 140737488355000) (ht : t.size ≤ 140737488355000) :
    Calls Tryd.prog 14 #[.string s, .string t] w fun e w' => e = .returned (.bool (underL s.data.toList t.data.toList)) ∧ Below w.heap.size w w' := by
  have e : s ++ ⟨#[47]⟩ = mk (s.data.toList ++ [47]) := by
    have := mk_app s.data.toList [47]
    rw [mk_of] at this
    exact this
  have hp := Lib.hasPrefix_raw t (mk (s.data.toList ++ [47]))
  rw [mk_size, List.length_append, List.length_singleton, ← Lib.size_eq, ← e] at hp
  have hu : underL s.data.toList t.data.toList = Lib.hasPrefix t.data.toList (s ++ ⟨#[47]⟩).data.toList := by unfold underL; rw [e]; rfl
  rw [hu]
  by_cases hl : s.size < t.size
  · have d1 : decide (s.size < t.size) = true := decide_eq_true hl
    rw [decide_eq_true (show s.size + 1 ≤ t.size by omega), Bool.true_and] at hp
    have c1 : (0 : Int) ≤ (s.size : Int) + 1 := by omega
    have c2 : (s.size : Int) + 1 ≤ (t.size : Int) := by omega
    have c3 : IntKind.i64.wrap ((s.size : Int) + 1) = (s.size : Int) + 1 := IntWalk.i64_in _ (by omega)
    have HP := Lib.hid hp
    clear hp e hu
    go_enter Tryd.func14, Tryd.ntmps14
    go_wp2
    go_ret
    rw [← HP.out]
    exact ⟨rfl, Below.refl _ _⟩
  · have d1 : decide (s.size < t.size) = false := decide_eq_false hl
    rw [decide_eq_false (show ¬ s.size + 1 ≤ t.size by omega), Bool.false_and] at hp
    have HP := Lib.hid hp
    clear hp e hu
    go_enter Tryd.func14, Tryd.ntmps14
    go_wp2
    go_ret
    rw [← HP.out]
    exact ⟨rfl, Below.refl _ _⟩
/-- A spec, as a value; what Parse hands back. -/
def spV (p : Sp) : Value := .agg #[.bool p.f, .string (mk p.src), .string (mk p.dst)]
def parseV (o : Option Sp) : Value := match o with | some p => .tuple #[spV p, .int .i64 0] | none => .tuple #[.agg #[.bool false, .string (mk []), .string (mk [])], .int .i64 3]
theorem getD_some {vs : Array Value} {j : Nat} (hj : j < vs.size) : vs[j]? = some (vs.getD j undef) := by
  rw [Array.getD_eq_getD_getElem?, Array.getElem?_eq_getElem hj]; rfl
theorem three {P : Nat → Prop} (h0 : P 0) (h1 : P 1) (h2 : P 2) : ∀ i, i < 3 → P i := by
  intro i hi
  have : i = 0 ∨ i = 1 ∨ i = 2 := by omega
  rcases this with rfl | rfl | rfl
  all_goals assumption
theorem info_spec : (Tryd.prog.info? 25).map (·.size) = some 3 := by kernel_rfl
theorem cel_stored {w : World} {g : Nat} {vs : Array Value} {f : Nat → Value} {t : TypeId} (hs : vs.size = 3) (h : Cel w g t 3 (fun j => if 0 ≤ j ∧ j < 0 + vs.size then vs.getD (j - 0) undef else f j)) : Cel w g t 3 (fun i => vs.getD i undef) :=
  h.congr fun i hi => by rw [if_pos ⟨by omega, by omega⟩, Nat.sub_zero]
theorem cel_new3 (w : World) (t : TypeId) (x y z : Value) : Cel (w.alloc (.cells #[x, y, z] t)) w.heap.size t 3 (fun i => (#[x, y, z] : Array Value).getD i undef) := Cel.new w t #[x, y, z] _ (fun i hi => getD_some hi)
theorem cel3 {w : World} {g : Nat} {t : TypeId} {x y z : Value} (h : Cel w g t 3 (fun i => (#[x, y, z] : Array Value).getD i undef)) : w.cell? ⟨g, 0, none⟩ = some x ∧ w.cell? ⟨g, 1, none⟩ = some y ∧ w.cell? ⟨g, 2, none⟩ = some z := ⟨h.cell 0 (by decide), h.cell 1 (by decide), h.cell 2 (by decide)⟩
theorem trim1 (l : List UInt8) (c : UInt8) : Lib.trimPrefix l [c] = if Lib.hasPrefix l [c] then l.drop 1 else l := rfl
set_option maxRecDepth 100000 in
set_option maxHeartbeats 4000000 in
theorem parse_any (s : ByteArray) (w : World) (hE : Env w) (hs : s.size ≤ 140737488353000) :
    Calls Tryd.prog 8 #[.string s] w fun e w' => e = .returned (parseV (parseL s.data.toList)) ∧ Below w.heap.size w w' := by
  have hcp : ∀ w', Calls Tryd.prog 20 #[.string s, .string ⟨#[43]⟩] w' fun e w'' => e = .returned (.tuple #[.string (mk (bodyL s.data.toList)), .bool (plusL s.data.toList)]) ∧ w' = w'' := fun w' =>
    (Tryd.strings_CutPrefix s ⟨#[43]⟩ w').mono fun _ _ ⟨a, b⟩ => ⟨by rw [a]; rfl, b.symm⟩
  have hbl : (bodyL s.data.toList).length ≤ 140737488353000 := by
    unfold bodyL
    rw [Lib.size_eq] at hs
    split
    · rw [List.length_drop]; omega
    · exact hs
  unfold parseL
  generalize plusL s.data.toList = f at *
  generalize bodyL s.data.toList = l at *
  have hcut : ∀ w', Calls Tryd.prog 21 #[.string (mk l), .string ⟨#[58]⟩] w' fun e w'' => e = .returned (.tuple #[.string (mk (srcL l)), .string (mk (if colonL l then dstL l else [])), .bool (colonL l)]) ∧ Below w'.heap.size w' w'' := by
    intro w'
    rcases idx_cases 58 l with ⟨h1, h2⟩ | ⟨i, h1, h2, h3, h4⟩
    · have hc : colonL l = false := by unfold colonL; rw [List.count_eq_zero.2 h2]; rfl
      unfold srcL
      rw [hc]
      exact cut1_none (mk l) 58 w' h1
    · have hc : colonL l = true := by unfold colonL; have := count_cut l 58 i h2 h3 h4; exact decide_eq_true (by omega)
      have hx : idx l 58 = i := by unfold idx; rw [h1]; rfl
      unfold srcL dstL
      rw [hc, hx]
      exact cut1_at (mk l) 58 w' i h1 (by rw [mk_size]; exact h2) (by rw [mk_size]; omega)
  have hdst : (if colonL l then dstL l else srcL l) = dstL l := by unfold dstL srcL; cases colonL l <;> rfl
  have hsl : (srcL l).length ≤ 140737488355000 := by unfold srcL; split; rw [List.length_take]; omega; omega
  have hdl : (dstL l).length ≤ 140737488355000 := by unfold dstL; split; rw [List.length_drop]; omega; omega
  generalize dstL l = D at *
  generalize srcL l = Sr at *
  generalize colonL l = C at *
  clear hbl hs
  have hE1 : ∀ w', Below w.heap.size w w' → Env w' := fun w' hb => hE.below hb
  have HE1 := Lib.hid hE1
  have hsideD : ∀ w', Below w.heap.size w w' → Calls Tryd.prog 22 #[.string (mk D)] w' fun e w'' => e = .returned (.tuple #[.bool (sideL D).1, .bool (sideL D).2]) ∧ Below w'.heap.size w' w'' := fun w' hb => side_any (mk D) w' (hE.below hb) (by rw [mk_size]; exact hdl)
  have hsideS : ∀ w', Below w.heap.size w w' → Calls Tryd.prog 22 #[.string (mk Sr)] w' fun e w'' => e = .returned (.tuple #[.bool (sideL Sr).1, .bool (sideL Sr).2]) ∧ Below w'.heap.size w' w'' := fun w' hb => side_any (mk Sr) w' (hE.below hb) (by rw [mk_size]; exact hsl)
  have HD := Lib.hid hsideD
  have HS := Lib.hid hsideS
  clear hsideD hsideS hE1 hE hsl hdl
  unfold okL
  generalize hd1 : (sideL D).1 = d1 at *
  generalize hd2 : (sideL D).2 = d2 at *
  generalize hs1 : (sideL Sr).1 = s1 at *
  generalize hs2 : (sideL Sr).2 = s2 at *
  clear hd1 hd2 hs1 hs2
  obtain ⟨RES, hRES⟩ : ∃ RES, (if (d1 && ((if Sr = [] then C else s1) && ((if Sr = [] then false else s2) == d2))) = true then some (⟨f, Sr, D⟩ : Sp) else none) = RES := ⟨_, rfl⟩
  rw [hRES]
  have HRES := Lib.hid hRES
  clear hRES
  have HDST := Lib.hid hdst
  clear hdst
  have HCUT := Lib.hid hcut
  clear hcut
  cases C
  · have hdd : Sr = D := HDST.out
    subst hdd
    go_enter Tryd.func8, Tryd.ntmps8
    go_wp2_with fail
    refine (hcp _).mono ?_
    rintro e w1 ⟨rfl, rfl⟩
    go_wp2_with fail
    have hR := (cel_new3 w 25 (.bool false) (.string ⟨#[]⟩) (.string ⟨#[]⟩)).alloc (.cells #[.bool f, .string ⟨#[]⟩, .string ⟨#[]⟩] 25)
    have hP := cel_new3 (w.alloc (.cells #[.bool false, .string ⟨#[]⟩, .string ⟨#[]⟩] 25)) 25 (.bool f) (.string ⟨#[]⟩) (.string ⟨#[]⟩)
    rw [show (w.alloc (.cells #[.bool false, .string ⟨#[]⟩, .string ⟨#[]⟩] 25)).heap.size = w.heap.size + 1 by simp] at hP
    have hB : Below w.heap.size w ((w.alloc (.cells #[.bool false, .string ⟨#[]⟩, .string ⟨#[]⟩] 25)).alloc (.cells #[.bool f, .string ⟨#[]⟩, .string ⟨#[]⟩] 25)) := ((Below.refl _ _).alloc (Nat.le_refl _) _).alloc (by simp) _
    generalize ((w.alloc (.cells #[.bool false, .string ⟨#[]⟩, .string ⟨#[]⟩] 25)).alloc (.cells #[.bool f, .string ⟨#[]⟩, .string ⟨#[]⟩] 25)) = w1 at *
    refine (HCUT.out w1).mono ?_
    rintro e w2 ⟨rfl, hb2⟩
    have hR := hR.below hb2 hR.blk
    have hP := hP.below hb2 hP.blk
    have hB := hB.trans (hb2.mono hB.size)
    clear hb2
    obtain ⟨k0, k1, k2⟩ := cel3 hP
    have z1 := hP.frozen 1
    have z2 := hP.frozen 2
    go_upto_region 7 with (fail)
    have hP := (((hP.set 1 (.string (mk Sr))).set 2 (.string (mk []))).set 2 (.string (mk Sr))).congr (f' := fun i => (#[.bool f, .string (mk Sr), .string (mk Sr)] : Array Value).getD i undef) (three rfl rfl rfl)
    have hR : Cel (((w2.setCell ⟨w.heap.size + 1, 1, none⟩ (.string (mk Sr))).setCell ⟨w.heap.size + 1, 2, none⟩ (.string (mk []))).setCell ⟨w.heap.size + 1, 2, none⟩ (.string (mk Sr))) w.heap.size 25 3 _ := (((hR.setFar (by simp) _).setFar (by simp) _).setFar (by simp) _)
    have hB : Below w.heap.size w (((w2.setCell ⟨w.heap.size + 1, 1, none⟩ (.string (mk Sr))).setCell ⟨w.heap.size + 1, 2, none⟩ (.string (mk []))).setCell ⟨w.heap.size + 1, 2, none⟩ (.string (mk Sr))) := (((hB.setCell (by simp) _).setCell (by simp) _).setCell (by simp) _)
    clear k0 k1 k2 z1 z2
    generalize (((w2.setCell ⟨w.heap.size + 1, 1, none⟩ (.string (mk Sr))).setCell ⟨w.heap.size + 1, 2, none⟩ (.string (mk []))).setCell ⟨w.heap.size + 1, 2, none⟩ (.string (mk Sr))) = w5 at *
    obtain ⟨k0, k1, k2⟩ := cel3 hP
    go_wp2_with fail
    refine (HD.out _ hB).mono ?_
    rintro e w3 ⟨rfl, hb3⟩
    have hR := hR.below hb3 hR.blk
    have hP := hP.below hb3 hP.blk
    have hB := hB.trans (hb3.mono hB.size)
    clear k0 k1 k2 hb3
    cases d1
    · have hv : Hid (parseV RES = .tuple #[.agg #[.bool false, .string (mk []), .string (mk [])], .int .i64 3]) := by show _ = _; rw [← HRES.out]; first | rfl | (simp [parseV]; done) | (fail; done) | (simp [parseV, spV]; done) | (fail; done)
      go_wp2_with (refine wpList_store_part (vs := #[.bool false, .string (mk []), .string (mk [])]) (off := 0) rfl (.tmp 2) (.tmp 40) rfl rfl rfl hR info_spec (by decide) (by simp [Value.oneCell']) ?_; intro w9 hC9 hg9 hs9; have hC10 := cel_stored rfl hC9)
      exact bodyPost_ret (v := .tuple #[.agg #[.bool false, .string (mk []), .string (mk [])], .int .i64 3]) (results_cel2 rfl _ _ rfl rfl hC10 Tryd.underlying25 rfl info_spec (by decide) (fun j hj => getD_some hj)) rfl ⟨by rw [hv.out], hB.grown hg9 hB.size (fun k h => by injection h with h; omega)⟩
    · obtain ⟨k0, k1, k2⟩ := cel3 hP
      go_wp2_with fail
      refine (HS.out _ hB).mono ?_
      rintro e w4 ⟨rfl, hb4⟩
      have hR := hR.below hb4 hR.blk
      have hP := hP.below hb4 hP.blk
      have hB := hB.trans (hb4.mono hB.size)
      clear k0 k1 k2 hb4
      obtain ⟨k0, k1, k2⟩ := cel3 hP
      by_cases he : Sr = []
      · subst he
        have q1 : (mk []).toList = [] := by rw [Lib.toList_data]; rfl
        have q2 : (mk []).toList.isEmpty = true := by rw [q1]; rfl
        have hv : Hid (parseV RES = .tuple #[.agg #[.bool false, .string (mk []), .string (mk [])], .int .i64 3]) := by show _ = _; rw [← HRES.out]; first | rfl | (simp [parseV]; done) | (fail; done) | (simp [parseV, spV]; done) | (fail; done)
        go_wp2_with (refine wpList_store_part (vs := #[.bool false, .string (mk []), .string (mk [])]) (off := 0) rfl (.tmp 2) (.tmp 58) rfl rfl rfl hR info_spec (by decide) (by simp [Value.oneCell']) ?_; intro w9 hC9 hg9 hs9; have hC10 := cel_stored rfl hC9)
        exact bodyPost_ret (v := .tuple #[.agg #[.bool false, .string (mk []), .string (mk [])], .int .i64 3]) (results_cel2 rfl _ _ rfl rfl hC10 Tryd.underlying25 rfl info_spec (by decide) (fun j hj => getD_some hj)) rfl ⟨by rw [hv.out], hB.grown hg9 hB.size (fun k h => by injection h with h; omega)⟩
      · have q1 : (mk Sr).toList.isEmpty = false := by rw [Lib.toList_data, List.isEmpty_eq_false_iff]; exact he
        have q2 : (!(mk Sr).toList.isEmpty) = true := by rw [q1]; rfl
        cases s1
        · have hv : Hid (parseV RES = .tuple #[.agg #[.bool false, .string (mk []), .string (mk [])], .int .i64 3]) := by show _ = _; rw [← HRES.out]; first | rfl | (simp [parseV]; done) | (simp [parseV, he]; done) | (simp [parseV, spV]; done) | (simp [parseV, spV, he]; done)
          go_wp2_with (refine wpList_store_part (vs := #[.bool false, .string (mk []), .string (mk [])]) (off := 0) rfl (.tmp 2) (.tmp 58) rfl rfl rfl hR info_spec (by decide) (by simp [Value.oneCell']) ?_; intro w9 hC9 hg9 hs9; have hC10 := cel_stored rfl hC9)
          exact bodyPost_ret (v := .tuple #[.agg #[.bool false, .string (mk []), .string (mk [])], .int .i64 3]) (results_cel2 rfl _ _ rfl rfl hC10 Tryd.underlying25 rfl info_spec (by decide) (fun j hj => getD_some hj)) rfl ⟨by rw [hv.out], hB.grown hg9 hB.size (fun k h => by injection h with h; omega)⟩
        · cases s2
          · cases d2
            · have hv : Hid (parseV RES = .tuple #[.agg #[.bool f, .string (mk Sr), .string (mk Sr)], .int .i64 0]) := by show _ = _; rw [← HRES.out]; first | rfl | (simp [parseV]; done) | (simp [parseV, he]; done) | (simp [parseV, spV]; done) | (simp [parseV, spV, he]; done)
              obtain ⟨r0, r1, r2⟩ := cel3 hR
              have y0 := hR.frozen 0
              have y1 := hR.frozen 1
              have y2 := hR.frozen 2
              have hC10 := (((hR.set 0 (.bool f)).set 1 (.string (mk Sr))).set 2 (.string (mk Sr))).congr (f' := fun i => (#[.bool f, .string (mk Sr), .string (mk Sr)] : Array Value).getD i undef) (three rfl rfl rfl)
              have hB10 : Below w.heap.size w (((w4.setCell ⟨w.heap.size, 0, none⟩ (.bool f)).setCell ⟨w.heap.size, 1, none⟩ (.string (mk Sr))).setCell ⟨w.heap.size, 2, none⟩ (.string (mk Sr))) := ((hB.setCell (Nat.le_refl _) _).setCell (Nat.le_refl _) _).setCell (Nat.le_refl _) _
              clear hP hR hB
              go_wp2
              exact bodyPost_ret (v := .tuple #[.agg #[.bool f, .string (mk Sr), .string (mk Sr)], .int .i64 0]) (results_cel2 rfl _ _ rfl rfl hC10 Tryd.underlying25 rfl info_spec (Nat.le_refl 3) (fun j hj => getD_some hj)) rfl ⟨by rw [hv.out], hB10⟩
            · have hv : Hid (parseV RES = .tuple #[.agg #[.bool false, .string (mk []), .string (mk [])], .int .i64 3]) := by show _ = _; rw [← HRES.out]; first | rfl | (simp [parseV]; done) | (simp [parseV, he]; done) | (simp [parseV, spV]; done) | (simp [parseV, spV, he]; done)
              go_wp2_with (refine wpList_store_part (vs := #[.bool false, .string (mk []), .string (mk [])]) (off := 0) rfl (.tmp 2) (.tmp 58) rfl rfl rfl hR info_spec (by decide) (by simp [Value.oneCell']) ?_; intro w9 hC9 hg9 hs9; have hC10 := cel_stored rfl hC9)
              exact bodyPost_ret (v := .tuple #[.agg #[.bool false, .string (mk []), .string (mk [])], .int .i64 3]) (results_cel2 rfl _ _ rfl rfl hC10 Tryd.underlying25 rfl info_spec (by decide) (fun j hj => getD_some hj)) rfl ⟨by rw [hv.out], hB.grown hg9 hB.size (fun k h => by injection h with h; omega)⟩
          · cases d2
            · have hv : Hid (parseV RES = .tuple #[.agg #[.bool false, .string (mk []), .string (mk [])], .int .i64 3]) := by show _ = _; rw [← HRES.out]; first | rfl | (simp [parseV]; done) | (simp [parseV, he]; done) | (simp [parseV, spV]; done) | (simp [parseV, spV, he]; done)
              go_wp2_with (refine wpList_store_part (vs := #[.bool false, .string (mk []), .string (mk [])]) (off := 0) rfl (.tmp 2) (.tmp 58) rfl rfl rfl hR info_spec (by decide) (by simp [Value.oneCell']) ?_; intro w9 hC9 hg9 hs9; have hC10 := cel_stored rfl hC9)
              exact bodyPost_ret (v := .tuple #[.agg #[.bool false, .string (mk []), .string (mk [])], .int .i64 3]) (results_cel2 rfl _ _ rfl rfl hC10 Tryd.underlying25 rfl info_spec (by decide) (fun j hj => getD_some hj)) rfl ⟨by rw [hv.out], hB.grown hg9 hB.size (fun k h => by injection h with h; omega)⟩
            · have hv : Hid (parseV RES = .tuple #[.agg #[.bool f, .string (mk Sr), .string (mk Sr)], .int .i64 0]) := by show _ = _; rw [← HRES.out]; first | rfl | (simp [parseV]; done) | (simp [parseV, he]; done) | (simp [parseV, spV]; done) | (simp [parseV, spV, he]; done)
              obtain ⟨r0, r1, r2⟩ := cel3 hR
              have y0 := hR.frozen 0
              have y1 := hR.frozen 1
              have y2 := hR.frozen 2
              have hC10 := (((hR.set 0 (.bool f)).set 1 (.string (mk Sr))).set 2 (.string (mk Sr))).congr (f' := fun i => (#[.bool f, .string (mk Sr), .string (mk Sr)] : Array Value).getD i undef) (three rfl rfl rfl)
              have hB10 : Below w.heap.size w (((w4.setCell ⟨w.heap.size, 0, none⟩ (.bool f)).setCell ⟨w.heap.size, 1, none⟩ (.string (mk Sr))).setCell ⟨w.heap.size, 2, none⟩ (.string (mk Sr))) := ((hB.setCell (Nat.le_refl _) _).setCell (Nat.le_refl _) _).setCell (Nat.le_refl _) _
              clear hP hR hB
              go_wp2
              exact bodyPost_ret (v := .tuple #[.agg #[.bool f, .string (mk Sr), .string (mk Sr)], .int .i64 0]) (results_cel2 rfl _ _ rfl rfl hC10 Tryd.underlying25 rfl info_spec (Nat.le_refl 3) (fun j hj => getD_some hj)) rfl ⟨by rw [hv.out], hB10⟩
  · go_enter Tryd.func8, Tryd.ntmps8
    go_wp2_with fail
    refine (hcp _).mono ?_
    rintro e w1 ⟨rfl, rfl⟩
    go_wp2_with fail
    have hR := (cel_new3 w 25 (.bool false) (.string ⟨#[]⟩) (.string ⟨#[]⟩)).alloc (.cells #[.bool f, .string ⟨#[]⟩, .string ⟨#[]⟩] 25)
    have hP := cel_new3 (w.alloc (.cells #[.bool false, .string ⟨#[]⟩, .string ⟨#[]⟩] 25)) 25 (.bool f) (.string ⟨#[]⟩) (.string ⟨#[]⟩)
    rw [show (w.alloc (.cells #[.bool false, .string ⟨#[]⟩, .string ⟨#[]⟩] 25)).heap.size = w.heap.size + 1 by simp] at hP
    have hB : Below w.heap.size w ((w.alloc (.cells #[.bool false, .string ⟨#[]⟩, .string ⟨#[]⟩] 25)).alloc (.cells #[.bool f, .string ⟨#[]⟩, .string ⟨#[]⟩] 25)) := ((Below.refl _ _).alloc (Nat.le_refl _) _).alloc (by simp) _
    generalize ((w.alloc (.cells #[.bool false, .string ⟨#[]⟩, .string ⟨#[]⟩] 25)).alloc (.cells #[.bool f, .string ⟨#[]⟩, .string ⟨#[]⟩] 25)) = w1 at *
    refine (HCUT.out w1).mono ?_
    rintro e w2 ⟨rfl, hb2⟩
    have hR := hR.below hb2 hR.blk
    have hP := hP.below hb2 hP.blk
    have hB := hB.trans (hb2.mono hB.size)
    clear hb2
    obtain ⟨k0, k1, k2⟩ := cel3 hP
    have z1 := hP.frozen 1
    have z2 := hP.frozen 2
    go_upto_region 7 with (fail)
    have hP := ((hP.set 1 (.string (mk Sr))).set 2 (.string (mk D))).congr (f' := fun i => (#[.bool f, .string (mk Sr), .string (mk D)] : Array Value).getD i undef) (three rfl rfl rfl)
    have hR : Cel ((w2.setCell ⟨w.heap.size + 1, 1, none⟩ (.string (mk Sr))).setCell ⟨w.heap.size + 1, 2, none⟩ (.string (mk D))) w.heap.size 25 3 _ := ((hR.setFar (by simp) _).setFar (by simp) _)
    have hB : Below w.heap.size w ((w2.setCell ⟨w.heap.size + 1, 1, none⟩ (.string (mk Sr))).setCell ⟨w.heap.size + 1, 2, none⟩ (.string (mk D))) := ((hB.setCell (by simp) _).setCell (by simp) _)
    clear k0 k1 k2 z1 z2
    generalize ((w2.setCell ⟨w.heap.size + 1, 1, none⟩ (.string (mk Sr))).setCell ⟨w.heap.size + 1, 2, none⟩ (.string (mk D))) = w5 at *
    obtain ⟨k0, k1, k2⟩ := cel3 hP
    go_wp2_with fail
    refine (HD.out _ hB).mono ?_
    rintro e w3 ⟨rfl, hb3⟩
    have hR := hR.below hb3 hR.blk
    have hP := hP.below hb3 hP.blk
    have hB := hB.trans (hb3.mono hB.size)
    clear k0 k1 k2 hb3
    cases d1
    · have hv : Hid (parseV RES = .tuple #[.agg #[.bool false, .string (mk []), .string (mk [])], .int .i64 3]) := by show _ = _; rw [← HRES.out]; first | rfl | (simp [parseV]; done) | (fail; done) | (simp [parseV, spV]; done) | (fail; done)
      go_wp2_with (refine wpList_store_part (vs := #[.bool false, .string (mk []), .string (mk [])]) (off := 0) rfl (.tmp 2) (.tmp 40) rfl rfl rfl hR info_spec (by decide) (by simp [Value.oneCell']) ?_; intro w9 hC9 hg9 hs9; have hC10 := cel_stored rfl hC9)
      exact bodyPost_ret (v := .tuple #[.agg #[.bool false, .string (mk []), .string (mk [])], .int .i64 3]) (results_cel2 rfl _ _ rfl rfl hC10 Tryd.underlying25 rfl info_spec (by decide) (fun j hj => getD_some hj)) rfl ⟨by rw [hv.out], hB.grown hg9 hB.size (fun k h => by injection h with h; omega)⟩
    · obtain ⟨k0, k1, k2⟩ := cel3 hP
      go_wp2_with fail
      refine (HS.out _ hB).mono ?_
      rintro e w4 ⟨rfl, hb4⟩
      have hR := hR.below hb4 hR.blk
      have hP := hP.below hb4 hP.blk
      have hB := hB.trans (hb4.mono hB.size)
      clear k0 k1 k2 hb4
      obtain ⟨k0, k1, k2⟩ := cel3 hP
      by_cases he : Sr = []
      · subst he
        have q1 : (mk []).toList = [] := by rw [Lib.toList_data]; rfl
        have q2 : (mk []).toList.isEmpty = true := by rw [q1]; rfl
        cases d2
        · have hv : Hid (parseV RES = .tuple #[.agg #[.bool f, .string (mk []), .string (mk D)], .int .i64 0]) := by show _ = _; rw [← HRES.out]; first | rfl | (simp [parseV]; done) | (fail; done) | (simp [parseV, spV]; done) | (fail; done)
          obtain ⟨r0, r1, r2⟩ := cel3 hR
          have y0 := hR.frozen 0
          have y1 := hR.frozen 1
          have y2 := hR.frozen 2
          have hC10 := (((hR.set 0 (.bool f)).set 1 (.string (mk []))).set 2 (.string (mk D))).congr (f' := fun i => (#[.bool f, .string (mk []), .string (mk D)] : Array Value).getD i undef) (three rfl rfl rfl)
          have hB10 : Below w.heap.size w (((w4.setCell ⟨w.heap.size, 0, none⟩ (.bool f)).setCell ⟨w.heap.size, 1, none⟩ (.string (mk []))).setCell ⟨w.heap.size, 2, none⟩ (.string (mk D))) := ((hB.setCell (Nat.le_refl _) _).setCell (Nat.le_refl _) _).setCell (Nat.le_refl _) _
          clear hP hR hB
          go_wp2
          exact bodyPost_ret (v := .tuple #[.agg #[.bool f, .string (mk []), .string (mk D)], .int .i64 0]) (results_cel2 rfl _ _ rfl rfl hC10 Tryd.underlying25 rfl info_spec (Nat.le_refl 3) (fun j hj => getD_some hj)) rfl ⟨by rw [hv.out], hB10⟩
        · have hv : Hid (parseV RES = .tuple #[.agg #[.bool false, .string (mk []), .string (mk [])], .int .i64 3]) := by show _ = _; rw [← HRES.out]; first | rfl | (simp [parseV]; done) | (fail; done) | (simp [parseV, spV]; done) | (fail; done)
          go_wp2_with (refine wpList_store_part (vs := #[.bool false, .string (mk []), .string (mk [])]) (off := 0) rfl (.tmp 2) (.tmp 58) rfl rfl rfl hR info_spec (by decide) (by simp [Value.oneCell']) ?_; intro w9 hC9 hg9 hs9; have hC10 := cel_stored rfl hC9)
          exact bodyPost_ret (v := .tuple #[.agg #[.bool false, .string (mk []), .string (mk [])], .int .i64 3]) (results_cel2 rfl _ _ rfl rfl hC10 Tryd.underlying25 rfl info_spec (by decide) (fun j hj => getD_some hj)) rfl ⟨by rw [hv.out], hB.grown hg9 hB.size (fun k h => by injection h with h; omega)⟩
      · have q1 : (mk Sr).toList.isEmpty = false := by rw [Lib.toList_data, List.isEmpty_eq_false_iff]; exact he
        have q2 : (!(mk Sr).toList.isEmpty) = true := by rw [q1]; rfl
        cases s1
        · have hv : Hid (parseV RES = .tuple #[.agg #[.bool false, .string (mk []), .string (mk [])], .int .i64 3]) := by show _ = _; rw [← HRES.out]; first | rfl | (simp [parseV]; done) | (simp [parseV, he]; done) | (simp [parseV, spV]; done) | (simp [parseV, spV, he]; done)
          go_wp2_with (refine wpList_store_part (vs := #[.bool false, .string (mk []), .string (mk [])]) (off := 0) rfl (.tmp 2) (.tmp 58) rfl rfl rfl hR info_spec (by decide) (by simp [Value.oneCell']) ?_; intro w9 hC9 hg9 hs9; have hC10 := cel_stored rfl hC9)
          exact bodyPost_ret (v := .tuple #[.agg #[.bool false, .string (mk []), .string (mk [])], .int .i64 3]) (results_cel2 rfl _ _ rfl rfl hC10 Tryd.underlying25 rfl info_spec (by decide) (fun j hj => getD_some hj)) rfl ⟨by rw [hv.out], hB.grown hg9 hB.size (fun k h => by injection h with h; omega)⟩
        · cases s2
          · cases d2
            · have hv : Hid (parseV RES = .tuple #[.agg #[.bool f, .string (mk Sr), .string (mk D)], .int .i64 0]) := by show _ = _; rw [← HRES.out]; first | rfl | (simp [parseV]; done) | (simp [parseV, he]; done) | (simp [parseV, spV]; done) | (simp [parseV, spV, he]; done)
              obtain ⟨r0, r1, r2⟩ := cel3 hR
              have y0 := hR.frozen 0
              have y1 := hR.frozen 1
              have y2 := hR.frozen 2
              have hC10 := (((hR.set 0 (.bool f)).set 1 (.string (mk Sr))).set 2 (.string (mk D))).congr (f' := fun i => (#[.bool f, .string (mk Sr), .string (mk D)] : Array Value).getD i undef) (three rfl rfl rfl)
              have hB10 : Below w.heap.size w (((w4.setCell ⟨w.heap.size, 0, none⟩ (.bool f)).setCell ⟨w.heap.size, 1, none⟩ (.string (mk Sr))).setCell ⟨w.heap.size, 2, none⟩ (.string (mk D))) := ((hB.setCell (Nat.le_refl _) _).setCell (Nat.le_refl _) _).setCell (Nat.le_refl _) _
              clear hP hR hB
              go_wp2
              exact bodyPost_ret (v := .tuple #[.agg #[.bool f, .string (mk Sr), .string (mk D)], .int .i64 0]) (results_cel2 rfl _ _ rfl rfl hC10 Tryd.underlying25 rfl info_spec (Nat.le_refl 3) (fun j hj => getD_some hj)) rfl ⟨by rw [hv.out], hB10⟩
            · have hv : Hid (parseV RES = .tuple #[.agg #[.bool false, .string (mk []), .string (mk [])], .int .i64 3]) := by show _ = _; rw [← HRES.out]; first | rfl | (simp [parseV]; done) | (simp [parseV, he]; done) | (simp [parseV, spV]; done) | (simp [parseV, spV, he]; done)
              go_wp2_with (refine wpList_store_part (vs := #[.bool false, .string (mk []), .string (mk [])]) (off := 0) rfl (.tmp 2) (.tmp 58) rfl rfl rfl hR info_spec (by decide) (by simp [Value.oneCell']) ?_; intro w9 hC9 hg9 hs9; have hC10 := cel_stored rfl hC9)
              exact bodyPost_ret (v := .tuple #[.agg #[.bool false, .string (mk []), .string (mk [])], .int .i64 3]) (results_cel2 rfl _ _ rfl rfl hC10 Tryd.underlying25 rfl info_spec (by decide) (fun j hj => getD_some hj)) rfl ⟨by rw [hv.out], hB.grown hg9 hB.size (fun k h => by injection h with h; omega)⟩
          · cases d2
            · have hv : Hid (parseV RES = .tuple #[.agg #[.bool false, .string (mk []), .string (mk [])], .int .i64 3]) := by show _ = _; rw [← HRES.out]; first | rfl | (simp [parseV]; done) | (simp [parseV, he]; done) | (simp [parseV, spV]; done) | (simp [parseV, spV, he]; done)
              go_wp2_with (refine wpList_store_part (vs := #[.bool false, .string (mk []), .string (mk [])]) (off := 0) rfl (.tmp 2) (.tmp 58) rfl rfl rfl hR info_spec (by decide) (by simp [Value.oneCell']) ?_; intro w9 hC9 hg9 hs9; have hC10 := cel_stored rfl hC9)
              exact bodyPost_ret (v := .tuple #[.agg #[.bool false, .string (mk []), .string (mk [])], .int .i64 3]) (results_cel2 rfl _ _ rfl rfl hC10 Tryd.underlying25 rfl info_spec (by decide) (fun j hj => getD_some hj)) rfl ⟨by rw [hv.out], hB.grown hg9 hB.size (fun k h => by injection h with h; omega)⟩
            · have hv : Hid (parseV RES = .tuple #[.agg #[.bool f, .string (mk Sr), .string (mk D)], .int .i64 0]) := by show _ = _; rw [← HRES.out]; first | rfl | (simp [parseV]; done) | (simp [parseV, he]; done) | (simp [parseV, spV]; done) | (simp [parseV, spV, he]; done)
              obtain ⟨r0, r1, r2⟩ := cel3 hR
              have y0 := hR.frozen 0
              have y1 := hR.frozen 1
              have y2 := hR.frozen 2
              have hC10 := (((hR.set 0 (.bool f)).set 1 (.string (mk Sr))).set 2 (.string (mk D))).congr (f' := fun i => (#[.bool f, .string (mk Sr), .string (mk D)] : Array Value).getD i undef) (three rfl rfl rfl)
              have hB10 : Below w.heap.size w (((w4.setCell ⟨w.heap.size, 0, none⟩ (.bool f)).setCell ⟨w.heap.size, 1, none⟩ (.string (mk Sr))).setCell ⟨w.heap.size, 2, none⟩ (.string (mk D))) := ((hB.setCell (Nat.le_refl _) _).setCell (Nat.le_refl _) _).setCell (Nat.le_refl _) _
              clear hP hR hB
              go_wp2
              exact bodyPost_ret (v := .tuple #[.agg #[.bool f, .string (mk Sr), .string (mk D)], .int .i64 0]) (results_cel2 rfl _ _ rfl rfl hC10 Tryd.underlying25 rfl info_spec (Nat.le_refl 3) (fun j hj => getD_some hj)) rfl ⟨by rw [hv.out], hB10⟩
end Go.Proofs.YtbaokenjkbabnaaDoor
