/- The document's end: segment and Out. -/
import Derived.Test.YtoeipgbnjcgbjaaPlaI
import Derived.Test.YtoeipgbnjcgbjaaConv
namespace Go.Proofs.Ytoeipgbnjcgbjaa
open Go.RowKit
set_option linter.unusedVariables false
set_option linter.unusedSimpArgs false

set_option maxRecDepth 100000 in
set_option maxHeartbeats 2000000 in
theorem rseg_any (g : Nat) (t : En) (kd sq ak : Int) (data : List Int) (w : World) (h : RefAt g w t) (hb : Bytes data) (hl : data.length ≤ 1048576) :
    Calls Try.prog 61 #[.pointer (some ⟨g, 0, none⟩), .int .i64 kd, .int .i64 sq, .int .i64 ak, .string (strOfNums data)] w fun e w' => e = .returned (.string (strOfNums (segL ⟨kd, t.id, sq, ak, data⟩))) ∧ Below w.heap.size w w' := by
  have c0 := h.c0
  have sz := strOfNums_size' data
  obtain ⟨n, hn⟩ : ∃ n, data.length = n := ⟨_, rfl⟩
  rw [hn] at sz hl
  have HN := Lib.hid hn
  have HBO := Lib.hid (bytesOf_str data hb)
  clear h hn
  go_enter Try.func61, Try.ntmps61
  go_wp2_with (first
    | (refine wpList_conv rfl (.tmp 18) rfl (strOfNums data) n data rfl sz HBO.out (by omega) ?_; intro A5 c5 w5 hI5 hc5 hcm5 hb5 _)
    | (go_at_call 18; rw [← HN.out]; refine (refSegment_any ⟨kd, t.id, sq, ak, data⟩ A5 c5 w5 hI5 hb (by rw [HN.out]; exact hc5) hcm5).mono ?_; rintro e w6 ⟨rfl, hb6⟩))
  go_ret
  exact ⟨rfl, hb5.trans (hb6.mono hb5.size)⟩
/-- A row of strings. -/
def StrsAt (B : Nat) (w : World) (v : Value) (ls : List (List Int)) : Prop := OwnS w B 9 1 v ls.length (ls.map fun l => .string (strOfNums l))
theorem Try.info_str : (Try.prog.info? 9).map (fun i => (i.zero, i.size, i.bytes)) = some (some (.string ⟨#[]⟩), 1, 16) := by kernel_rfl
section
variable {B : Nat} {w w' : World} {v : Value} {ls : List (List Int)} {g : Nat} {t : En}
theorem StrsAt.nil (B : Nat) (w : World) : StrsAt B w (.slice none 0 0) [] := OwnS.nil _ _ _ _
theorem StrsAt.below (h : StrsAt B w v ls) (hb : Below w.heap.size w w') : StrsAt B w' v ls := h.chg (S := fun _ => False) (Chg.of_below hb) (fun _ _ h => h)
theorem StrsAt.ne (h : StrsAt B w v ls) (hr : RefAt g w t) : v.ownBlock ≠ some g := OwnS.ne_cel h hr (by decide)
theorem StrsAt.set (h : StrsAt B w v ls) (hr : RefAt g w t) (i : Nat) (u : Value) : StrsAt B (w.setCell ⟨g, i, none⟩ u) v ls := OwnS.setFar h (h.ne hr) u
theorem StrsAt.shape (h : StrsAt B w v ls) : ∃ A c, v = .slice A ls.length c := OwnS.shape h
end
/-- What Out has so far. -/
structure OutSt (W w : World) (g : Nat) (t : En) (v : Value) (ls : List (List Int)) : Prop where
  r : RefAt g w t
  o : StrsAt W.heap.size w v ls
  chg : Chg (fun k => k = g) W w
section
variable {W w w' : World} {g : Nat} {t t' : En} {v v' : Value} {ls : List (List Int)}
theorem OutSt.below (h : OutSt W w g t v ls) (hb : Below w.heap.size w w') : OutSt W w' g t v ls := ⟨h.r.below hb, h.o.below hb, h.chg.trans (Chg.of_below (S := fun _ => False) hb) (fun _ _ h => h.elim)⟩
theorem OutSt.drewN (h : OutSt W w g t v ls) (n : Nat) : OutSt W (w.drewN n) g t v ls := h.below ⟨rfl, rfl, rfl, Nat.le_refl _, fun _ _ => rfl⟩
theorem OutSt.drew (h : OutSt W w g t v ls) : OutSt W w.drew g t v ls := h.below (Below.refl _ _).drew
theorem OutSt.set (h : OutSt W w g t v ls) (i : Nat) (u : Value) (hf : ∀ j, j < 14 → (if j = i then u else rF t j) = rF t' j) : OutSt W (w.setCell ⟨g, i, none⟩ u) g t' v ls :=
  ⟨h.r.set i u t' hf, h.o.set h.r i u, h.chg.setCell (.inl rfl) u⟩
/-- One more string behind the row. -/
theorem OutSt.more {o : Obj} {l : List Int} (h : OutSt W w g t v ls) (hg : (w.alloc o).grownBy w' v.ownBlock) (h9 : OwnS w' W.heap.size 9 1 v' (ls.length + 1) ((ls.map fun l => Value.string (strOfNums l)) ++ [.string (strOfNums l)])) : OutSt W w' g t v' (ls ++ [l]) := by
  have hc : Chg (fun k => v.ownBlock = some k) w w' := ((Chg.refl _ w).alloc o).trans (Chg.of_grown (S := fun k => v.ownBlock = some k) hg (fun _ h => h)) (fun _ _ h => h)
  refine ⟨h.r.chg hc (h.o.ne h.r), ?_, h.chg.trans hc (fun k hk hs => ?_)⟩
  · unfold StrsAt
    rw [List.length_append, List.map_append]; exact h9
  · have := (OwnS.lt h.o k hs).1; omega
end
theorem OutSt.one {W w : World} {g : Nat} {t : En} {v : Value} {l : List Int} (h : OutSt W w g t v []) : OutSt W (w.alloc (.cells #[.string (strOfNums l)] 9)) g t (.slice (some ⟨w.heap.size, 0, none⟩) 1 1) [l] := by
  have h1 := h.below ((Below.refl w.heap.size w).alloc (Nat.le_refl _) (.cells #[.string (strOfNums l)] 9))
  exact ⟨h1.r, ⟨rfl, .inr ⟨w.heap.size, 0, 1, #[.string (strOfNums l)], rfl, h.chg.size, ⟨(0, 0), heap_alloc_new w _, .inl (Nat.le_refl _)⟩, Nat.le_refl _, by unfold maxLen; omega, by simp, by simp⟩⟩, h1.chg⟩
/-- Reads alone. -/
def IRd (w0 : World) : List Value → World → Prop := fun _ w => w = w0
/-- One more datagram: between the operations. -/
def ISay (W w0 : World) (g : Nat) (t : En) (ls : List (List Int)) (l : List Int) : List Value → World → Prop
  | [], w => w = w0
  | [_], w => Below w0.heap.size w0 w
  | [_, u], w => ∃ w5, Below w0.heap.size w0 w5 ∧ w = w5.alloc (.cells #[.string (strOfNums l)] 9) ∧ u = .slice (some ⟨w5.heap.size, 0, none⟩) 1 1
  | [_, _, v], w => OutSt W w g t v (ls ++ [l])
  | [_, _, v, x], w => x = v ∧ OutSt W w g t v (ls ++ [l])
  | _, _ => True
def OutPostR (g : Nat) (W : World) (t' : En) (ls : List (List Int)) (e : Ending) (w' : World) : Prop := ∃ v, e = .returned v ∧ OutSt W w' g t' v ls
def nextR (g : Nat) (w : World) : Nat := match w.cell? ⟨g, 5, none⟩ with | some (.int _ x) => x.toNat | _ => 0
theorem waits_cmp (t : En) (ho : EnOk t) (hf : EnFin t) : decide (ackedV t < mostS t) = waitsB t ∧ (mostS t == ackedV t) = !waitsB t := by
  have h1 := ho.una
  obtain ⟨f1, f2⟩ := hf
  unfold ackedV mostS waitsB
  cases he : t.endAcked
  · cases hs : t.endSent
    · simp only [Bool.false_eq_true, if_false, Bool.false_and, Bool.or_false]
      refine ⟨by first | trivial | rfl, ?_⟩
      by_cases h : t.una < t.next
      · rw [decide_eq_true h, beq_eq_false_iff_ne.2 (by omega)]; rfl
      · rw [decide_eq_false h, beq_iff_eq.2 (by omega)]; rfl
    · simp only [Bool.false_eq_true, if_false, if_true, Bool.not_false, Bool.and_self, Bool.or_true, Bool.not_true]
      exact ⟨decide_eq_true (by omega), beq_eq_false_iff_ne.2 (by omega)⟩
  · obtain ⟨g1, g2⟩ := f2 he
    obtain ⟨g3, g4⟩ := f1 g2
    rw [g2]
    simp only [if_true, Bool.not_true, Bool.and_false, Bool.or_false]
    rw [decide_eq_false (show ¬ t.una < t.next by omega), decide_eq_false (show ¬ t.una + 1 < t.next + 1 by omega)]
    exact ⟨rfl, beq_iff_eq.2 (by omega)⟩
set_option maxRecDepth 100000 in
set_option maxHeartbeats 8000000 in
theorem rout_any (g : Nat) (t : En) (now : Int) (W : World) (h : RefAt g W t) (ho : EnOk t) (hf : EnFin t) (hnow : (Lit.int .i64 now).wf = true) :
    Calls Try.prog 34 #[.pointer (some ⟨g, 0, none⟩), .int .i64 now] W (OutPostR g W (outS t now).2 (outS t now).1) := by
  have hst : OutSt W W g t (.slice none 0 0) [] := ⟨h, StrsAt.nil _ _, Chg.refl _ _⟩
  obtain ⟨i0, hi, hz0, hz1, hz2⟩ := info_parts Try.info_str
  have hout : outS t now = if t.st = 1 then (if !t.dialed || dueB t now then ([segL ⟨1, t.id, 0, 0, []⟩], { t with dialed := true, at_ := now }) else ([], t)) else if t.st = 3 then sendsS t now else ([], t) := rfl
  have HOUT := Lib.hid hout
  have HS := Lib.hid hst
  have c1 := h.c1
  have c9 := h.c9
  have f8 := h.fr 8
  have f9 := h.fr 9
  have c8 := h.c8
  have hlate := fun w' (hb : Below W.heap.size W w') => late_any g t now w' (h.below hb) ho.at_ hnow
  have HLATE := Lib.hid hlate
  clear hout hst h hlate
  go_enter Try.func34, Try.ntmps34
  by_cases s1 : t.st = 1
  · have e1 : (t.st == 1) = true := by simpa using s1
    have e3 : (t.st != 3) = true := by rw [s1]; rfl
    by_cases hgo : (!t.dialed || dueB t now) = true
    · have HO : Hid (outS t now = ([segL ⟨1, t.id, 0, 0, []⟩], { t with dialed := true, at_ := now })) := by show _ = _; rw [HOUT.out, if_pos s1, if_pos hgo]
      clear HOUT s1
      go_upto_region 2 with (fail)
      go_cut [26] (fun v wx => v = .bool true ∧ wx = W)
      case first =>
        cases hdl : t.dialed
        · rw [hdl] at c9
          clear hgo hdl
          go_wp2
          go_meet
          exact ⟨rfl, rfl⟩
        · rw [hdl] at c9 hgo
          have hdu : dueB t now = true := by simpa using hgo
          have hl := HLATE.out W (Below.refl _ _)
          rw [hdu] at hl
          clear hgo hdl hdu
          go_wp2_with (go_at_call 60; refine hl.mono ?_; rintro e w' ⟨rfl, rfl⟩)
          go_meet
          exact ⟨rfl, rfl⟩
      case rest =>
        obtain ⟨rfl, rfl⟩ := hcut
        have hs2 := ((HS.out.set 9 (.bool true) (t' := { t with dialed := true }) (enF_cases rfl rfl rfl rfl rfl rfl rfl rfl rfl rfl rfl rfl rfl rfl)).set 8 (.int .i64 now) (t' := { t with dialed := true, at_ := now }) (enF_cases rfl rfl rfl rfl rfl rfl rfl rfl rfl rfl rfl rfl rfl rfl))
        have hseg := rseg_any g { t with dialed := true, at_ := now } 1 0 0 [] _ hs2.r (fun x h => by cases h) (by simp)
        have HS2 := Lib.hid hs2
        clear hs2 HS
        have es : strOfNums [] = ⟨#[]⟩ := rfl
        rw [es] at hseg
        go_wp2_with (go_at_call 61; refine hseg.mono ?_; rintro e w5 ⟨rfl, hb5⟩)
        have hs3 := HS2.out.below hb5
        go_ret
        refine ⟨_, rfl, ?_⟩
        rw [HO.out]
        exact hs3.one
    · have HO : Hid (outS t now = ([], t)) := by show _ = _; rw [HOUT.out, if_pos s1, if_neg hgo]
      clear HOUT s1
      have hdl : t.dialed = true := by
        cases hdl : t.dialed
        · rw [hdl] at hgo; simp at hgo
        · rfl
      have hdu : dueB t now = false := by
        cases hdu : dueB t now
        · rfl
        · rw [hdu] at hgo; simp at hgo
      have hl := HLATE.out W (Below.refl _ _)
      rw [hdu] at hl
      rw [hdl] at c9
      clear hgo hdl hdu
      go_wp2_with (go_at_call 60; refine hl.mono ?_; rintro e w' ⟨rfl, rfl⟩)
      go_ret
      refine ⟨_, rfl, ?_⟩
      rw [HO.out]
      exact HS.out
  · have e1 : (t.st == 1) = false := by simpa using s1
    by_cases s3 : t.st = 3
    · have e3 : (t.st != 3) = false := by simpa using s3
      have HO : Hid (outS t now = sendsS t now) := by show _ = _; rw [HOUT.out, if_neg s1, if_pos s3]
      clear HOUT s1 s3
      obtain ⟨hw1, hw2⟩ := waits_cmp t ho hf
      have hcs := fun w' (hb : Below W.heap.size W w') => rsent_any g t w' (HS.out.r.below hb) ho
      have hca := fun w' (hb : Below W.heap.size W w') => racked_any g t w' (HS.out.r.below hb) ho
      obtain ⟨mv, hmv⟩ : ∃ v, mostS t = v := ⟨_, rfl⟩
      obtain ⟨av, hav⟩ : ∃ v, ackedV t = v := ⟨_, rfl⟩
      rw [hmv, hav] at hw1
      have hcs0 := hcs W (Below.refl _ _)
      have hca0 := hca W (Below.refl _ _)
      rw [hmv] at hcs0
      rw [hav] at hca0
      have hl := HLATE.out W (Below.refl _ _)
      clear hw2 hcs hca hmv hav c9 f9
      have h1 : Hid (sends1 t now = if waitsB t && dueB t now then { t with next := t.una, at_ := now, endSent := t.endAcked } else t) := rfl
      obtain ⟨wt, hwt⟩ : ∃ b, waitsB t = b := ⟨_, rfl⟩
      obtain ⟨du, hdu⟩ : ∃ b, dueB t now = b := ⟨_, rfl⟩
      rw [hwt] at hw1
      rw [hdu] at hl
      have HWT := Lib.hid hwt
      have HDU := Lib.hid hdu
      clear hwt hdu
      go_upto_region 8 with (fail)
      go_cut [51] (fun v wx => v = .bool (wt && du) ∧ wx = W)
      case first => as_aux_lemma =>
        cases wt
        · go_wp2_with (first | (go_at_call 62; refine hcs0.mono ?_; rintro e w' ⟨rfl, rfl⟩) | (go_at_call 63; refine hca0.mono ?_; rintro e w' ⟨rfl, rfl⟩))
          go_meet
          exact ⟨rfl, rfl⟩
        · go_wp2_with (first | (go_at_call 62; refine hcs0.mono ?_; rintro e w' ⟨rfl, rfl⟩) | (go_at_call 63; refine hca0.mono ?_; rintro e w' ⟨rfl, rfl⟩) | (go_at_call 60; refine hl.mono ?_; rintro e w' ⟨rfl, rfl⟩))
          go_meet
          exact ⟨rfl, rfl⟩
      case rest =>
        obtain ⟨rfl, rfl⟩ := hcut
        generalize wc = W at *
        clear hw1 hcs0 hca0 hl mv av HLATE c1 c8 f8
        go_upto_if 51 with (fail)
        go_cut [] (fun wx => OutSt W wx g (sends1 t now) (.slice none 0 0) [])
        case first => as_aux_lemma =>
          cases hb : (wt && du)
          · have HE : Hid (sends1 t now = t) := by show _ = _; rw [h1.out, HWT.out, HDU.out, hb]; rfl
            clear hb
            go_wp2
            go_meet
            rw [HE.out]
            exact HS.out
          · have HE : Hid (sends1 t now = { t with next := t.una, at_ := now, endSent := t.endAcked }) := by show _ = _; rw [h1.out, HWT.out, HDU.out, hb]; rfl
            clear hb
            have c4 := HS.out.r.c4
            have c5 := HS.out.r.c5
            have c6 := HS.out.r.c6
            have c7 := HS.out.r.c7
            have c8 := HS.out.r.c8
            have f5 := HS.out.r.fr 5
            have f6 := HS.out.r.fr 6
            have f8 := HS.out.r.fr 8
            go_wp2
            go_meet
            rw [HE.out]
            exact ((HS.out.set 5 _ (t' := { t with next := t.una }) (enF_cases rfl rfl rfl rfl rfl rfl rfl rfl rfl rfl rfl rfl rfl rfl)).set 6 _ (t' := { t with next := t.una, endSent := t.endAcked }) (enF_cases rfl rfl rfl rfl rfl rfl rfl rfl rfl rfl rfl rfl rfl rfl)).set 8 _ (t' := { t with next := t.una, endSent := t.endAcked, at_ := now }) (enF_cases rfl rfl rfl rfl rfl rfl rfl rfl rfl rfl rfl rfl rfl rfl)
        case rest =>
          have hS1 := sends1_ok t now ho hnow
          have hF1 := sends1_fin t now hf
          have hsd : sendsS t now = ((sends2 (sends1 t now)).1 ++ (sends3 (sends2 (sends1 t now)).2).1 ++ (sends4 (sends3 (sends2 (sends1 t now)).2).2).1, sends5 (!waitsB (sends2 (sends1 t now)).2 && (!(sends3 (sends2 (sends1 t now)).2).1.isEmpty || !(sends4 (sends3 (sends2 (sends1 t now)).2).2).1.isEmpty)) (sends4 (sends3 (sends2 (sends1 t now)).2).2).2 now) := rfl
          rw [← HO.out] at hsd
          generalize sends1 t now = s1 at *
          have hst := hcut
          generalize wc = wa at *
          clear hcut HS h1
          obtain ⟨hw1, hw2⟩ := waits_cmp s1 hS1 hF1
          obtain ⟨al, hal⟩ : ∃ b, (!waitsB s1) = b := ⟨_, rfl⟩
          obtain ⟨mv, hmv⟩ : ∃ v, mostS s1 = v := ⟨_, rfl⟩
          obtain ⟨av, hav⟩ : ∃ v, ackedV s1 = v := ⟨_, rfl⟩
          have hcs := rsent_any g s1 wa hst.r hS1
          have hca := racked_any g s1 wa hst.r hS1
          rw [hmv] at hcs hw2
          rw [hav] at hca hw2
          rw [hal] at hw2
          have HAL := Lib.hid hal
          have HSD := Lib.hid hsd
          have HS1 := Lib.hid hst
          clear hw1 hal hmv hav hsd hst
          have c13 := HS1.out.r.c13
          go_upto_if 78 with (first | (go_at_call 62; refine hcs.mono ?_; rintro e w' ⟨rfl, rfl⟩) | (go_at_call 63; refine hca.mono ?_; rintro e w' ⟨rfl, rfl⟩))
          go_cut [5] (fun v5 wx => OutSt W wx g (sends2 s1).2 v5 (sends2 s1).1)
          case first => as_aux_lemma =>
            have HE : Hid (sends2 s1 = if s1.owes then ([ackSeg s1], { s1 with owes := false }) else ([], s1)) := rfl
            cases how : s1.owes
            · rw [how] at HE
              have HE := Lib.hid (HE.out.trans (if_neg (by simp)))
              go_wp2
              go_meet
              rw [HE.out]
              exact HS1.out
            · rw [how] at HE
              have HE := Lib.hid (HE.out.trans (if_pos rfl))
              clear how
              have f13 := HS1.out.r.fr 13
              have c10 := HS1.out.r.c10
              have c12 := HS1.out.r.c12
              have szi := strOfNums_size' s1.inn
              have hil := hS1.innl
              have hs3 := HS1.out.set 13 (.bool false) (t' := { s1 with owes := false }) (enF_cases rfl rfl rfl rfl rfl rfl rfl rfl rfl rfl rfl rfl rfl rfl)
              have HS3 := Lib.hid hs3
              have HA : Hid (ackSeg s1 = segL ⟨2, s1.id, 0, s1.inn.length + (if s1.other then 1 else 0), []⟩) := rfl
              obtain ⟨inl, hinl⟩ : ∃ n, s1.inn.length = n := ⟨_, rfl⟩
              rw [hinl] at szi hil HA
              have es : strOfNums [] = ⟨#[]⟩ := rfl
              clear hs3 hinl
              have e1w : IntKind.i64.wrap ((inl : Int) + 1) = (inl : Int) + 1 := IntWalk.i64_in _ (by omega)
              cases hot : s1.other
              · rw [hot] at HA c12
                have HA : Hid (ackSeg s1 = segL ⟨2, s1.id, 0, (inl : Int), []⟩) := by have h9 := HA.out; simp only [Bool.false_eq_true, if_false, Int.add_zero] at h9; exact h9
                have hseg := rseg_any g { s1 with owes := false } 2 0 ((inl : Int)) [] _ HS3.out.r (fun x h => by cases h) (by simp)
                rw [es] at hseg
                have HSG := Lib.hid hseg
                clear hseg hot
                go_wp2_with (first
                  | (go_at_call 61; refine HSG.out.mono ?_; rintro e w5 ⟨rfl, hb5⟩; have hs5 := HS3.out.below hb5; have HS5 := Lib.hid hs5; have hro := OwnS.alloc hs5.o (.cells #[.string (strOfNums (segL ⟨2, s1.id, 0, (inl : Int), []⟩))] 9); have HRO := Lib.hid hro; have hz5 : W.heap.size ≤ w5.heap.size := hs5.chg.size; clear hs5 hro hb5)
                  | (at_builtin; refine wpList_append_S rfl (.tmp 93) (.tmp 97) 57 57 rfl i0 _ 16 (.slice 9) Try.underlying57 Try.underlying57 (fun _ h => by cases h) hi hz0 hz1 hz2 rfl rfl rfl HRO.out (Src.one_new rfl) (by unfold maxLen; simp) (by simp) (by simp; omega) ?_; intro A9 c9 w9 ho9 hg9 hw9; have hs9 := Lib.hid (HS5.out.more hg9 ho9)))
                go_meet
                rw [HE.out, HA.out]
                exact hs9.out
              · rw [hot] at HA c12
                have HA : Hid (ackSeg s1 = segL ⟨2, s1.id, 0, (inl : Int) + 1, []⟩) := by have h9 := HA.out; simp only [if_true] at h9; exact h9
                have hseg := rseg_any g { s1 with owes := false } 2 0 ((inl : Int) + 1) [] _ HS3.out.r (fun x h => by cases h) (by simp)
                rw [es] at hseg
                have HSG := Lib.hid hseg
                clear hseg hot
                go_wp2_with (first
                  | (go_at_call 61; refine HSG.out.mono ?_; rintro e w5 ⟨rfl, hb5⟩; have hs5 := HS3.out.below hb5; have HS5 := Lib.hid hs5; have hro := OwnS.alloc hs5.o (.cells #[.string (strOfNums (segL ⟨2, s1.id, 0, (inl : Int) + 1, []⟩))] 9); have HRO := Lib.hid hro; have hz5 : W.heap.size ≤ w5.heap.size := hs5.chg.size; clear hs5 hro hb5)
                  | (at_builtin; refine wpList_append_S rfl (.tmp 93) (.tmp 97) 57 57 rfl i0 _ 16 (.slice 9) Try.underlying57 Try.underlying57 (fun _ h => by cases h) hi hz0 hz1 hz2 rfl rfl rfl HRO.out (Src.one_new rfl) (by unfold maxLen; simp) (by simp) (by simp; omega) ?_; intro A9 c9 w9 ho9 hg9 hw9; have hs9 := Lib.hid (HS5.out.more hg9 ho9)))
                go_meet
                rw [HE.out, HA.out]
                exact hs9.out
          case rest =>
            have hst := hcut
            have hS2 := sends2_ok s1 hS1
            have hF2 := sends2_fin s1 hF1
            generalize hs2 : sends2 s1 = r2 at *
            obtain ⟨o2, s2⟩ := r2
            simp only at hst hS2 hF2
            have HS2 := Lib.hid hs2
            clear hs2 hcut HS1 c13 hcs hca hw2
            generalize wc = w2 at *
            have hol : o2.length ≤ 1 := by
              have := HS2.out
              unfold sends2 at this
              split at this <;> (injection this with this _; subst this; simp)
            obtain ⟨A5, c5, rfl⟩ := hst.o.shape
            have hse : s2 = { s2 with next := ((s2.next.toNat : Nat) : Int) } := by
              obtain ⟨id, st, dialed, out, una, next, at_, closed, endSent, endAcked, inn, read, other, owes⟩ := s2
              have h1 := hS2.una
              simp only at h1 ⊢
              rw [Int.toNat_of_nonneg (by omega)]
            rw [hse] at hst
            have HSE := Lib.hid hse
            have HST := Lib.hid hst
            have hu2 := hS2.una
            have hn2 := hS2.next
            have hl2 := hS2.outl
            obtain ⟨on, hon⟩ : ∃ n, s2.out.length = n := ⟨_, rfl⟩
            have szo := strOfNums_size' s2.out
            rw [hon] at szo hn2 hl2
            have HON := Lib.hid hon
            clear hse hst hon
            have hl1 : ((o2.length : Nat) : Int) ≤ 1 := by omega
            go_wp2
            go_loopw [5] (fun v5 wr => ∃ (p f : Nat) (D : List (List Int)), p ≤ on ∧ on - p ≤ f ∧ Hid (dataL s2 s2.out.length s2.next.toNat = (D ++ (dataL s2 f p).1, (dataL s2 f p).2)) ∧ D.length ≤ p ∧ OutSt W wr g { s2 with next := (p : Int) } v5 (o2 ++ D)) (fun _ wr => on - nextR g wr)
            case atStart => exact ⟨s2.next.toNat, s2.out.length, [], by omega, by rw [HON.out]; omega, rfl, Nat.zero_le _, by rw [List.append_nil]; exact HST.out⟩
            case round =>
              clear HST
              obtain ⟨p, f, D, hp, hfp, HDL, hDp, hst⟩ := hrel
              have HST := Lib.hid hst
              have hM0 : nextR g wr = p := by unfold nextR; rw [hst.r.c5]; rfl
              have HM0 := Lib.hid hM0
              have c2 := hst.r.c2
              have c4 := hst.r.c4
              have c5 := hst.r.c5
              simp only at c2 c4 c5
              obtain ⟨A5, c5', rfl⟩ := hst.o.shape
              obtain ⟨ln, hln⟩ : ∃ n, (o2 ++ D).length = n := ⟨_, rfl⟩
              rw [hln] at HST ⊢
              have HLN := Lib.hid hln
              clear hst hM0 hln
              have w1' : IntKind.i64.wrap (s2.una + 4000) = s2.una + 4000 := IntWalk.i64_in _ (by omega)
              go_upto_region 20 with (fail)
              go_cut [122] (fun v wx => v = .bool (decide (p < on ∧ (p : Int) < s2.una + 4000)) ∧ ∃ m, wx = wr.drewN m)
              case first => as_aux_lemma =>
                by_cases hl1 : p < on
                · have d1 : decide ((p : Int) < (on : Int)) = true := decide_eq_true (by omega)
                  have d1' : decide (p < on) = true := decide_eq_true hl1
                  by_cases hl2 : (p : Int) < s2.una + 4000
                  · have d2 : decide ((p : Int) < s2.una + 4000) = true := decide_eq_true hl2
                    have hd : decide (p < on ∧ (p : Int) < s2.una + 4000) = true := decide_eq_true ⟨hl1, hl2⟩
                    have HD := Lib.hid hd
                    clear hl1 hl2 hd
                    go_wp2
                    go_quiet (fail)
                    go_wp2
                    go_meet
                    exact ⟨by rw [HD.out], _, rfl⟩
                  · have d2 : decide ((p : Int) < s2.una + 4000) = false := decide_eq_false hl2
                    have hd : decide (p < on ∧ (p : Int) < s2.una + 4000) = false := decide_eq_false (fun h => hl2 h.2)
                    have HD := Lib.hid hd
                    clear hl1 hl2 hd
                    go_wp2
                    go_quiet (fail)
                    go_wp2
                    go_meet
                    exact ⟨by rw [HD.out], _, rfl⟩
                · have d1 : decide ((p : Int) < (on : Int)) = false := decide_eq_false (by omega)
                  have d1' : decide (p < on) = false := decide_eq_false hl1
                  have hd : decide (p < on ∧ (p : Int) < s2.una + 4000) = false := decide_eq_false (fun h => hl1 h.1)
                  have HD := Lib.hid hd
                  clear hl1 hd
                  go_wp2
                  go_quiet (fail)
                  go_wp2
                  go_meet
                  exact ⟨by rw [HD.out], _, rfl⟩
              case rest =>
                obtain ⟨rfl, nq, rfl⟩ := hcut
                by_cases hlt : p < on ∧ (p : Int) < s2.una + 4000
                · rw [decide_eq_true hlt]
                  obtain ⟨hl1', hl2'⟩ := hlt
                  obtain ⟨n, hn⟩ : ∃ n, pieceN s2 p = n := ⟨_, rfl⟩
                  obtain ⟨m, hm⟩ : ∃ m, m = on - p := ⟨_, rfl⟩
                  obtain ⟨pn, hpn⟩ : ∃ k, k = p + n := ⟨_, rfl⟩
                  have hnm : n = min 400 m := by rw [← hn, hm]; unfold pieceN; rw [HON.out]
                  have hn1 : 1 ≤ n ∧ n ≤ 400 ∧ n ≤ on - p := by omega
                  obtain ⟨hn1, hn4, hn5⟩ := hn1
                  have em : (on : Int) - (p : Int) = (m : Int) := by omega
                  have en : (if (m : Int) < 400 then (m : Int) else 400) = (n : Int) := by split <;> omega
                  have epn : (p : Int) + (n : Int) = (pn : Int) := by omega
                  obtain ⟨pc, hpc⟩ : ∃ l, (s2.out.drop p).take n = l := ⟨_, rfl⟩
                  have hex : (strOfNums s2.out).extract p pn = strOfNums pc := by rw [strN_extract, ← hpc, hpn, List.drop_take, Nat.add_sub_cancel_left]
                  have hds : dataSeg s2 p = segL ⟨3, s2.id, p, 0, pc⟩ := by unfold dataSeg; rw [hn, hpc]
                  have HS1 := Lib.hid (HST.out.drewN nq)
                  have hpb : Bytes pc := fun x hx => by rw [← hpc] at hx; exact hS2.outb x (List.mem_of_mem_drop (List.mem_of_mem_take hx))
                  have hpl : pc.length ≤ 1048576 := by rw [← hpc, List.length_take]; omega
                  have hseg := rseg_any g { s2 with next := (p : Int) } 3 p 0 pc (wr.drewN nq).drew HS1.out.drew.r hpb hpl
                  simp only at hseg
                  rw [← hds] at hseg
                  have HPB := Lib.hid hpb
                  have HPL := Lib.hid hpl
                  have HDS := Lib.hid hds
                  have CO : Hid ((wr.drewN nq).drew.cell? ⟨g, 2, none⟩ = some (.string (strOfNums s2.out))) := c2
                  have CP : Hid ((wr.drewN nq).drew.cell? ⟨g, 5, none⟩ = some (.int .i64 p)) := c5
                  have HN := Lib.hid hn
                  have HPN := Lib.hid hpn
                  have hdl : ln ≤ 1048577 := by rw [← HLN.out, List.length_append]; omega
                  have hmx1 : ln + 1 ≤ maxLen := by unfold maxLen; omega
                  have hmx2 : (ln + 1) * 16 ≤ 140737488355328 := by omega
                  have y0 : (0 : Int) ≤ (p : Int) := by omega
                  have y1 : (p : Int) ≤ (pn : Int) := by omega
                  have y2 : (pn : Int) ≤ (on : Int) := by omega
                  have hpo : pn ≤ on := by omega
                  clear hn hm hpc hds hseg HST c2 c4 c5 hnm hpb hpl hpn
                  generalize wr.drewN nq = wq at *
                  go_upto_region 21 with (fail)
                  refine wp_region_ph (by kernel_rfl) [] [.span 0 0, .span 0 0, .span 0 0, .span 0 0, .span 0 0, .span 0 0, .span 0 0, .span 0 0, .span 0 0, .span 0 0, .span 0 0, .span 0 0] [fun z9 => z9 = .pointer (some ⟨g, 0, none⟩), fun z9 => z9 = .pointer (some ⟨g, 0, none⟩), fun z9 => z9 = .pointer (some ⟨g, 2, none⟩), fun z9 => z9 = .string (strOfNums s2.out), fun z9 => z9 = .int .i64 (on), fun z9 => z9 = .pointer (some ⟨g, 0, none⟩), fun z9 => z9 = .pointer (some ⟨g, 0, none⟩), fun z9 => z9 = .pointer (some ⟨g, 5, none⟩), fun z9 => z9 = .int .i64 (p), fun z9 => z9 = .int .i64 (m), fun z9 => z9 = .int .i64 (n), fun z9 => z9 = .int .i64 (n)] (IRd wq.drew) (by kernel_rfl) (by kernel_rfl) (by kernel_rfl) (by kernel_rfl) (by kernel_rfl) (by kernel_rfl) rfl rfl (rfl) ?steps ?done
                  case steps =>
                    refine ⟨?_, ?_, ?_, ?_, ?_, ?_, ?_, ?_, ?_, ?_, ?_, ?_, trivial⟩
                    · intro us au w1 k0 hlo hhi ha hd hst hI
                      obtain rfl : k0 = 0 := by omega
                      have q0 := slot_far (t := 0) (v := .pointer (some ⟨g, 0, none⟩)) ha (by kernel_rfl) (by kernel_rfl)
                      have p0 := slot_norm q0
                      clear ha hd hst
                      exact StepI.pure (v := .pointer (some ⟨g, 0, none⟩)) rfl rfl (by go_simp) ⟨rfl, hI⟩
                    · intro us au w1 k1 hlo hhi ha hd hst hI
                      obtain rfl : k1 = 0 := by omega
                      have e0 := hd 0 _ (by kernel_rfl) rfl
                      have q123 := slot_at (t := 123) 0 ha (by kernel_rfl) (by kernel_rfl) (by kernel_rfl) e0
                      have p123 := slot_norm q123
                      clear ha hd hst
                      exact StepI.pure (v := .pointer (some ⟨g, 0, none⟩)) rfl rfl (by go_simp) ⟨rfl, hI⟩
                    · intro us au w1 k2 hlo hhi ha hd hst hI
                      obtain rfl : k2 = 0 := by omega
                      have e1 := hd 1 _ (by kernel_rfl) rfl
                      have q124 := slot_at (t := 124) 1 ha (by kernel_rfl) (by kernel_rfl) (by kernel_rfl) e1
                      have p124 := slot_norm q124
                      clear ha hd hst
                      exact StepI.pure (v := .pointer (some ⟨g, 2, none⟩)) rfl rfl (by go_simp) ⟨rfl, hI⟩
                    · intro us au w1 k3 hlo hhi ha hd hst hI
                      obtain rfl : k3 = 0 := by omega
                      have e2 := hd 2 _ (by kernel_rfl) rfl
                      have q125 := slot_at (t := 125) 2 ha (by kernel_rfl) (by kernel_rfl) (by kernel_rfl) e2
                      have p125 := slot_norm q125
                      clear ha hd hst
                      have c1 := (congrArg (fun w => World.cell? w ⟨g, 2, none⟩) (show w1 = _ from hI)).trans CO.out
                      exact StepI.pure (v := .string (strOfNums s2.out)) rfl rfl (by go_simp) ⟨rfl, hI⟩
                    · intro us au w1 k4 hlo hhi ha hd hst hI
                      obtain rfl : k4 = 0 := by omega
                      have e3 := hd 3 _ (by kernel_rfl) rfl
                      have q126 := slot_at (t := 126) 3 ha (by kernel_rfl) (by kernel_rfl) (by kernel_rfl) e3
                      have p126 := slot_norm q126
                      clear ha hd hst
                      exact StepI.pure (v := .int .i64 (on)) rfl rfl (by go_simp) ⟨rfl, hI⟩
                    · intro us au w1 k5 hlo hhi ha hd hst hI
                      obtain rfl : k5 = 0 := by omega
                      have q0 := slot_far (t := 0) (v := .pointer (some ⟨g, 0, none⟩)) ha (by kernel_rfl) (by kernel_rfl)
                      have p0 := slot_norm q0
                      clear ha hd hst
                      exact StepI.pure (v := .pointer (some ⟨g, 0, none⟩)) rfl rfl (by go_simp) ⟨rfl, hI⟩
                    · intro us au w1 k6 hlo hhi ha hd hst hI
                      obtain rfl : k6 = 0 := by omega
                      have e5 := hd 5 _ (by kernel_rfl) rfl
                      have q128 := slot_at (t := 128) 5 ha (by kernel_rfl) (by kernel_rfl) (by kernel_rfl) e5
                      have p128 := slot_norm q128
                      clear ha hd hst
                      exact StepI.pure (v := .pointer (some ⟨g, 0, none⟩)) rfl rfl (by go_simp) ⟨rfl, hI⟩
                    · intro us au w1 k7 hlo hhi ha hd hst hI
                      obtain rfl : k7 = 0 := by omega
                      have e6 := hd 6 _ (by kernel_rfl) rfl
                      have q129 := slot_at (t := 129) 6 ha (by kernel_rfl) (by kernel_rfl) (by kernel_rfl) e6
                      have p129 := slot_norm q129
                      clear ha hd hst
                      exact StepI.pure (v := .pointer (some ⟨g, 5, none⟩)) rfl rfl (by go_simp) ⟨rfl, hI⟩
                    · intro us au w1 k8 hlo hhi ha hd hst hI
                      obtain rfl : k8 = 0 := by omega
                      have e7 := hd 7 _ (by kernel_rfl) rfl
                      have q130 := slot_at (t := 130) 7 ha (by kernel_rfl) (by kernel_rfl) (by kernel_rfl) e7
                      have p130 := slot_norm q130
                      clear ha hd hst
                      have c1 := (congrArg (fun w => World.cell? w ⟨g, 5, none⟩) (show w1 = _ from hI)).trans CP.out
                      exact StepI.pure (v := .int .i64 (p)) rfl rfl (by go_simp) ⟨rfl, hI⟩
                    · intro us au w1 k9 hlo hhi ha hd hst hI
                      obtain rfl : k9 = 0 := by omega
                      have e4 := hd 4 _ (by kernel_rfl) rfl
                      have e8 := hd 8 _ (by kernel_rfl) rfl
                      have q127 := slot_at (t := 127) 4 ha (by kernel_rfl) (by kernel_rfl) (by kernel_rfl) e4
                      have p127 := slot_norm q127
                      have q131 := slot_at (t := 131) 8 ha (by kernel_rfl) (by kernel_rfl) (by kernel_rfl) e8
                      have p131 := slot_norm q131
                      clear ha hd hst
                      exact StepI.pure (v := .int .i64 (m)) rfl rfl (by go_simp; exact IntWalk.i64_in _ (by omega)) ⟨rfl, hI⟩
                    · intro us au w1 k10 hlo hhi ha hd hst hI
                      obtain rfl : k10 = 0 := by omega
                      have e9 := hd 9 _ (by kernel_rfl) rfl
                      have q132 := slot_at (t := 132) 9 ha (by kernel_rfl) (by kernel_rfl) (by kernel_rfl) e9
                      have p132 := slot_norm q132
                      clear ha hd hst
                      exact StepI.pure (v := .int .i64 (n)) rfl rfl (by go_simp) ⟨rfl, hI⟩
                    · intro us au w1 k11 hlo hhi ha hd hst hI
                      obtain rfl : k11 = 0 := by omega
                      have e10 := hd 10 _ (by kernel_rfl) rfl
                      have q133 := slot_at (t := 133) 10 ha (by kernel_rfl) (by kernel_rfl) (by kernel_rfl) e10
                      have p133 := slot_norm q133
                      clear ha hd hst
                      exact StepI.pure (v := .int .i64 (n)) rfl rfl (by go_simp) ⟨rfl, hI⟩
                  case done =>
                    intro us w1 hI hd
                    have e11 := hd 11 _ (by decide) rfl
                    have hw1 : w1 = wq.drew := hI
                    subst hw1
                    clear hI hd CO CP
                    simp only [putAll]
                    go_simp
                    have HS2d := Lib.hid HS1.out.drew
                    have hseg2 : ∀ v : Value, Calls Try.prog 61 #[.pointer (some ⟨g, 0, none⟩), .int .i64 3, .int .i64 p, .int .i64 0, .string (strOfNums pc)] wq.drew.drew (fun e w' => e = .returned (.string (strOfNums (dataSeg s2 p))) ∧ Below wq.drew.drew.heap.size wq.drew.drew w') := fun _ => by
                      have hr := rseg_any g { s2 with next := (p : Int) } 3 p 0 pc wq.drew.drew HS1.out.drew.drew.r HPB.out HPL.out
                      simp only at hr
                      rw [← HDS.out] at hr
                      exact hr
                    have HSEG := Lib.hid (hseg2 undef)
                    have CO : Hid (wq.drew.drew.cell? ⟨g, 2, none⟩ = some (.string (strOfNums s2.out))) := HS1.out.r.c2
                    have CP : Hid (wq.drew.drew.cell? ⟨g, 5, none⟩ = some (.int .i64 p)) := HS1.out.r.c5
                    clear HS1 hseg2 en em
                    generalize wq.drew = wq at *
                    have HS1 := Lib.hid HS2d.out
                    clear HS2d
                    go_upto_region 22 with (fail)
                    refine wp_region_ph (by kernel_rfl) [21, 22, 23, 24] [.span 0 2, .span 0 0, .span 0 0, .span 0 0, .span 0 0, .span 0 0, .span 0 0, .span 0 0, .span 0 0, .span 0 0, .span 0 0, .span 0 0, .span 0 0, .span 0 0, .span 0 0, .span 0 0, .span 0 0, .span 0 0, .span 0 0, .span 0 0, .span 0 0, .phase 0, .phase 1, .phase 2, .phase 3] [fun z9 => z9 = .slice A5 ln c5', fun z9 => z9 = .pointer (some ⟨g, 0, none⟩), fun z9 => z9 = .pointer (some ⟨g, 0, none⟩), fun z9 => z9 = .pointer (some ⟨g, 0, none⟩), fun z9 => z9 = .pointer (some ⟨g, 5, none⟩), fun z9 => z9 = .int .i64 (p), fun z9 => z9 = .pointer (some ⟨g, 0, none⟩), fun z9 => z9 = .pointer (some ⟨g, 0, none⟩), fun z9 => z9 = .pointer (some ⟨g, 2, none⟩), fun z9 => z9 = .string (strOfNums s2.out), fun z9 => z9 = .pointer (some ⟨g, 0, none⟩), fun z9 => z9 = .pointer (some ⟨g, 0, none⟩), fun z9 => z9 = .pointer (some ⟨g, 5, none⟩), fun z9 => z9 = .int .i64 (p), fun z9 => z9 = .pointer (some ⟨g, 0, none⟩), fun z9 => z9 = .pointer (some ⟨g, 0, none⟩), fun z9 => z9 = .pointer (some ⟨g, 5, none⟩), fun z9 => z9 = .int .i64 (p), fun z9 => z9 = .int .i64 (n), fun z9 => z9 = .int .i64 (pn), fun z9 => z9 = .string (strOfNums pc), fun z9 => z9 = .string (strOfNums (dataSeg s2 p)), fun u => ∃ bb, u = .slice (some ⟨bb, 0, none⟩) 1 1, fun _ => True, fun _ => True] (ISay W wq.drew g { s2 with next := (p : Int) } (o2 ++ D) (dataSeg s2 p)) (by kernel_rfl) (by kernel_rfl) (by kernel_rfl) (by kernel_rfl) (by kernel_rfl) (by kernel_rfl) rfl rfl (rfl) ?steps ?done
                    case steps =>
                      refine ⟨?_, ?_, ?_, ?_, ?_, ?_, ?_, ?_, ?_, ?_, ?_, ?_, ?_, ?_, ?_, ?_, ?_, ?_, ?_, ?_, ?_, ?_, ?_, ?_, ?_, trivial⟩
                      · intro us au w1 k0 hlo hhi ha hd hst hI
                        have q5 := slot_start (t := 5) (v := .slice A5 ln c5') 24 ha (hst 24 (by decide) (by kernel_rfl)) (by kernel_rfl) (by kernel_rfl) (by kernel_rfl) (by kernel_rfl)
                        have p5 := slot_norm q5
                        clear ha hd hst
                        exact StepI.pure (v := .slice A5 ln c5') rfl rfl (by go_simp) ⟨rfl, hI⟩
                      · intro us au w1 k1 hlo hhi ha hd hst hI
                        obtain rfl : k1 = 0 := by omega
                        have q0 := slot_far (t := 0) (v := .pointer (some ⟨g, 0, none⟩)) ha (by kernel_rfl) (by kernel_rfl)
                        have p0 := slot_norm q0
                        clear ha hd hst
                        exact StepI.pure (v := .pointer (some ⟨g, 0, none⟩)) rfl rfl (by go_simp) ⟨rfl, hI⟩
                      · intro us au w1 k2 hlo hhi ha hd hst hI
                        obtain rfl : k2 = 0 := by omega
                        have q0 := slot_far (t := 0) (v := .pointer (some ⟨g, 0, none⟩)) ha (by kernel_rfl) (by kernel_rfl)
                        have p0 := slot_norm q0
                        clear ha hd hst
                        exact StepI.pure (v := .pointer (some ⟨g, 0, none⟩)) rfl rfl (by go_simp) ⟨rfl, hI⟩
                      · intro us au w1 k3 hlo hhi ha hd hst hI
                        obtain rfl : k3 = 0 := by omega
                        have e2 := hd 2 _ (by kernel_rfl) rfl
                        have q136 := slot_at (t := 136) 2 ha (by kernel_rfl) (by kernel_rfl) (by kernel_rfl) e2
                        have p136 := slot_norm q136
                        clear ha hd hst
                        exact StepI.pure (v := .pointer (some ⟨g, 0, none⟩)) rfl rfl (by go_simp) ⟨rfl, hI⟩
                      · intro us au w1 k4 hlo hhi ha hd hst hI
                        obtain rfl : k4 = 0 := by omega
                        have e3 := hd 3 _ (by kernel_rfl) rfl
                        have q137 := slot_at (t := 137) 3 ha (by kernel_rfl) (by kernel_rfl) (by kernel_rfl) e3
                        have p137 := slot_norm q137
                        clear ha hd hst
                        exact StepI.pure (v := .pointer (some ⟨g, 5, none⟩)) rfl rfl (by go_simp) ⟨rfl, hI⟩
                      · intro us au w1 k5 hlo hhi ha hd hst hI
                        obtain rfl : k5 = 0 := by omega
                        have e4 := hd 4 _ (by kernel_rfl) rfl
                        have q138 := slot_at (t := 138) 4 ha (by kernel_rfl) (by kernel_rfl) (by kernel_rfl) e4
                        have p138 := slot_norm q138
                        clear ha hd hst
                        have c1 := (congrArg (fun w => World.cell? w ⟨g, 5, none⟩) (show w1 = _ from hI)).trans CP.out
                        exact StepI.pure (v := .int .i64 (p)) rfl rfl (by go_simp) ⟨rfl, hI⟩
                      · intro us au w1 k6 hlo hhi ha hd hst hI
                        obtain rfl : k6 = 0 := by omega
                        have q0 := slot_far (t := 0) (v := .pointer (some ⟨g, 0, none⟩)) ha (by kernel_rfl) (by kernel_rfl)
                        have p0 := slot_norm q0
                        clear ha hd hst
                        exact StepI.pure (v := .pointer (some ⟨g, 0, none⟩)) rfl rfl (by go_simp) ⟨rfl, hI⟩
                      · intro us au w1 k7 hlo hhi ha hd hst hI
                        obtain rfl : k7 = 0 := by omega
                        have e6 := hd 6 _ (by kernel_rfl) rfl
                        have q140 := slot_at (t := 140) 6 ha (by kernel_rfl) (by kernel_rfl) (by kernel_rfl) e6
                        have p140 := slot_norm q140
                        clear ha hd hst
                        exact StepI.pure (v := .pointer (some ⟨g, 0, none⟩)) rfl rfl (by go_simp) ⟨rfl, hI⟩
                      · intro us au w1 k8 hlo hhi ha hd hst hI
                        obtain rfl : k8 = 0 := by omega
                        have e7 := hd 7 _ (by kernel_rfl) rfl
                        have q141 := slot_at (t := 141) 7 ha (by kernel_rfl) (by kernel_rfl) (by kernel_rfl) e7
                        have p141 := slot_norm q141
                        clear ha hd hst
                        exact StepI.pure (v := .pointer (some ⟨g, 2, none⟩)) rfl rfl (by go_simp) ⟨rfl, hI⟩
                      · intro us au w1 k9 hlo hhi ha hd hst hI
                        obtain rfl : k9 = 0 := by omega
                        have e8 := hd 8 _ (by kernel_rfl) rfl
                        have q142 := slot_at (t := 142) 8 ha (by kernel_rfl) (by kernel_rfl) (by kernel_rfl) e8
                        have p142 := slot_norm q142
                        clear ha hd hst
                        have c1 := (congrArg (fun w => World.cell? w ⟨g, 2, none⟩) (show w1 = _ from hI)).trans CO.out
                        exact StepI.pure (v := .string (strOfNums s2.out)) rfl rfl (by go_simp) ⟨rfl, hI⟩
                      · intro us au w1 k10 hlo hhi ha hd hst hI
                        obtain rfl : k10 = 0 := by omega
                        have q0 := slot_far (t := 0) (v := .pointer (some ⟨g, 0, none⟩)) ha (by kernel_rfl) (by kernel_rfl)
                        have p0 := slot_norm q0
                        clear ha hd hst
                        exact StepI.pure (v := .pointer (some ⟨g, 0, none⟩)) rfl rfl (by go_simp) ⟨rfl, hI⟩
                      · intro us au w1 k11 hlo hhi ha hd hst hI
                        obtain rfl : k11 = 0 := by omega
                        have e10 := hd 10 _ (by kernel_rfl) rfl
                        have q144 := slot_at (t := 144) 10 ha (by kernel_rfl) (by kernel_rfl) (by kernel_rfl) e10
                        have p144 := slot_norm q144
                        clear ha hd hst
                        exact StepI.pure (v := .pointer (some ⟨g, 0, none⟩)) rfl rfl (by go_simp) ⟨rfl, hI⟩
                      · intro us au w1 k12 hlo hhi ha hd hst hI
                        obtain rfl : k12 = 0 := by omega
                        have e11 := hd 11 _ (by kernel_rfl) rfl
                        have q145 := slot_at (t := 145) 11 ha (by kernel_rfl) (by kernel_rfl) (by kernel_rfl) e11
                        have p145 := slot_norm q145
                        clear ha hd hst
                        exact StepI.pure (v := .pointer (some ⟨g, 5, none⟩)) rfl rfl (by go_simp) ⟨rfl, hI⟩
                      · intro us au w1 k13 hlo hhi ha hd hst hI
                        obtain rfl : k13 = 0 := by omega
                        have e12 := hd 12 _ (by kernel_rfl) rfl
                        have q146 := slot_at (t := 146) 12 ha (by kernel_rfl) (by kernel_rfl) (by kernel_rfl) e12
                        have p146 := slot_norm q146
                        clear ha hd hst
                        have c1 := (congrArg (fun w => World.cell? w ⟨g, 5, none⟩) (show w1 = _ from hI)).trans CP.out
                        exact StepI.pure (v := .int .i64 (p)) rfl rfl (by go_simp) ⟨rfl, hI⟩
                      · intro us au w1 k14 hlo hhi ha hd hst hI
                        obtain rfl : k14 = 0 := by omega
                        have q0 := slot_far (t := 0) (v := .pointer (some ⟨g, 0, none⟩)) ha (by kernel_rfl) (by kernel_rfl)
                        have p0 := slot_norm q0
                        clear ha hd hst
                        exact StepI.pure (v := .pointer (some ⟨g, 0, none⟩)) rfl rfl (by go_simp) ⟨rfl, hI⟩
                      · intro us au w1 k15 hlo hhi ha hd hst hI
                        obtain rfl : k15 = 0 := by omega
                        have e14 := hd 14 _ (by kernel_rfl) rfl
                        have q148 := slot_at (t := 148) 14 ha (by kernel_rfl) (by kernel_rfl) (by kernel_rfl) e14
                        have p148 := slot_norm q148
                        clear ha hd hst
                        exact StepI.pure (v := .pointer (some ⟨g, 0, none⟩)) rfl rfl (by go_simp) ⟨rfl, hI⟩
                      · intro us au w1 k16 hlo hhi ha hd hst hI
                        obtain rfl : k16 = 0 := by omega
                        have e15 := hd 15 _ (by kernel_rfl) rfl
                        have q149 := slot_at (t := 149) 15 ha (by kernel_rfl) (by kernel_rfl) (by kernel_rfl) e15
                        have p149 := slot_norm q149
                        clear ha hd hst
                        exact StepI.pure (v := .pointer (some ⟨g, 5, none⟩)) rfl rfl (by go_simp) ⟨rfl, hI⟩
                      · intro us au w1 k17 hlo hhi ha hd hst hI
                        obtain rfl : k17 = 0 := by omega
                        have e16 := hd 16 _ (by kernel_rfl) rfl
                        have q150 := slot_at (t := 150) 16 ha (by kernel_rfl) (by kernel_rfl) (by kernel_rfl) e16
                        have p150 := slot_norm q150
                        clear ha hd hst
                        have c1 := (congrArg (fun w => World.cell? w ⟨g, 5, none⟩) (show w1 = _ from hI)).trans CP.out
                        exact StepI.pure (v := .int .i64 (p)) rfl rfl (by go_simp) ⟨rfl, hI⟩
                      · intro us au w1 k18 hlo hhi ha hd hst hI
                        obtain rfl : k18 = 0 := by omega
                        have q9 := slot_far (t := 9) (v := .int .i64 (n)) ha (by kernel_rfl) (by kernel_rfl)
                        have p9 := slot_norm q9
                        clear ha hd hst
                        exact StepI.pure (v := .int .i64 (n)) rfl rfl (by go_simp) ⟨rfl, hI⟩
                      · intro us au w1 k19 hlo hhi ha hd hst hI
                        obtain rfl : k19 = 0 := by omega
                        have e17 := hd 17 _ (by kernel_rfl) rfl
                        have e18 := hd 18 _ (by kernel_rfl) rfl
                        have q151 := slot_at (t := 151) 17 ha (by kernel_rfl) (by kernel_rfl) (by kernel_rfl) e17
                        have p151 := slot_norm q151
                        have q152 := slot_at (t := 152) 18 ha (by kernel_rfl) (by kernel_rfl) (by kernel_rfl) e18
                        have p152 := slot_norm q152
                        clear ha hd hst
                        exact StepI.pure (v := .int .i64 (pn)) rfl rfl (by go_simp; exact IntWalk.i64_in _ (by omega)) ⟨rfl, hI⟩
                      · intro us au w1 k20 hlo hhi ha hd hst hI
                        obtain rfl : k20 = 0 := by omega
                        have e9 := hd 9 _ (by kernel_rfl) rfl
                        have e13 := hd 13 _ (by kernel_rfl) rfl
                        have e19 := hd 19 _ (by kernel_rfl) rfl
                        have q143 := slot_at (t := 143) 9 ha (by kernel_rfl) (by kernel_rfl) (by kernel_rfl) e9
                        have p143 := slot_norm q143
                        have q147 := slot_at (t := 147) 13 ha (by kernel_rfl) (by kernel_rfl) (by kernel_rfl) e13
                        have p147 := slot_norm q147
                        have q153 := slot_at (t := 153) 19 ha (by kernel_rfl) (by kernel_rfl) (by kernel_rfl) e19
                        have p153 := slot_norm q153
                        clear ha hd hst
                        exact StepI.pure (v := .string (strOfNums pc)) rfl rfl (by go_simp) ⟨rfl, hI⟩
                      · intro us au w1 ha hd hst hI
                        have e1 := hd 1 _ (by kernel_rfl) rfl
                        have e5 := hd 5 _ (by kernel_rfl) rfl
                        have e20 := hd 20 _ (by kernel_rfl) rfl
                        have q135 := slot_at (t := 135) 1 ha (by kernel_rfl) (by kernel_rfl) (by kernel_rfl) e1
                        have p135 := slot_norm q135
                        have q139 := slot_at (t := 139) 5 ha (by kernel_rfl) (by kernel_rfl) (by kernel_rfl) e5
                        have p139 := slot_norm q139
                        have q154 := slot_at (t := 154) 20 ha (by kernel_rfl) (by kernel_rfl) (by kernel_rfl) e20
                        have p154 := slot_norm q154
                        clear ha hd hst
                        have hw1 : w1 = wq.drew := hI
                        subst hw1
                        refine StepI.call (f := 61) (args := #[.pointer (some ⟨g, 0, none⟩), .int .i64 3, .int .i64 p, .int .i64 0, .string (strOfNums pc)]) rfl rfl (by go_simp) ?_
                        refine HSEG.out.mono ?_
                        rintro e w' ⟨rfl, hb'⟩
                        exact ⟨_, rfl, rfl, hb'⟩
                      · intro us au w1 ha hd hst hI
                        have e21 := hd 21 _ (by kernel_rfl) rfl
                        have q155 := slot_at (t := 155) 21 ha (by kernel_rfl) (by kernel_rfl) (by kernel_rfl) e21
                        have p155 := slot_norm q155
                        clear ha hd hst
                        have hb1 : Below wq.drew.heap.size wq.drew w1 := hI
                        exact StepI.runs (v := .slice (some ⟨w1.heap.size, 0, none⟩) 1 1) (w' := w1.alloc (.cells #[.string (strOfNums (dataSeg s2 p))] 9)) rfl rfl (by go_simp) ⟨⟨_, rfl⟩, w1, hb1, rfl, rfl⟩
                      · intro us au w1 ha hd hst hI
                        have e0 := hd 0 _ (by kernel_rfl) rfl
                        obtain ⟨b22, e22⟩ := hd 22 _ (by kernel_rfl) rfl
                        have q134 := slot_at (t := 134) 0 ha (by kernel_rfl) (by kernel_rfl) (by kernel_rfl) e0
                        have p134 := slot_norm q134
                        have q156 := slot_at (t := 156) 22 ha (by kernel_rfl) (by kernel_rfl) (by kernel_rfl) (Eq.refl (us 22))
                        have p156 := slot_norm q156
                        clear ha hd hst
                        obtain ⟨w5, hb5, hw5, hu⟩ := hI
                        rw [hu] at q156
                        subst hw5
                        have hs5 := HS1.out.drew.below hb5
                        have hro := OwnS.alloc hs5.o (.cells #[.string (strOfNums (dataSeg s2 p))] 9)
                        have hz5 : W.heap.size ≤ w5.heap.size := hs5.chg.size
                        rw [HLN.out] at hro
                        refine StepI.wp rfl rfl (fun K hK => ?_)
                        refine wp_append_S (.tmp 134) (.tmp 156) 57 57 rfl i0 _ 16 (.slice 9) Try.underlying57 Try.underlying57 (fun _ h => by cases h) hi hz0 hz1 hz2 rfl (v := .slice A5 ln c5') (x := .slice (some ⟨w5.heap.size, 0, none⟩) 1 1) q134 q156 hro (Src.one_new rfl) hmx1 hmx2 (by simp; omega) (fun A9 c9 w9 ho9 hg9 hw9 => hK _ _ ⟨trivial, hs5.more hg9 (by rw [HLN.out]; exact ho9)⟩)
                      · intro us au w1 ha hd hst hI
                        obtain ⟨_⟩ := hd 23 _ (by kernel_rfl) rfl
                        have q157 := slot_at (t := 157) 23 ha (by kernel_rfl) (by kernel_rfl) (by kernel_rfl) (Eq.refl (us 23))
                        have p157 := slot_norm q157
                        clear ha hd hst
                        exact StepI.pure (v := us 23) rfl rfl (by go_simp) ⟨trivial, rfl, hI⟩
                    case done =>
                      intro us w1 hI hd
                      obtain ⟨hx, hst9⟩ := hI
                      have HX := Lib.hid (show us 24 = us 23 from hx)
                      have HST9 := Lib.hid hst9
                      have c5 := hst9.r.c5
                      have f5 := hst9.r.fr 5
                      simp only at c5
                      clear hd hx hst9 CO CP HSEG HS1
                      simp only [putAll]
                      go_simp
                      have wpn : IntKind.i64.wrap (pn : Int) = (pn : Int) := IntWalk.i64_in _ (by omega)
                      go_wp2
                      obtain ⟨f', rfl⟩ : ∃ f', f = f' + 1 := ⟨f - 1, by omega⟩
                      have HDL' : Hid (dataL s2 s2.out.length s2.next.toNat = ((D ++ [dataSeg s2 p]) ++ (dataL s2 f' pn).1, (dataL s2 f' pn).2)) := by
                        show _ = _
                        have h1 := HDL.out
                        rw [dataL, if_pos ⟨by rw [HON.out]; exact hl1', hl2'⟩, HN.out, ← HPN.out] at h1
                        rw [h1]
                        simp
                      have hst10 : OutSt W (w1.setCell ⟨g, 5, none⟩ (.int .i64 (pn : Int))) g { s2 with next := (pn : Int) } (us 23) (o2 ++ D ++ [dataSeg s2 p]) := HST9.out.set 5 _ (enF_cases rfl rfl rfl rfl rfl rfl rfl rfl rfl rfl rfl rfl rfl rfl)
                      have hnx : nextR g (w1.setCell ⟨g, 5, none⟩ (.int .i64 (pn : Int))) = pn := by unfold nextR; rw [hst10.r.c5]; rfl
                      refine ⟨⟨pn, f', D ++ [dataSeg s2 p], hpo, by omega, HDL', by simp; omega, by rw [← List.append_assoc, HX.out]; exact hst10⟩, ?_⟩
                      rw [hnx, HM0.out]
                      omega
                · rw [decide_eq_false hlt]
                  have hend := dataL_end s2 f p (by rw [HON.out]; exact hlt)
                  have HDE : Hid (dataL s2 s2.out.length s2.next.toNat = (D, p)) := by show _ = _; rw [HDL.out, hend]; simp
                  have h3 : sends3 s2 = (D, { s2 with next := (p : Int) }) := by unfold sends3; rw [HDE.out]
                  have HS3 := Lib.hid (HST.out.drewN nq)
                  have H3 := Lib.hid h3
                  have hS3 := sends3_ok s2 hS2
                  rw [h3] at hS3
                  simp only at hS3
                  clear hlt hend HDL HDE HST h3 w1' c2 c4 c5 HM0
                  generalize wr.drewN nq = wq at *
                  have hfb : finB { s2 with next := (p : Int) } = (s2.closed && !s2.endSent && decide ((p : Int) = (s2.out.length : Int))) := rfl
                  rw [HON.out] at hfb
                  have h4 : sends4 { s2 with next := (p : Int) } = if finB { s2 with next := (p : Int) } then ([segL ⟨4, s2.id, p, 0, []⟩], { s2 with next := (p : Int), endSent := true }) else ([], { s2 with next := (p : Int) }) := rfl
                  have HFB := Lib.hid hfb
                  have H4 := Lib.hid h4
                  clear hfb h4
                  go_upto_region 24 with (fail)
                  go_cut [189] (fun v wx => v = .bool (finB { s2 with next := (p : Int) }) ∧ ∃ m, wx = wq.drewN m)
                  case first => as_aux_lemma =>
                    have c3 := HS3.out.r.c3
                    have c5 := HS3.out.r.c5
                    have c6 := HS3.out.r.c6
                    have c2 := HS3.out.r.c2
                    simp only at c2 c3 c5 c6
                    cases hcl : s2.closed
                    · rw [hcl] at c3
                      have HE : Hid (finB { s2 with next := (p : Int) } = false) := by show _ = _; rw [HFB.out, hcl]; rfl
                      clear hcl
                      go_wp2
                      go_quiet (fail)
                      go_wp2
                      go_meet
                      exact ⟨by rw [HE.out], _, rfl⟩
                    · rw [hcl] at c3
                      cases hes : s2.endSent
                      · rw [hes] at c6
                        by_cases hpo : (p : Int) = (on : Int)
                        · have d1 : ((p : Int) == (on : Int)) = true := by simpa using hpo
                          have HE : Hid (finB { s2 with next := (p : Int) } = true) := by show _ = _; rw [HFB.out, hcl, hes, decide_eq_true hpo]; rfl
                          have hpo' : p = on := by omega
                          have d2 : (p == on) = true := by simpa using hpo'
                          have HPO := Lib.hid hpo
                          clear hcl hes hpo hpo'
                          go_wp2
                          go_quiet (fail)
                          go_wp2
                          go_meet
                          exact ⟨by rw [HE.out], _, rfl⟩
                        · have d1 : ((p : Int) == (on : Int)) = false := by simpa using hpo
                          have HE : Hid (finB { s2 with next := (p : Int) } = false) := by show _ = _; rw [HFB.out, hcl, hes, decide_eq_false hpo]; rfl
                          have hpo' : ¬ p = on := by omega
                          have d2 : (p == on) = false := by simpa using hpo'
                          clear hcl hes hpo hpo'
                          go_wp2
                          go_quiet (fail)
                          go_wp2
                          go_meet
                          exact ⟨by rw [HE.out], _, rfl⟩
                      · rw [hes] at c6
                        have HE : Hid (finB { s2 with next := (p : Int) } = false) := by show _ = _; rw [HFB.out, hcl, hes]; rfl
                        clear hcl hes
                        go_wp2
                        go_quiet (fail)
                        go_wp2
                        go_meet
                        exact ⟨by rw [HE.out], _, rfl⟩
                  case rest =>
                    obtain ⟨rfl, nq4, rfl⟩ := hcut
                    have HS4 := Lib.hid (HS3.out.drewN nq4)
                    generalize wq.drewN nq4 = w4 at *
                    clear HS3 HFB
                    go_upto_if 189 with (fail)
                    go_cut [5] (fun v5 wx => OutSt W wx g (sends4 { s2 with next := (p : Int) }).2 v5 (o2 ++ D ++ (sends4 { s2 with next := (p : Int) }).1))
                    case first => as_aux_lemma =>
                      cases hfn : finB { s2 with next := (p : Int) }
                      · have HE : Hid (sends4 { s2 with next := (p : Int) } = ([], { s2 with next := (p : Int) })) := by show _ = _; rw [H4.out, hfn]; rfl
                        clear hfn
                        go_wp2
                        go_meet
                        rw [HE.out, List.append_nil]
                        exact HS4.out
                      · have HE : Hid (sends4 { s2 with next := (p : Int) } = ([segL ⟨4, s2.id, p, 0, []⟩], { s2 with next := (p : Int), endSent := true })) := by show _ = _; rw [H4.out, hfn]; rfl
                        clear hfn
                        have c5 := HS4.out.r.c5
                        simp only at c5
                        have es : strOfNums [] = ⟨#[]⟩ := rfl
                        have hseg := rseg_any g { s2 with next := (p : Int) } 4 (p : Int) 0 [] _ HS4.out.r (fun x h => by cases h) (by simp)
                        rw [es] at hseg
                        have HSG := Lib.hid hseg
                        have hdl : ln ≤ 1048577 := by rw [← HLN.out, List.length_append]; omega
                        have hmx1 : ln + 1 ≤ maxLen := by unfold maxLen; omega
                        have hmx2 : (ln + 1) * 16 ≤ 140737488355328 := by omega
                        clear hseg
                        go_upto_region 26 with (first
                          | (go_at_call 61; refine HSG.out.mono ?_; rintro e w5 ⟨rfl, hb5⟩; have hs5 := HS4.out.below hb5; have HS5 := Lib.hid hs5; have hro := OwnS.alloc hs5.o (.cells #[.string (strOfNums (segL ⟨4, s2.id, p, 0, []⟩))] 9); rw [HLN.out] at hro; have HRO := Lib.hid hro; have hz5 : W.heap.size ≤ w5.heap.size := hs5.chg.size; clear hs5 hro hb5)
                          | (at_builtin; refine wpList_append_S rfl (.tmp 190) (.tmp 197) 57 57 rfl i0 _ 16 (.slice 9) Try.underlying57 Try.underlying57 (fun _ h => by cases h) hi hz0 hz1 hz2 rfl rfl rfl HRO.out (Src.one_new rfl) hmx1 hmx2 (by simp; omega) ?_; intro A9 c9 w9 ho9 hg9 hw9; have hs9 := Lib.hid (HS5.out.more hg9 (by rw [HLN.out]; exact ho9))))
                        have f6 := hs9.out.r.fr 6
                        have c6 := hs9.out.r.c6
                        clear HS5 HRO ho9 hg9 hw9 HSG c5
                        go_wp2
                        go_meet
                        rw [HE.out]
                        exact hs9.out.set 6 _ (enF_cases rfl rfl rfl rfl rfl rfl rfl rfl rfl rfl rfl rfl rfl rfl)
                    case rest =>
                      have hst := hcut
                      have hS4 := sends4_ok { s2 with next := (p : Int) } hS3
                      clear HS4 H4 hcut
                      have hsd := HSD.out
                      rw [H3.out] at hsd
                      simp only at hsd
                      have hwa : waitsB s2 = waitsB s1 := by
                        have h9 := HS2.out
                        unfold sends2 at h9
                        split at h9 <;> (injection h9 with _ h9; rw [← h9] <;> try rfl)
                      rw [hwa, HAL.out] at hsd
                      generalize hs4 : sends4 { s2 with next := (p : Int) } = r4 at *
                      obtain ⟨o4, s4⟩ := r4
                      simp only at hst hsd hS4
                      generalize wc = w5 at *
                      obtain ⟨A6, c6', rfl⟩ := hst.o.shape
                      obtain ⟨lm, hlm⟩ : ∃ n, (o2 ++ D ++ o4).length = n := ⟨_, rfl⟩
                      rw [hlm] at hst ⊢
                      obtain ⟨lo, hlo⟩ : ∃ n, o2.length = n := ⟨_, rfl⟩
                      rw [hlo] at hl1 ⊢
                      have hmore : (!D.isEmpty || !o4.isEmpty) = decide (lo < lm) := by
                        rw [← hlm, ← hlo, List.length_append, List.length_append]
                        cases D <;> cases o4 <;> simp <;> omega
                      rw [hmore] at hsd
                      have HST5 := Lib.hid hst
                      have HSD5 := Lib.hid hsd
                      have c8 := hst.r.c8
                      have f8 := hst.r.fr 8
                      clear hst hsd hmore hs4 hlm hlo HLN hwa
                      by_cases hgt : lo < lm
                      · have d1 : decide ((lo : Int) < (lm : Int)) = true := decide_eq_true (by omega)
                        have d1' : decide (lo < lm) = true := decide_eq_true hgt
                        cases al
                        · have HE : Hid (outS t now = (o2 ++ D ++ o4, s4)) := by show _ = _; rw [HSD5.out, d1']; rfl
                          clear hgt
                          go_wp2
                          go_ret
                          refine ⟨_, rfl, ?_⟩
                          rw [HE.out]
                          exact HST5.out
                        · have HE : Hid (outS t now = (o2 ++ D ++ o4, { s4 with at_ := now })) := by show _ = _; rw [HSD5.out, d1']; rfl
                          clear hgt
                          go_wp2
                          go_ret
                          refine ⟨_, rfl, ?_⟩
                          rw [HE.out]
                          exact HST5.out.set 8 _ (enF_cases rfl rfl rfl rfl rfl rfl rfl rfl rfl rfl rfl rfl rfl rfl)
                      · have d1 : decide ((lo : Int) < (lm : Int)) = false := decide_eq_false (by omega)
                        have d1' : decide (lo < lm) = false := decide_eq_false hgt
                        have HE : Hid (outS t now = (o2 ++ D ++ o4, s4)) := by show _ = _; rw [HSD5.out, d1', Bool.and_false]; rfl
                        clear hgt
                        go_wp2
                        go_ret
                        refine ⟨_, rfl, ?_⟩
                        rw [HE.out]
                        exact HST5.out
    · have e3 : (t.st != 3) = true := by simpa using s3
      have HO : Hid (outS t now = ([], t)) := by show _ = _; rw [HOUT.out, if_neg s1, if_neg s3]
      clear HOUT s1 s3
      go_wp2
      go_ret
      refine ⟨_, rfl, ?_⟩
      rw [HO.out]
      exact HS.out
end Go.Proofs.Ytoeipgbnjcgbjaa
