/- The walk of (*stream.End).sends. -/
import Derived.Test.YtoeipgbnjcgbjaaEnd3
namespace Go.Proofs.Ytoeipgbnjcgbjaa
open Go.RowKit
set_option linter.unusedVariables false

/-- What sends leaves. -/
def SendsPost (g : Nat) (s : En) (vo vi : Value) (now : Int) (w : World) (e : Ending) (w' : World) : Prop :=
  ∃ A c, e = .returned (.slice A (sendsS s now).1.length c) ∧ OutsAt w.heap.size w' (.slice A (sendsS s now).1.length c) (sendsS s now).1 ∧ EnAt g w' (sendsS s now).2 vo vi ∧ Chg (fun k => k = g) w w'

def nextOf (g : Nat) (w : World) : Nat := match w.cell? ⟨g, 5, none⟩ with | some (.int _ n) => n.toNat | _ => 0
set_option maxRecDepth 100000 in
set_option maxHeartbeats 8000000 in
theorem sends_any (g : Nat) (s : En) (vo vi : Value) (now : Int) (w : World) (h : EnAt g w s vo vi) (hok : EnOk s) (hnow : (Lit.int .i64 now).wf = true) :
    Calls Try.prog 57 #[.pointer (some ⟨g, 0, none⟩), .int .i64 now] w (SendsPost g s vo vi now w) := by
  have hblk := h.blk
  have hfpl := h.fp_lt
  have hfar := h.far
  have hS1 := sends1_ok s now hok hnow
  go_enter Try.func57, Try.ntmps57
  go_upto_region 2 with (fail)
  go_cut [16] (fun v wx => v = .bool (waitsB s && dueB s now) ∧ ∃ m, wx = w.drewN m)
  case first => as_aux_lemma =>
    have hw := waits_any g s vo vi w h
    have hd := fun m => due_any g s vo vi now (w.drewN m) (h.drewN m) hok.at_
    cases hwb : waitsB s
    · rw [hwb] at hw
      have HWB := Lib.hid hwb
      clear hwb hd
      go_wp2_with (go_at_call 67; refine hw.mono ?_; rintro e w1 ⟨rfl, m, rfl⟩)
      go_meet
      exact ⟨by rw [HWB.out]; rfl, m, rfl⟩
    · rw [hwb] at hw
      have HWB := Lib.hid hwb
      generalize dueB s now = db at *
      clear hwb
      go_wp2_with (first
        | (go_at_call 67; refine hw.mono ?_; rintro e w1 ⟨rfl, m, rfl⟩)
        | (go_at_call 55; refine (hd m).mono ?_; rintro e w1 ⟨rfl, rfl⟩))
      go_meet
      exact ⟨by rw [HWB.out]; rfl, m, rfl⟩
  case rest =>
    obtain ⟨rfl, m, rfl⟩ := hcut
    have h1 := h.drewN m
    have hch1 := (Chg.refl (fun k => k = g) w).drewN m
    generalize w.drewN m = w1 at *
    go_upto_if 16 with (fail)
    go_cut [] (fun wx => EnAt g wx (sends1 s now) vo vi ∧ Chg (fun k => k = g) w wx)
    case first => as_aux_lemma =>
      have HE : Hid (sends1 s now = if waitsB s && dueB s now then { s with next := s.una, at_ := now, endSent := s.endAcked } else s) := rfl
      generalize (waitsB s && dueB s now) = wd at *
      cases wd
      · have HE := Lib.hid (HE.out.trans (if_neg (by simp)))
        go_wp2
        go_meet
        rw [HE.out]
        exact ⟨h1, hch1⟩
      · have HE := Lib.hid (HE.out.trans (if_pos rfl))
        have f5 := h1.cel.frozen 5
        have f6 := h1.cel.frozen 6
        have f8 := h1.cel.frozen 8
        have c4 := h1.c4
        have c5 := h1.c5
        have c6 := h1.c6
        have c8 := h1.c8
        have c9 := h1.c9
        go_wp2
        go_meet
        rw [HE.out]
        exact ⟨((h1.set 5 _ { s with next := s.una } rfl rfl (enF_cases rfl rfl rfl rfl rfl rfl rfl rfl rfl rfl rfl rfl rfl rfl)).set 6 _ { s with next := s.una, at_ := now } rfl rfl (enF_cases rfl rfl rfl rfl rfl rfl rfl rfl rfl rfl rfl rfl rfl rfl)).set 8 _ { s with next := s.una, at_ := now, endSent := s.endAcked } rfl rfl (enF_cases rfl rfl rfl rfl rfl rfl rfl rfl rfl rfl rfl rfl rfl rfl), ((hch1.setCell (.inl rfl) _).setCell (.inl rfl) _).setCell (.inl rfl) _⟩
    case rest =>
      clear h1 hch1
      obtain ⟨h2, hch2⟩ := hcut
      generalize hs1 : sends1 s now = s1 at *
      have HS1 := Lib.hid hs1
      clear hs1
      have c13 := h2.c13
      go_upto_if 38 with (fail)
      go_cut [5] (fun v5 wx => OutsAt w.heap.size wx v5 (sends2 s1).1 ∧ EnAt g wx (sends2 s1).2 vo vi ∧ Chg (fun k => k = g) w wx)
      case first => as_aux_lemma =>
        have HE : Hid (sends2 s1 = if s1.owes then ([ackSeg s1], { s1 with owes := false }) else ([], s1)) := rfl
        cases how : s1.owes
        · rw [how] at HE
          have HE := Lib.hid (HE.out.trans (if_neg (by simp)))
          go_wp2
          go_meet
          rw [HE.out]
          exact ⟨OutsAt.nil _ _, h2, hch2⟩
        · rw [how] at HE
          have HE := Lib.hid (HE.out.trans (if_pos rfl))
          clear how
          have f13 := h2.cel.frozen 13
          obtain ⟨Ai, ci, rfl⟩ := h2.oi.shape
          have c10 := h2.c10
          have c12 := h2.c12
          have hil := hS1.innl
          have h3 := h2.set 13 (.bool false) { s1 with owes := false } rfl rfl (enF_cases rfl rfl rfl rfl rfl rfl rfl rfl rfl rfl rfl rfl rfl rfl)
          have hch3 := hch2.setCell (a := ⟨g, 13, none⟩) (.inl rfl) (.bool false)
          have HA : Hid (ackSeg s1 = segL ⟨2, s1.id, 0, s1.inn.length + (if s1.other then 1 else 0), []⟩) := rfl
          cases hot : s1.other
          all_goals
            rw [hot] at HA c12
            clear hot
            go_wp2_with fail
            refine (say_any g { s1 with owes := false } vo _ ⟨2, 0, 0, _, []⟩ none 0 _ h3 hS1.id (fun h => by cases h) (fun x h => by cases h) (by simp) (by decide)).mono ?_
            rintro e w3 ⟨A3, rfl, ho3, hb3⟩
            have h4 := h3.below hb3
            have hch4 := hch3.trans (Chg.of_below (S := fun _ => False) hb3) (fun _ _ h => h.elim)
            have ho4 := ho3.base_ (base' := w.heap.size) hch3.size
            have hz4 := hch4.size
            clear h3 hch3 ho3 hb3 c10 c12 c13 f13 hil
            go_wp2_with (at_builtin; go_loud (refine wpList_outs rfl (.tmp 53) (.tmp 58) rfl rfl rfl (OutsAt.nil w.heap.size w3) ho4 hz4 (by simp) ?_; intro A5 c5 w5 hO5 hc5))
            go_meet
            rw [HE.out]
            exact ⟨by rw [HA.out]; exact hO5, h4.chg hc5 (fun k hk hk' => by have := hfpl k hk; omega), hch4.trans hc5 (fun i hi hk => by omega)⟩
      case rest =>
        obtain ⟨hO, h3, hch3⟩ := hcut
        have hS2 := sends2_ok s1 hS1
        generalize hs2 : sends2 s1 = r2 at *
        obtain ⟨o2, s2⟩ := r2
        simp only at hO h3 hS2
        have HS2 := Lib.hid hs2
        clear hs2 h2 hch2 c13
        have hol : o2.length ≤ 1 := by
          have := HS2.out
          unfold sends2 at this
          split at this <;> (injection this with this _; subst this; simp)
        have hw := waits_any g s2 vo vi wc h3
        obtain ⟨wb2, hwb2⟩ : ∃ b, b = waitsB s2 := ⟨_, rfl⟩
        rw [← hwb2] at hw
        have HWB := Lib.hid hwb2
        clear hwb2
        go_wp2_with (go_at_call 67; refine hw.mono ?_; rintro e w4 ⟨rfl, m4, rfl⟩)
        have h4 := h3.drewN m4
        have hch4 := hch3.drewN m4
        have hO4 := hO.below (Below.drewN (Below.refl _ _) m4)
        generalize wc.drewN m4 = w4 at *
        clear hO h3 hch3 hw
        have hse : s2 = { s2 with next := ((s2.next.toNat : Nat) : Int) } := by
          obtain ⟨id, st, dialed, out, una, next, at_, closed, endSent, endAcked, inn, read, other, owes⟩ := s2
          have h1 := hS2.una
          simp only at h1 ⊢
          rw [Int.toNat_of_nonneg (by omega)]
        rw [hse] at h4
        have HSE := Lib.hid hse
        clear hse
        have hu2 := hS2.una
        have hn2 := hS2.next
        have hl2 := hS2.outl
        go_loopw [5, 8] (fun v5 u8 wr => ∃ (p f : Nat) (D : List (List Int)), p ≤ s2.out.length ∧ s2.out.length - p ≤ f ∧ u8 = .bool (!D.isEmpty) ∧ Hid (dataL s2 s2.out.length s2.next.toNat = (D ++ (dataL s2 f p).1, (dataL s2 f p).2)) ∧ D.length ≤ p ∧ OutsAt w.heap.size wr v5 (o2 ++ D) ∧ EnAt g wr { s2 with next := (p : Int) } vo vi ∧ Chg (fun k => k = g) w wr) (fun _ _ wr => s2.out.length - nextOf g wr)
        case atStart => exact ⟨s2.next.toNat, s2.out.length, [], by omega, by omega, rfl, rfl, by simp, by rw [List.append_nil]; exact hO4, h4, hch4⟩
        case round =>
          clear hO4 h4 hch4
          obtain ⟨p, f, D, hp, hf, rfl, HDL, hDp, hO, hE, hch⟩ := hrel
          have c5 := hE.c5
          have c4 := hE.c4
          have c3 := hE.c3
          simp only at c5 c4 c3
          have HM0 : Hid (nextOf g wr = p) := by show _ = _; simp [nextOf, c5]
          obtain ⟨Ao, co, hvo⟩ := hE.oo.shape
          simp only at hvo
          subst hvo
          have w1' : IntKind.i64.wrap (s2.una + 4000) = s2.una + 4000 := IntWalk.i64_in _ (by omega)
          go_upto_region 12 with (fail)
          go_cut [84] (fun v wx => v = .bool (decide (p < s2.out.length ∧ (p : Int) < s2.una + 4000)) ∧ ∃ m, wx = wr.drewN m)
          case first => as_aux_lemma =>
            by_cases hl1 : p < s2.out.length
            · have d1 : decide ((p : Int) < (s2.out.length : Int)) = true := decide_eq_true (by omega)
              have d1' : decide (p < s2.out.length) = true := decide_eq_true hl1
              by_cases hl2 : (p : Int) < s2.una + 4000
              · have d2 : decide ((p : Int) < s2.una + 4000) = true := decide_eq_true hl2
                have hd : decide (p < s2.out.length ∧ (p : Int) < s2.una + 4000) = true := decide_eq_true ⟨hl1, hl2⟩
                have HD := Lib.hid hd
                clear hl1 hl2 hd
                go_wp2
                go_quiet (fail)
                go_wp2
                go_meet
                exact ⟨by rw [HD.out], _, rfl⟩
              · have d2 : decide ((p : Int) < s2.una + 4000) = false := decide_eq_false hl2
                have hd : decide (p < s2.out.length ∧ (p : Int) < s2.una + 4000) = false := decide_eq_false (fun h => hl2 h.2)
                have HD := Lib.hid hd
                clear hl1 hl2 hd
                go_wp2
                go_quiet (fail)
                go_wp2
                go_meet
                exact ⟨by rw [HD.out], _, rfl⟩
            · have d1 : decide ((p : Int) < (s2.out.length : Int)) = false := decide_eq_false (by omega)
              have d1' : decide (p < s2.out.length) = false := decide_eq_false hl1
              have hd : decide (p < s2.out.length ∧ (p : Int) < s2.una + 4000) = false := decide_eq_false (fun h => hl1 h.1)
              have HD := Lib.hid hd
              clear hl1 hd
              go_wp2
              go_quiet (fail)
              go_wp2
              go_meet
              exact ⟨by rw [HD.out], _, rfl⟩
          case rest =>
           obtain ⟨rfl, nq, rfl⟩ := hcut
           by_cases hlt : p < s2.out.length ∧ (p : Int) < s2.una + 4000
           · as_aux_lemma =>
             obtain ⟨hl1, hl2⟩ := hlt
             obtain ⟨n, hn⟩ : ∃ n, n = pieceN s2 p := ⟨_, rfl⟩
             have hn1 : 1 ≤ n ∧ n ≤ 400 ∧ n ≤ s2.out.length - p := by unfold pieceN at hn; omega
             have w2' : IntKind.i64.wrap ((s2.out.length : Int) - p) = (s2.out.length : Int) - p := IntWalk.i64_in _ (by omega)
             have HNP := Lib.hid hn
             clear hn
             rw [decide_eq_true (show p < s2.out.length ∧ (p : Int) < s2.una + 4000 from ⟨hl1, hl2⟩)]
             go_wp2
             have hE1 := hE.drewN nq
             have hO1 := hO.below (Below.drewN (Below.refl _ _) nq)
             have hch1 := hch.drewN nq
             generalize wr.drewN nq = wq at *
             clear hE hO hch c3 c4 c5
             have c3 := hE1.c3
             have c5 := hE1.c5
             simp only at c3 c5
             go_upto_region 13 with (fail)
             go_cut [9] (fun v9 wx => v9 = .int .i64 (n : Int) ∧ ∃ m, wx = wq.drewN m)
             case first => as_aux_lemma =>
               have hmin : min 400 ((s2.out.length : Int) - p) = (n : Int) := by
                 have := HNP.out
                 unfold pieceN at this
                 omega
               go_wp2
               go_quiet (fail)
               go_wp2
               all_goals
                 go_meet
                 refine ⟨?_, _, rfl⟩
                 congr 1
                 omega
             case rest =>
               obtain ⟨rfl, m6, rfl⟩ := hcut
               have hE2 := hE1.drewN m6
               have hO2 := hO1.below (Below.drewN (Below.refl _ _) m6)
               have hch2 := hch1.drewN m6
               generalize wq.drewN m6 = wr at *
               clear hE1 hO1 hch1 c3 c5 w1' w2'
               have c3 := hE2.c3
               have c5 := hE2.c5
               try simp only at c3 c5
               have hcap := hE2.oo.cap
               try simp only at hcap
               obtain ⟨bo, oo, co', hAo, _, hbo, _⟩ := hE2.oo.cells (by simp; omega)
               injection hAo with hAo _ hco
               subst hco
               subst hAo
               have hIo : Ints .u8 wr (some ⟨bo, oo + p, none⟩) ((s2.out.drop p).take n) := (hE2.oo.ints.drop p).take n
               have hdl : ((s2.out.drop p).take n).length = n := by rw [List.length_take, List.length_drop]; omega
               have hIb : Bytes ((s2.out.drop p).take n) := fun x hx => hS2.outb x (List.mem_of_mem_drop (List.mem_of_mem_take hx))
               have hcc : co ≤ 9223372036854775807 := hE2.oo.capLe.2
               have hsay : ∀ wx : World, Below wr.heap.size wr wx → Calls Try.prog 56 #[.pointer (some ⟨g, 0, none⟩), .agg #[.int .i64 3, .int .i64 0, .int .i64 p, .int .i64 0, .slice (some ⟨bo, oo + p, none⟩) n (co - p)]] wx (SegPost wx ⟨3, s2.id, p, 0, (s2.out.drop p).take n⟩) := by
                 intro wx hx
                 have := say_any g _ _ vi ⟨3, 0, p, 0, (s2.out.drop p).take n⟩ (some ⟨bo, oo + p, none⟩) (co - p) wx (hE2.below hx) hS2.id (hIo.below hx) hIb (by rw [hdl]; omega) (by omega)
                 simpa only [segV, hdl] using this
               have HSAY := Lib.hid hsay
               have n3 := World.new_ne wr ⟨g, 3, none⟩ c3
               have n5 := World.new_ne wr ⟨g, 5, none⟩ c5
               have a1 : IntKind.i64.wrap ((p : Int) + n) = (p : Int) + n := IntWalk.i64_in _ (by omega)
               have a2 : (0 : Int) ≤ (p : Int) + n := by omega
               have a3 : (p : Int) ≤ (p : Int) + n := by omega
               have a4 : (p : Int) + n ≤ co := by omega
               have a5 : ((p : Int) + n).toNat = p + n := by omega
               have a6 : p + n - p = n := by omega
               have a7 : ¬ co = p := by omega
               have a8 : p ≤ p + n := by omega
               have a9 : p + n ≤ co := by omega
               have hz6 := hch2.size
               have hOl : (o2 ++ D).length ≤ 2000000 := by rw [List.length_append]; omega
               clear hsay hIo hdl
               go_wp2
               go_region_held3 (fun w' => w'.cell? ⟨g, 3, none⟩ = some (.slice (some ⟨bo, oo, none⟩) s2.out.length co) ∧ w'.cell? ⟨g, 5, none⟩ = some (.int .i64 p)) (first | (with_reducible exact hS7) | (with_reducible exact hS6) | go_keep) (first
                 | (have hm := ho6; refine step_outs (by rfl) (.tmp 96) (.tmp 119) (by rfl) (by rfl) (by rfl) hO6 ho6 hz7 hOl ?_; intro A7 c7 w7 hO7 hc7; have hE7 := hE6.chg hc7 (fun k hk hk' => by have := hfpl k hk; omega); have hS7 : w7.cell? ⟨g, 3, none⟩ = some (.slice (some ⟨bo, oo, none⟩) s2.out.length co) ∧ w7.cell? ⟨g, 5, none⟩ = some (.int .i64 p) := ⟨hE7.c3, hE7.c5⟩)
                 | (go_at_call 56; refine (HSAY.out wr.drew ((Below.refl _ _).drew)).mono ?_; rintro e w6 ⟨A6, rfl, ho6', hb6⟩; have hE6 := (hE2.drew).below hb6; have hS6 : w6.cell? ⟨g, 3, none⟩ = some (.slice (some ⟨bo, oo, none⟩) s2.out.length co) ∧ w6.cell? ⟨g, 5, none⟩ = some (.int .i64 p) := ⟨hE6.c3, hE6.c5⟩; have hO6 := (hO2.below (Below.refl _ _).drew).below hb6; have ho6 := ho6'.base_ (base' := w.heap.size) hz6; have hz7 := Nat.le_trans hz6 hb6.size))
               have hch7 := ((hch2.drew).trans (Chg.of_below (S := fun _ => False) hb6) (fun _ _ h => h.elim)).trans hc7 (fun i hi hk => by omega)
               have c5' := hE7.c5
               have f5' := hE7.cel.frozen 5
               have hE8 := hE7.set 5 (.int .i64 ((p : Int) + n)) { s2 with next := ((p + n : Nat) : Int) } rfl rfl (enF_cases rfl rfl rfl rfl rfl rfl rfl rfl rfl rfl rfl rfl rfl rfl)
               have hc8 : Chg (fun k => k = g) w7 (w7.setCell ⟨g, 5, none⟩ (.int .i64 ((p : Int) + n))) := (Chg.refl (fun k => k = g) w7).setCell (.inl rfl) _
               have hO8 := hO7.chg hc8 (fun k hk e => by omega)
               have hch8 := hch7.trans hc8 (fun _ _ h => h)
               have HM1 : Hid (nextOf g (w7.setCell ⟨g, 5, none⟩ (.int .i64 ((p : Int) + n))) = p + n) := by
                 have := hE8.c5
                 show _ = _
                 simp only [nextOf, this]
                 omega
               obtain ⟨f', rfl⟩ : ∃ f', f = f' + 1 := ⟨f - 1, by omega⟩
               have HDL' : Hid (dataL s2 s2.out.length s2.next.toNat = ((D ++ [dataSeg s2 p]) ++ (dataL s2 f' (p + n)).1, (dataL s2 f' (p + n)).2)) := by
                 show _ = _
                 have h1 := HDL.out
                 rw [dataL, if_pos ⟨hl1, hl2⟩, ← HNP.out] at h1
                 rw [h1]
                 simp
               have hds : dataSeg s2 p = segL ⟨3, s2.id, p, 0, (s2.out.drop p).take n⟩ := by unfold dataSeg; rw [← HNP.out]
               rw [← hds, List.append_assoc] at hO8
               have HO8 := hO8
               clear hO7 hE7 hch7 hS7 hS6 hE6 hO6 ho6 ho6' hc7 hb6 hE2 hO2 hch2 HSAY c3 c5 n3 n5 a1 a2 a3 a4 a5 a6 a7 a8 a9 hIb hcap hz7 hc8 hds
               have a1 : IntKind.i64.wrap ((p : Int) + n) = (p : Int) + n := IntWalk.i64_in _ (by omega)
               go_wp2
               go_roundw
               case rel =>
                 refine ⟨p + n, f', D ++ [dataSeg s2 p], by omega, by omega, by simp, HDL', by simp; omega, ?_, hE8, hch8⟩
                 rw [List.length_append] at HO8
                 exact HO8
               case measure =>
                 rw [HM1.out, HM0.out]
                 omega
           · as_aux_lemma =>
             have hend := dataL_end s2 f p hlt
             have HDE : Hid (dataL s2 s2.out.length s2.next.toNat = (D, p)) := by show _ = _; rw [HDL.out, hend]; simp
             have HS3 : Hid (sends3 s2 = (D, { s2 with next := (p : Int) })) := by show _ = _; unfold sends3; rw [HDE.out]
             have hS3 := sends3_ok s2 hS2
             rw [HS3.out] at hS3
             simp only at hS3
             have hol' : (o2 ++ D).length ≤ 2000000 := by rw [List.length_append]; omega
             have HOL := Lib.hid hol'
             clear hol'
             rw [decide_eq_false hlt]
             clear hlt hend HDL hDp w1'
             go_wp2
             have hE1 := hE.drewN nq
             have hO1 := hO.below (Below.drewN (Below.refl _ _) nq)
             have hch1 := hch.drewN nq
             go_upto_region 17 with (fail)
             generalize hs3 : ({ s2 with next := (p : Int) } : En) = s3 at *
             have HS3e := Lib.hid hs3
             have ho3 : s3.out.length = s2.out.length := by rw [← hs3]
             clear hs3
             generalize wr.drewN nq = wq at *
             clear hE hO hch c3 c4 c5 HM0 HDE
             obtain ⟨fb, hfb⟩ : ∃ b, b = finB s3 := ⟨_, rfl⟩
             go_cut [151] (fun v wx => v = .bool fb ∧ ∃ m, wx = wq.drewN m)
             case first => as_aux_lemma =>
               have HF : Hid (fb = (s3.closed && !s3.endSent && decide (s3.next = s3.out.length))) := hfb
               have c3 := hE1.c3
               have c5 := hE1.c5
               have c7 := hE1.c7
               have c8 := hE1.c8
               rw [ho3] at HF
               clear hfb
               generalize s3.closed = cl at *
               generalize s3.endSent = es at *
               cases cl
               · go_wp2
                 go_quiet (fail)
                 go_wp2
                 go_meet
                 exact ⟨by rw [HF.out]; rfl, _, rfl⟩
               · cases es
                 · by_cases hq : s3.next = s2.out.length
                   · have t1 : (s3.next == (s2.out.length : Int)) = true := by simpa using hq
                     have HF := Lib.hid (HF.out.trans (by rw [decide_eq_true hq]; rfl : _ = true))
                     clear hq
                     go_wp2
                     go_quiet (fail)
                     go_wp2
                     go_meet
                     exact ⟨by rw [HF.out], _, rfl⟩
                   · have t1 : (s3.next == (s2.out.length : Int)) = false := by simpa using hq
                     have HF := Lib.hid (HF.out.trans (by rw [decide_eq_false hq]; rfl : _ = false))
                     clear hq
                     go_wp2
                     go_quiet (fail)
                     go_wp2
                     go_meet
                     exact ⟨by rw [HF.out], _, rfl⟩
                 · go_wp2
                   go_quiet (fail)
                   go_wp2
                   go_meet
                   exact ⟨by rw [HF.out]; rfl, _, rfl⟩
             case rest =>
               obtain ⟨rfl, m7, rfl⟩ := hcut
               have hE2 := hE1.drewN m7
               have hO2 := hO1.below (Below.drewN (Below.refl _ _) m7)
               have hch2 := hch1.drewN m7
               generalize wq.drewN m7 = wy at *
               clear hE1 hO1 hch1
               go_upto_if 151 with (fail)
               go_cut [5, 8] (fun v5 u8 wx => OutsAt w.heap.size wx v5 (o2 ++ D ++ (sends4 s3).1) ∧ u8 = .bool (!D.isEmpty || !(sends4 s3).1.isEmpty) ∧ EnAt g wx (sends4 s3).2 (.slice Ao s2.out.length co) vi ∧ Chg (fun k => k = g) w wx)
               case first => as_aux_lemma =>
                 have HE : Hid (sends4 s3 = if finB s3 then ([segL ⟨4, s3.id, s3.next, 0, []⟩], { s3 with endSent := true }) else ([], s3)) := rfl
                 rw [← hfb] at HE
                 cases fb
                 · have HE := Lib.hid (HE.out.trans (if_neg (by simp)))
                   go_wp2
                   go_meet
                   rw [HE.out]
                   exact ⟨by rw [List.append_nil]; exact hO2, by simp, hE2, hch2⟩
                 · have HEt : Hid (sends4 s3 = ([segL ⟨4, s3.id, s3.next, 0, []⟩], { s3 with endSent := true })) := HE.out.trans (if_pos rfl)
                   clear HE
                   have c5 := hE2.c5
                   clear hfb
                   go_wp2_with fail
                   refine (say_any g s3 _ vi ⟨4, 0, s3.next, 0, []⟩ none 0 _ hE2 hS3.id (fun h => by cases h) (fun x h => by cases h) (by simp) (by decide)).mono ?_
                   rintro e w3 ⟨A3, rfl, ho3', hb3⟩
                   have hE3 := hE2.below hb3
                   have hch3 := hch2.trans (Chg.of_below (S := fun _ => False) hb3) (fun _ _ h => h.elim)
                   have hO3 := hO2.below hb3
                   have ho4 := ho3'.base_ (base' := w.heap.size) hch2.size
                   have hz4 := hch3.size
                   clear hE2 hO2 hch2 ho3' hb3 c5
                   go_wp2_with (at_builtin; go_loud (refine wpList_outs rfl (.tmp 152) (.tmp 160) rfl rfl rfl hO3 ho4 hz4 HOL.out ?_; intro A5 c5 w5 hO5 hc5; have hE5 := hE3.chg hc5 (fun k hk hk' => by have := hfpl k hk; omega); have c8 := hE5.c8; have f8 := hE5.cel.frozen 8))
                   go_meet
                   rw [HEt.out]
                   have hc8 : Chg (fun k => k = g) w5 (w5.setCell ⟨g, 8, none⟩ (.bool true)) := (Chg.refl (fun k => k = g) w5).setCell (.inl rfl) _
                   rw [List.length_append] at hO5
                   exact ⟨hO5.chg hc8 (fun k hk e => by omega), by simp, hE5.set 8 (.bool true) { s3 with endSent := true } rfl rfl (enF_cases rfl rfl rfl rfl rfl rfl rfl rfl rfl rfl rfl rfl rfl rfl), (hch3.trans hc5 (fun i hi hk => by omega)).trans hc8 (fun _ _ h => h)⟩
               case rest =>
                 clear hE2 hO2 hch2
                 obtain ⟨hO3, rfl, hE3, hch3⟩ := hcut
                 have HS : Hid (sendsS s now = (o2 ++ D ++ (sends4 s3).1, sends5 (!wb2 && (!D.isEmpty || !(sends4 s3).1.isEmpty)) (sends4 s3).2 now)) := by
                   show _ = _
                   have e1 := HS1.out
                   have e2 := HS2.out
                   have e3 := HS3.out
                   have e4 := HWB.out
                   unfold sendsS
                   simp only [e1, e2, e3, ← e4]
                 generalize (!D.isEmpty || !(sends4 s3).1.isEmpty) = so at *
                 generalize sends4 s3 = r4 at *
                 obtain ⟨o4, s4⟩ := r4
                 simp only at hO3 hE3 HS
                 obtain ⟨A5, c5, rfl⟩ := hO3.shape
                 have c6 := hE3.c6
                 have f6 := hE3.cel.frozen 6
                 cases wb2
                 · have hlen : (o2 ++ D ++ o4).length = o2.length + (D.length + o4.length) := by simp
                   have HLEN := Lib.hid hlen
                   clear hlen
                   cases so
                   · have HS : Hid (sendsS s now = (o2 ++ D ++ o4, s4)) := HS
                     go_wp2
                     go_ret
                     unfold SendsPost
                     rw [HS.out]
                     refine ⟨A5, c5, by simp only []; rw [HLEN.out]; rfl, hO3, hE3, hch3⟩
                   · have HS : Hid (sendsS s now = (o2 ++ D ++ o4, { s4 with at_ := now })) := HS
                     go_wp2
                     go_ret
                     unfold SendsPost
                     rw [HS.out]
                     have hc6 : Chg (fun k => k = g) wc (wc.setCell ⟨g, 6, none⟩ (.int .i64 now)) := (Chg.refl (fun k => k = g) wc).setCell (.inl rfl) _
                     exact ⟨A5, c5, by simp only []; rw [HLEN.out]; rfl, hO3.chg hc6 (fun k hk e => by omega), hE3.set 6 (.int .i64 now) { s4 with at_ := now } rfl rfl (enF_cases rfl rfl rfl rfl rfl rfl rfl rfl rfl rfl rfl rfl rfl rfl), hch3.trans hc6 (fun _ _ h => h)⟩
                 · have HS : Hid (sendsS s now = (o2 ++ D ++ o4, s4)) := HS
                   go_wp2
                   go_ret
                   unfold SendsPost
                   rw [HS.out]
                   refine ⟨A5, c5, by simp [List.length_append], hO3, hE3, hch3⟩
end Go.Proofs.Ytoeipgbnjcgbjaa
