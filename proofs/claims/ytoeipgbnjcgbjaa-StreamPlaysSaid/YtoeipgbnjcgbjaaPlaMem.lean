/- Put together for the claim, out of: End9, StrAwk, PlaA, EndR, Two, StrM, OrdM, OrdP, OrdC, PlaM, PlaN, PlaT, OrdD, PlaU, SrtP, SrtM, PlaV. -/
import Derived.Test.YtoeipgbnjcgbjaaEnd4
import Derived.Test.YtoeipgbnjcgbjaaEnd6
import Derived.Test.YtoeipgbnjcgbjaaEnd8
import Derived.Test.YtoeipgbnjcgbjaaPlaO
import Derived.Test.YtoeipgbnjcgbjaaEnd5
import Derived.Test.YtoeipgbnjcgbjaaPh
import Derived.Test.YtoeipgbnjcgbjaaChg
/- (*stream.End).Out, whatever the state. -/
namespace Go.Proofs.Ytoeipgbnjcgbjaa
open Go.RowKit
set_option linter.unusedVariables false

set_option maxRecDepth 100000 in
set_option maxHeartbeats 2000000 in
theorem out_any (g : Nat) (s : En) (vo vi : Value) (now : Int) (w : World) (h : EnAt g w s vo vi) (hok : EnOk s) (hnow : (Lit.int .i64 now).wf = true) :
    Calls Try.prog 22 #[.pointer (some ⟨g, 0, none⟩), .int .i64 now] w (OutPost g s vo vi now w) := by
  by_cases h1 : s.st = 1
  · by_cases hd : s.dialed = false ∨ (s.dialed = true ∧ dueB s now = true)
    · exact out_dial g s vo vi now w h hok h1 hd
    have hd1 : s.dialed = true := by cases e : s.dialed; exact absurd (.inl e) hd; rfl
    have hd2 : dueB s now = false := by cases e : dueB s now; rfl; exact absurd (.inr ⟨hd1, e⟩) hd
    have HE : Hid (outS s now = ([], s)) := by show _ = _; unfold outS; rw [if_pos h1, if_neg (by simp [hd1, hd2])]
    have hdc := due_any g s vo vi now w h hok.at_
    rw [hd2] at hdc
    have c1 := h.c1
    rw [h1] at c1
    have c2 := h.c2
    rw [hd1] at c2
    clear h1 hd hd1 hd2
    go_enter Try.func22, Try.ntmps22
    go_wp2_with (first
      | (go_at_call 55; refine hdc.mono ?_; rintro e w1 ⟨rfl, rfl⟩)
      | (go_at_call 58; refine (clips_any none 0 0 _ (Nat.le_refl _) (by decide)).mono ?_; rintro e w6 ⟨rfl, rfl⟩))
    go_ret
    unfold OutPost
    rw [HE.out]
    exact ⟨none, rfl, OutsAt.nil _ _, h, Chg.refl _ _⟩
  have t1 : (s.st == 1) = false := by simpa using h1
  by_cases h3 : s.st = 3
  · have HE : Hid (outS s now = sendsS s now) := by show _ = _; unfold outS; rw [if_neg h1, if_pos h3]
    have hs := sends_any g s vo vi now w h hok hnow
    have c1 := h.c1
    rw [h3] at c1
    clear h1 h3 t1
    go_enter Try.func22, Try.ntmps22
    go_wp2_with fail
    refine hs.mono ?_
    rintro e w2 ⟨A2, c2, rfl, hO, hE2, hC⟩
    have hcl := hO.cap
    clear hs
    go_wp2_with (go_at_call 58; refine (clips_any _ _ _ _ hcl.1 hcl.2).mono ?_; rintro e w6 ⟨rfl, rfl⟩)
    go_ret
    unfold OutPost
    rw [HE.out]
    exact ⟨A2, rfl, hO.clip rfl, hE2, hC⟩
  · have t3 : (s.st == 3) = false := by simpa using h3
    have HE : Hid (outS s now = ([], s)) := by show _ = _; unfold outS; rw [if_neg h1, if_neg h3]
    have c1 := h.c1
    clear h1 h3
    go_enter Try.func22, Try.ntmps22
    go_wp2_with (go_at_call 58; refine (clips_any none 0 0 _ (Nat.le_refl _) (by decide)).mono ?_; rintro e w6 ⟨rfl, rfl⟩)
    go_ret
    unfold OutPost
    rw [HE.out]
    exact ⟨none, rfl, OutsAt.nil _ _, h, Chg.refl _ _⟩

end Go.Proofs.Ytoeipgbnjcgbjaa
/- awake of the statements of layer 18. -/
namespace Go.Proofs.Ytoeipgbnjcgbjaa
open Go.RowKit
set_option linter.unusedVariables false

theorem OutsAt.elem {B : Nat} {w : World} {A : Option Addr} {n c : Nat} {ls : List (List Int)} (h : OutsAt B w (.slice A n c) ls) (i : Nat) (hi : i < ls.length) :
    ∃ b o A', A = some ⟨b, o, none⟩ ∧ B ≤ b ∧ b < w.heap.size ∧ w.cell? ⟨b, o + i, none⟩ = some (.slice A' (ls.getD i []).length (ls.getD i []).length) ∧ OwnS w B 5 1 (.slice A' (ls.getD i []).length (ls.getD i []).length) (ls.getD i []).length ((ls.getD i []).map (Value.int .u8)) := by
  obtain ⟨vs, ho, hv⟩ := h
  obtain ⟨A', h1, h2⟩ := hv i hi
  have hl := ho.1
  obtain ⟨b, o, c', e, hb, hlt, hc⟩ := ho.cells (by omega)
  injection e with e _ _
  exact ⟨b, o, A', e, hb, hlt, (hc i (by omega)).trans h1, h2⟩
def awA : En := newEnd 7 1
def awB : En := { newEnd 7 1 with dialed := true, at_ := 0 }
def awC : En := { newEnd 7 1 with dialed := true, at_ := 8 }
def awL : En := newEnd 7 2
def awO : En := { newEnd 7 2 with st := 3, owes := true }
def awD : List Int := segL ⟨1, 7, 0, 0, []⟩
theorem aw1 : outS awA 0 = ([awD], awB) := rfl
theorem aw2 : outS awB 3 = ([], awB) := rfl
theorem aw3 : outS awB 8 = ([awD], awC) := rfl
theorem aw_sg : goodSg ⟨1, 7, 0, 0, []⟩ := by unfold goodSg; simp
theorem aw4 : inS awL awD 0 = awO := by
  have h := parse_seg ⟨1, 7, 0, 0, []⟩ aw_sg (fun x h => by cases h)
  unfold inS awD
  rw [if_pos h.1, h.2]
  rfl
theorem aw5 : ∃ d s, outS awO 0 = ([d], s) := ⟨_, _, rfl⟩
theorem awD_len : awD.length = 19 := rfl
theorem awD_ok : Bytes awD := segL_ok _ (fun x h => by cases h)
theorem ok0 : (Lit.int .i64 0).wf = true := by decide
def nilS : Value := .slice none 0 0
/-- Out, its answer written out. -/
theorem out_at (g : Nat) (s s' : En) (vo vi : Value) (now : Int) (w : World) (l : List (List Int)) (n : Nat) (he : outS s now = (l, s')) (hn : l.length = n) (h : EnAt g w s vo vi) (hok : EnOk s) (hnow : (Lit.int .i64 now).wf = true) :
    Calls Try.prog 22 #[.pointer (some ⟨g, 0, none⟩), .int .i64 now] w fun e w' => ∃ A, e = .returned (.slice A n n) ∧ OutsAt w.heap.size w' (.slice A n n) l ∧ EnAt g w' s' vo vi ∧ Chg (fun k => k = g) w w' := by
  subst hn
  have := out_any g s vo vi now w h hok hnow
  unfold OutPost at this
  rwa [he] at this
theorem EnAt.other {g g' : Nat} {w w' : World} {s : En} (h : EnAt g w s (.slice none 0 0) (.slice none 0 0)) (hc : Chg (fun k => k = g') w w') (hne : g ≠ g') : EnAt g w' s (.slice none 0 0) (.slice none 0 0) :=
  h.chg hc (fun k hk => by
    rcases hk with rfl | hk | hk
    · exact hne
    · cases hk
    · cases hk)
set_option maxRecDepth 100000 in
set_option maxHeartbeats 2000000 in
theorem awake18_any (w : World) : Calls Try.prog 19 #[] w fun e w' => e = .returned (.bool true) ∧ Below w.heap.size w w' := by
  go_enter Try.func19, Try.ntmps19
  go_wp2_with fail
  refine (dial_any 7 w).mono ?_
  rintro e w1 ⟨rfl, hA, hb1⟩
  have hA : EnAt w.heap.size w1 awA (.slice none 0 0) (.slice none 0 0) := hA
  go_wp2_with fail
  refine (listen_any 7 w1).mono ?_
  rintro e w2 ⟨rfl, hL, hb2⟩
  have hL : EnAt w1.heap.size w2 awL (.slice none 0 0) (.slice none 0 0) := hL
  have hA2 := hA.below hb2
  have hne : w.heap.size < w1.heap.size := hA.blk
  have hC2 : Chg (fun _ => False) w w2 := (Chg.of_below hb1).trans (Chg.of_below (S := fun _ => False) hb2) (fun _ _ h => h)
  clear hA hb1 hb2
  have hsz := hC2.size
  generalize hg1 : w.heap.size = g1 at *
  generalize w1.heap.size = g2 at *
  have HG1 := Lib.hid hg1
  clear hg1
  have hok1 : EnOk awA := newEnd_ok 7 1 (by decide)
  have hok2 : EnOk awB := by have := outS_ok awA 0 hok1 ok0; rwa [aw1] at this
  have hok3 : EnOk awO := by have := inS_ok awL awD 0 (newEnd_ok 7 2 (by decide)) awD_ok ok0 (newEnd_fin 7 2); rwa [aw4] at this
  go_wp2_with fail
  refine (out_at g1 awA awB _ _ 0 w2 _ 1 aw1 rfl hA2 hok1 ok0).mono ?_
  rintro e w3 ⟨A3, rfl, hO3, hA3, hc3⟩
  go_wp2_with fail
  refine (out_at g1 awB awB _ _ 3 w3 _ 0 aw2 rfl hA3 hok2 (by decide)).mono ?_
  rintro e w4 ⟨A4, rfl, hO4, hA4, hc4⟩
  go_wp2_with fail
  refine (out_at g1 awB awC _ _ 8 w4 _ 1 aw3 rfl hA4 hok2 (by decide)).mono ?_
  rintro e w5 ⟨A5, rfl, hO5, hA5, hc5⟩
  have hL5 := ((hL.other hc3 (by omega)).other hc4 (by omega)).other hc5 (by omega)
  have hO5 := (hO3.chg hc4 (fun k hk e => by have := hA2.blk; omega)).chg hc5 (fun k hk e => by have := hA2.blk; omega)
  obtain ⟨b, o, A', rfl, _, hbl, hcell, hown⟩ := hO5.elem 0 (by decide)
  rw [Nat.add_zero] at hcell
  have hcell : w5.cell? ⟨b, o, none⟩ = some (.slice A' 19 19) := hcell
  have hI5 : Ints .u8 w5 A' awD := OwnS.ints hown
  have hC5 : Chg (fun k => k = g1) w w5 := (((hC2.mono (S' := fun k => k = g1) (fun _ _ h => h.elim)).trans hc3 (fun _ _ h => h)).trans hc4 (fun _ _ h => h)).trans hc5 (fun _ _ h => h)
  clear hO3 hO4 hO5 hA2 hA3 hA4 hL hC2 hc3 hc4 hc5 hown
  go_wp2_with fail
  have hin := in_any g2 awL _ _ A' 19 19 awD 0 w5 hL5 (newEnd_ok 7 2 (by decide)) hI5 awD_len awD_ok (by decide) (by decide) (by decide)
  rw [aw4] at hin
  refine hin.mono ?_
  rintro e w6 ⟨rfl, vi6, hL6, hc6, hf6⟩
  have hc6 : Chg (fun k => k = g2) w5 w6 := hc6.mono (fun k _ h => h.elim (fun h => h) (fun h => by cases h))
  have hA6 := hA5.other hc6 (by omega)
  clear hin hcell
  go_wp2_with fail
  refine (state_any g2 awO _ _ w6 hL6).mono ?_
  rintro e w7 ⟨rfl, rfl⟩
  obtain ⟨d, s7, e7⟩ := aw5
  go_wp2_with fail
  refine (out_at g2 awO s7 _ _ 0 w6 _ 1 e7 rfl hL6 hok3 ok0).mono ?_
  rintro e w7 ⟨A7, rfl, hO7, hL7, hc7⟩
  have hA7 := hA6.other hc7 (by omega)
  go_wp2_with fail
  refine (state_any g1 awC _ _ w7 hA7).mono ?_
  rintro e w8 ⟨rfl, rfl⟩
  go_wp2
  go_ret
  refine ⟨rfl, Chg.below (S := fun k => k = g1 ∨ k = g2) (((hC5.mono (fun _ _ h => .inl h)).trans hc6 (fun _ _ h => .inr h)).trans hc7 (fun _ _ h => .inr h)) ?_ ?_⟩
  · exact Nat.le_refl _
  · have := HG1.out
    rintro k hk (h | h) <;> omega
end Go.Proofs.Ytoeipgbnjcgbjaa
/- outs and alike: two lists of datagrams, two ends. -/
namespace Go.Proofs.Ytoeipgbnjcgbjaa
open Go.RowKit
set_option linter.unusedVariables false
set_option linter.unusedSimpArgs false

set_option maxRecDepth 100000 in
set_option maxHeartbeats 4000000 in
theorem outs_any (A A0 : Option Addr) (n c c' B B' : Nat) (ls : List (List Int)) (w : World) (hn : ls.length = n) (ha : OutsAt B w (.slice A n c) ls) (hb : StrsAt B' w (.slice A0 n c') ls) (hm : n ≤ 1073741824) :
    Calls Try.prog 35 #[.slice A n c, .slice A0 n c'] w fun e w' => e = .returned (.bool true) ∧ Drawn w w' := by
  have HA := Lib.hid ha
  have HB := Lib.hid hb
  have HN := Lib.hid hn
  have z0 : ((n : Int) != (n : Int)) = false := by simp
  clear ha hb hn
  go_enter Try.func35, Try.ntmps35
  go_wp2
  go_loopw [5] (fun iv wr => ∃ i : Nat, iv = .int .i64 i ∧ i ≤ n ∧ Drawn w wr) (fun iv _ => n - (intOf iv).toNat)
  case atStart => exact ⟨0, rfl, Nat.zero_le _, Drawn.refl _⟩
  case round =>
    obtain ⟨i, rfl, hi, hd⟩ := hrel
    have HD := Lib.hid hd
    clear hd
    by_cases hlt : i < n
    · have hil : i < ls.length := by rw [HN.out]; exact hlt
      obtain ⟨ga, oa, A', rfl, _, _, hca, hoa⟩ := HA.out.elem i hil
      have hsb := HB.out
      unfold StrsAt at hsb
      rw [HN.out] at hsb
      obtain ⟨gb, ob, cb, hvb, _, _, hcb⟩ := hsb.cells (by rw [List.length_map]; omega)
      injection hvb with hvb _ _
      subst hvb
      have hcb := hcb i (by rw [List.length_map]; exact hil)
      rw [List.getElem?_map, List.getElem?_eq_getElem hil] at hcb
      have hgd : ls.getD i [] = ls[i] := by rw [List.getD_eq_getElem?_getD, List.getElem?_eq_getElem hil]; rfl
      simp only [Option.map_some] at hcb
      rw [← hgd] at hcb
      generalize ls.getD i [] = d at *
      obtain ⟨dn, hdn⟩ : ∃ k, d.length = k := ⟨_, rfl⟩
      rw [hdn] at hca hoa
      have DN := Lib.hid hdn
      have CA : Hid (wr.drew.cell? ⟨ga, oa + i, none⟩ = some (.slice A' dn dn)) := (HD.out.cell _).trans hca
      have CB : Hid (wr.drew.cell? ⟨gb, ob + i, none⟩ = some (.string (strOfNums d))) := (HD.out.cell _).trans hcb
      have DI : Hid (Ints .u8 wr.drew A' d) := Ints.heap (OwnS.ints hoa) (by show wr.heap = w.heap; exact HD.out.heap)
      have i0 : (0 : Int) ≤ (i : Int) := by omega
      have i1 : (i : Int) < (n : Int) := by omega
      clear hca hcb hoa hsb hgd hdn hil
      go_upto_region 6 with (fail)
      refine wp_region_ph (by kernel_rfl) [] [.span 0 0, .span 0 0, .span 0 0, .span 0 0, .span 0 0, .span 0 0, .span 0 0, .span 0 0, .span 0 0, .span 0 0] [fun z9 => z9 = .slice (some ⟨ga, oa, none⟩) n c, fun z9 => z9 = .int .i64 (i), fun z9 => z9 = .pointer (some ⟨ga, oa + i, none⟩), fun z9 => z9 = .slice A' dn dn, fun z9 => z9 = .string (strOfNums d), fun z9 => z9 = .slice (some ⟨gb, ob, none⟩) n c', fun z9 => z9 = .int .i64 (i), fun z9 => z9 = .pointer (some ⟨gb, ob + i, none⟩), fun z9 => z9 = .string (strOfNums d), fun z9 => z9 = .bool false] (IRd wr.drew) (by kernel_rfl) (by kernel_rfl) (by kernel_rfl) (by kernel_rfl) (by kernel_rfl) (by kernel_rfl) rfl rfl (rfl) ?steps ?done
      case steps =>
        refine ⟨?_, ?_, ?_, ?_, ?_, ?_, ?_, ?_, ?_, ?_, trivial⟩
        · intro us au w1 k0 hlo hhi ha hd hst hI
          obtain rfl : k0 = 0 := by omega
          have q0 := slot_far (t := 0) (v := .slice (some ⟨ga, oa, none⟩) n c) ha (by kernel_rfl) (by kernel_rfl)
          have p0 := slot_norm q0
          clear ha hd hst
          exact StepI.pure (v := .slice (some ⟨ga, oa, none⟩) n c) rfl rfl (by go_simp) ⟨rfl, hI⟩
        · intro us au w1 k1 hlo hhi ha hd hst hI
          obtain rfl : k1 = 0 := by omega
          have q5 := slot_far (t := 5) (v := .int .i64 (i)) ha (by kernel_rfl) (by kernel_rfl)
          have p5 := slot_norm q5
          clear ha hd hst
          exact StepI.pure (v := .int .i64 (i)) rfl rfl (by go_simp) ⟨rfl, hI⟩
        · intro us au w1 k2 hlo hhi ha hd hst hI
          obtain rfl : k2 = 0 := by omega
          have e0 := hd 0 _ (by kernel_rfl) rfl
          have e1 := hd 1 _ (by kernel_rfl) rfl
          have q17 := slot_at (t := 17) 0 ha (by kernel_rfl) (by kernel_rfl) (by kernel_rfl) e0
          have p17 := slot_norm q17
          have q18 := slot_at (t := 18) 1 ha (by kernel_rfl) (by kernel_rfl) (by kernel_rfl) e1
          have p18 := slot_norm q18
          clear ha hd hst
          exact StepI.pure (v := .pointer (some ⟨ga, oa + i, none⟩)) rfl rfl (by go_simp) ⟨rfl, hI⟩
        · intro us au w1 k3 hlo hhi ha hd hst hI
          obtain rfl : k3 = 0 := by omega
          have e2 := hd 2 _ (by kernel_rfl) rfl
          have q19 := slot_at (t := 19) 2 ha (by kernel_rfl) (by kernel_rfl) (by kernel_rfl) e2
          have p19 := slot_norm q19
          clear ha hd hst
          have c1 := (congrArg (fun w => World.cell? w ⟨ga, oa + i, none⟩) (show w1 = _ from hI)).trans CA.out
          exact StepI.pure (v := .slice A' dn dn) rfl rfl (by go_simp) ⟨rfl, hI⟩
        · intro us au w1 k4 hlo hhi ha hd hst hI
          obtain rfl : k4 = 0 := by omega
          have e3 := hd 3 _ (by kernel_rfl) rfl
          have q20 := slot_at (t := 20) 3 ha (by kernel_rfl) (by kernel_rfl) (by kernel_rfl) e3
          have p20 := slot_norm q20
          clear ha hd hst
          have hr := run_str_ints (P := Try.prog) (w := w1) 22 9 5 Try.underlying22 Try.underlying5 Try.underlying9 A' dn d (by rw [show w1 = _ from hI]; exact DI.out)
          rw [DN.out] at hr
          exact StepI.runs (v := .string (strOfNums d)) (w' := w1) rfl rfl (by go_simp <;> exact hr) ⟨rfl, hI⟩
        · intro us au w1 k5 hlo hhi ha hd hst hI
          obtain rfl : k5 = 0 := by omega
          have q1 := slot_far (t := 1) (v := .slice (some ⟨gb, ob, none⟩) n c') ha (by kernel_rfl) (by kernel_rfl)
          have p1 := slot_norm q1
          clear ha hd hst
          exact StepI.pure (v := .slice (some ⟨gb, ob, none⟩) n c') rfl rfl (by go_simp) ⟨rfl, hI⟩
        · intro us au w1 k6 hlo hhi ha hd hst hI
          obtain rfl : k6 = 0 := by omega
          have q5 := slot_far (t := 5) (v := .int .i64 (i)) ha (by kernel_rfl) (by kernel_rfl)
          have p5 := slot_norm q5
          clear ha hd hst
          exact StepI.pure (v := .int .i64 (i)) rfl rfl (by go_simp) ⟨rfl, hI⟩
        · intro us au w1 k7 hlo hhi ha hd hst hI
          obtain rfl : k7 = 0 := by omega
          have e5 := hd 5 _ (by kernel_rfl) rfl
          have e6 := hd 6 _ (by kernel_rfl) rfl
          have q22 := slot_at (t := 22) 5 ha (by kernel_rfl) (by kernel_rfl) (by kernel_rfl) e5
          have p22 := slot_norm q22
          have q23 := slot_at (t := 23) 6 ha (by kernel_rfl) (by kernel_rfl) (by kernel_rfl) e6
          have p23 := slot_norm q23
          clear ha hd hst
          exact StepI.pure (v := .pointer (some ⟨gb, ob + i, none⟩)) rfl rfl (by go_simp) ⟨rfl, hI⟩
        · intro us au w1 k8 hlo hhi ha hd hst hI
          obtain rfl : k8 = 0 := by omega
          have e7 := hd 7 _ (by kernel_rfl) rfl
          have q24 := slot_at (t := 24) 7 ha (by kernel_rfl) (by kernel_rfl) (by kernel_rfl) e7
          have p24 := slot_norm q24
          clear ha hd hst
          have c1 := (congrArg (fun w => World.cell? w ⟨gb, ob + i, none⟩) (show w1 = _ from hI)).trans CB.out
          exact StepI.pure (v := .string (strOfNums d)) rfl rfl (by go_simp) ⟨rfl, hI⟩
        · intro us au w1 k9 hlo hhi ha hd hst hI
          obtain rfl : k9 = 0 := by omega
          have e4 := hd 4 _ (by kernel_rfl) rfl
          have e8 := hd 8 _ (by kernel_rfl) rfl
          have q21 := slot_at (t := 21) 4 ha (by kernel_rfl) (by kernel_rfl) (by kernel_rfl) e4
          have p21 := slot_norm q21
          have q25 := slot_at (t := 25) 8 ha (by kernel_rfl) (by kernel_rfl) (by kernel_rfl) e8
          have p25 := slot_norm q25
          clear ha hd hst
          exact StepI.pure (v := .bool false) rfl rfl (by go_simp) ⟨rfl, hI⟩
      case done =>
        intro us w1 hI hd
        have e9 := hd 9 _ (by decide) rfl
        have hw1 : w1 = wr.drew := hI
        subst hw1
        clear hI hd CA CB DI
        simp only [putAll]
        go_simp
        go_wp2
        go_roundw
        case rel => exact ⟨i + 1, by go_num, by omega, HD.out.more 1⟩
        case measure => simp [intOf]; omega
    · obtain rfl : i = n := by omega
      go_wp2
      go_ret
      exact ⟨rfl, HD.out⟩
theorem idle_two (s : En) : idleB s = idleP s := by
  unfold idleB idleP
  by_cases h4 : s.st = 4
  · rw [if_pos h4, decide_eq_true h4]; rfl
  · rw [if_neg h4, decide_eq_false h4]
    by_cases h1 : s.st = 1
    · rw [if_pos h1, decide_eq_true h1]; rfl
    · rw [if_neg h1, decide_eq_false h1]
      cases waitsB s <;> cases decide (s.next = s.out.length) <;> cases s.closed <;> cases s.endAcked <;> cases s.owes <;> rfl
set_option maxRecDepth 100000 in
set_option maxHeartbeats 4000000 in
theorem alike_any (ge gr : Nat) (s t : En) (vo vi : Value) (w : World) (h : EnAt ge w s vo vi) (ok : EnOk s) (fin : EnFin s) (hr : RefAt gr w t) (hs : Sim s t) :
    Calls Try.prog 37 #[.pointer (some ⟨ge, 0, none⟩), .pointer (some ⟨gr, 0, none⟩)] w fun e w' => e = .returned (.bool true) ∧ Drawn w w' := by
  obtain ⟨hi1, hi2, hi3⟩ := sim_idle hs
  have hi : idleB s = rIdleB t := by rw [idle_two, idle_eq s ok fin, hi1]
  have hd : (s.endAcked && s.other) = doneB t := hi2.symm
  obtain ⟨dn, hdn⟩ : ∃ b, doneB t = b := ⟨_, rfl⟩
  obtain ⟨il, hil⟩ : ∃ b, rIdleB t = b := ⟨_, rfl⟩
  obtain ⟨st, hst⟩ : ∃ v, t.st = v := ⟨_, rfl⟩
  have k1 : ∀ n, Calls Try.prog 25 #[.pointer (some ⟨ge, 0, none⟩)] (w.drewN n) fun e w' => e = .returned (.int .i64 st) ∧ w.drewN n = w' := fun n => by rw [← hst, hi3]; exact state_any ge s vo vi _ (h.drewN n)
  have k2 : ∀ n, Calls Try.prog 38 #[.pointer (some ⟨ge, 0, none⟩)] (w.drewN n) fun e w' => e = .returned (.bool dn) ∧ w.drewN n = w' := fun n => by rw [← hdn, ← hd]; exact done_any ge s vo vi _ (h.drewN n)
  have k3 : ∀ n, Calls Try.prog 65 #[.pointer (some ⟨gr, 0, none⟩)] (w.drewN n) fun e w' => e = .returned (.bool dn) ∧ w.drewN n = w' := fun n => by rw [← hdn]; exact rdone_any gr t _ (hr.drewN n)
  have k4 : ∀ n, Calls Try.prog 39 #[.pointer (some ⟨ge, 0, none⟩)] (w.drewN n) fun e w' => e = .returned (.bool il) ∧ ∃ m, w' = (w.drewN n).drewN m := fun n => by rw [← hil, ← hi]; exact idle_any ge s vo vi _ (h.drewN n) ok
  have k5 : ∀ n, Calls Try.prog 66 #[.pointer (some ⟨gr, 0, none⟩)] (w.drewN n) fun e w' => e = .returned (.bool il) ∧ ∃ m, w' = (w.drewN n).drewN m := fun n => by rw [← hil]; exact ridle_any gr t _ (hr.drewN n)
  have c1 := hr.c1
  rw [hst] at c1
  have e1 : (st == st) = true := by simp
  have e2 : (dn == dn) = true := by simp
  have e3 : (il == il) = true := by simp
  have K1 := Lib.hid k1
  have K2 := Lib.hid k2
  have K3 := Lib.hid k3
  have K4 := Lib.hid k4
  have K5 := Lib.hid k5
  clear k1 k2 k3 k4 k5 hi1 hi2 hi3 hi hd hdn hil hst h hr hs
  go_enter Try.func37, Try.ntmps37
  go_wp2
  go_quiet (first
    | (go_at_call 25; exact quiet_same (K1.out _))
    | (go_at_call 38; exact quiet_same (K2.out _))
    | (go_at_call 65; exact quiet_same (K3.out _))
    | (go_at_call 39; exact quiet_drawn (K4.out _))
    | (go_at_call 66; exact quiet_drawn (K5.out _)))
  go_wp2
  go_ret
  exact ⟨rfl, _, rfl⟩
end Go.Proofs.Ytoeipgbnjcgbjaa
/- (*stream.End).Read. -/
namespace Go.Proofs.Ytoeipgbnjcgbjaa
open Go.RowKit
set_option linter.unusedVariables false

/-- What Read leaves. -/
def RdPost (g : Nat) (s : En) (vo vi : Value) (w : World) (e : Ending) (w' : World) : Prop :=
  ∃ A, e = .returned (.slice A (readS s).1.length (readS s).1.length) ∧ OwnS w' w.heap.size 5 1 (.slice A (readS s).1.length (readS s).1.length) (readS s).1.length ((readS s).1.map (Value.int .u8)) ∧ EnAt g w' (readS s).2 vo vi ∧ Chg (fun k => k = g) w w'
theorem read_tail {g : Nat} {s : En} {vo vi : Value} {w w1 w2 : World} {A' : Option Addr} {c' N : Nat} (h : EnAt g w s vo vi) (hc1 : w1.heap = w.heap) (ho : OwnS w2 w1.heap.size 5 1 (.slice A' N c') N (((readS s).1).map (Value.int .u8))) (hN : (readS s).1.length = N) (hb : Below w1.heap.size w1 w2) (hos : w1.os = w.os) (ht : w1.tape = w.tape) (hout : w1.output = w.output) :
    RdPost g s vo vi w (.returned (.slice A' N N)) (w2.setCell ⟨g, 11, none⟩ (.int .i64 s.inn.length)) := by
  subst hN
  have hb' : Below w.heap.size w w2 := by
    refine ⟨hb.os.trans hos, hb.tape.trans ht, hb.output.trans hout, by rw [← hc1]; exact hb.size, fun k hk => ?_⟩
    rw [hb.block k (by rw [hc1]; exact hk), hc1]
  rw [hc1] at ho
  refine ⟨A', rfl, (ho.clip).setLow h.blk _, (h.below hb').set 11 _ { s with read := s.inn.length } rfl rfl (enF_cases rfl rfl rfl rfl rfl rfl rfl rfl rfl rfl rfl rfl rfl rfl), (Chg.of_below (S := fun k => k = g) hb').setCell (.inl rfl) _⟩
set_option maxRecDepth 100000 in
set_option maxHeartbeats 2000000 in
theorem read_any (g : Nat) (s : En) (vo vi : Value) (w : World) (h : EnAt g w s vo vi) (hok : EnOk s) :
    Calls Try.prog 27 #[.pointer (some ⟨g, 0, none⟩)] w (RdPost g s vo vi w) := by
  obtain ⟨k, hk⟩ : ∃ k : Nat, s.read = k := ⟨s.read.toNat, by have := hok.read; omega⟩
  have hr := hok.read
  have hl := hok.innl
  have hrd : (readS s).1 = s.inn.drop k := by show s.inn.drop s.read.toNat = _; rw [hk]; rfl
  have hrl : (readS s).1.length = s.inn.length - k := by rw [hrd, List.length_drop]
  have HTail : ∀ (w1 w2 : World) (A' : Option Addr) (c' N : Nat), w1.heap = w.heap → OwnS w2 w1.heap.size 5 1 (.slice A' N c') N ((s.inn.drop k).map (Value.int .u8)) → s.inn.length - k = N → Below w1.heap.size w1 w2 → w1.os = w.os → w1.tape = w.tape → w1.output = w.output → RdPost g s vo vi w (.returned (.slice A' N N)) (w2.setCell ⟨g, 11, none⟩ (.int .i64 s.inn.length)) :=
    fun w1 w2 A' c' N h1 h2 h3 h4 h5 h6 h7 => read_tail h h1 (by rw [hrd]; exact h2) (by rw [hrl]; exact h3) h4 h5 h6 h7
  have HT := Lib.hid HTail
  have c10 := h.c10
  have c11 := h.c11
  rw [hk] at c11
  have hE := h
  have hoi := h.oi
  have hblk : g < w.drew.heap.size := h.blk
  rcases hoi.2 with ⟨rfl, hn⟩ | ⟨b, off, cap, cur, rfl, _, ⟨fr, hgg, _⟩, hnc, hcm, _⟩
  · have hk0 : k = 0 := by omega
    subst hk0
    have hx : s.inn = [] := List.eq_nil_of_length_eq_zero hn
    have hcl := fun W => clone_any none 0 0 [] W Ints.nil rfl (by decide) (fun _ => rfl)
    rw [hx] at HT
    simp only [List.drop_nil, List.length_nil] at HT
    clear hx hn hrd hrl hr hl hk hoi HTail
    have hS0 : ∀ wx : World, Below w.drew.heap.size w.drew wx → wx.cell? ⟨g, 10, none⟩ = some (.slice none 0 0) ∧ wx.cell? ⟨g, 11, none⟩ = some (.int .i64 0) := fun wx hb => ⟨(hb.cell (p := ⟨g, 10, none⟩) hblk).trans c10, (hb.cell (p := ⟨g, 11, none⟩) hblk).trans c11⟩
    have HS0 := Lib.hid hS0
    clear hS0
    go_enter Try.func27, Try.ntmps27
    go_wp2
    go_region_held3 (fun w' => w'.cell? ⟨g, 10, none⟩ = some (.slice none 0 0) ∧ w'.cell? ⟨g, 11, none⟩ = some (.int .i64 0)) (first | (with_reducible exact hS5) | go_keep) (first
      | (have hm := ho5; go_at_call 49; refine (clip_any A5 _ c5 w5 hcl5.1 hcl5.2).mono ?_; rintro e w6 ⟨rfl, rfl⟩)
      | (go_at_call 50; refine (hcl w.drew).mono ?_; rintro e w5 ⟨A5, c5, rfl, ho5, hb5⟩; have hcl5 := ho5.capLe; have hS5 := HS0.out w5 hb5))
    have k10 := hS5.1
    have k11 := hS5.2
    have f11 := (h.cel.drew.below hb5 h.blk).frozen 11
    clear hS5
    go_wp2
    go_ret
    exact HT.out w.drew w5 A5 c5 _ rfl ho5 (by omega) hb5 rfl rfl rfl
  · unfold maxLen at hcm
    by_cases hck : cap = k
    · obtain rfl : k = s.inn.length := by omega
      obtain rfl : cap = s.inn.length := by omega
      have hx : s.inn.drop s.inn.length = [] := List.drop_length
      rw [hx] at HT
      have hcl := clone_any (some ⟨b, off, none⟩) 0 0 [] w.drew (fun h => absurd h (by simp)) rfl (by decide) (fun h => rfl)
      have HN : Hid (s.inn.length - s.inn.length = 0) := Nat.sub_self _
      have hkc : (s.inn.length : Int) ≤ s.inn.length := Int.le_refl _
      clear hrd hrl hr hk hoi HTail hx hck hnc
      have hS0 : ∀ wx : World, Below w.drew.heap.size w.drew wx → wx.cell? ⟨g, 10, none⟩ = some (.slice (some ⟨b, off, none⟩) s.inn.length s.inn.length) ∧ wx.cell? ⟨g, 11, none⟩ = some (.int .i64 s.inn.length) := fun wx hb => ⟨(hb.cell (p := ⟨g, 10, none⟩) hblk).trans c10, (hb.cell (p := ⟨g, 11, none⟩) hblk).trans c11⟩
      have HS0 := Lib.hid hS0
      clear hS0
      go_enter Try.func27, Try.ntmps27
      go_wp2
      go_region_held3 (fun w' => w'.cell? ⟨g, 10, none⟩ = some (.slice (some ⟨b, off, none⟩) s.inn.length s.inn.length) ∧ w'.cell? ⟨g, 11, none⟩ = some (.int .i64 s.inn.length)) (first | (with_reducible exact hS5) | go_keep) (first
        | (have hm := ho5; go_at_call 49; refine (clip_any A5 _ c5 w5 hcl5.1 hcl5.2).mono ?_; rintro e w6 ⟨rfl, rfl⟩)
        | (go_at_call 50; refine hcl.mono ?_; rintro e w5 ⟨A5, c5, rfl, ho5, hb5⟩; have hcl5 := ho5.capLe; have hS5 := HS0.out w5 hb5))
      have k10 := hS5.1
      have k11 := hS5.2
      have f11 := (h.cel.drew.below hb5 h.blk).frozen 11
      clear hS5
      go_wp2
      go_ret
      exact HT.out w.drew w5 A5 c5 _ rfl ho5 HN.out hb5 rfl rfl rfl
    · have hI : ∀ W : World, W.heap = w.heap → Ints .u8 W (some ⟨b, off + k, none⟩) (s.inn.drop k) := fun W hW => ((OwnS.ints hoi).drop k).heap hW
      have hdl : (s.inn.drop k).length = s.inn.length - k := by rw [List.length_drop]
      have hcl := fun (W : World) (hW : W.heap = w.heap) => clone_any (some ⟨b, off + k, none⟩) (s.inn.length - k) (cap - k) (s.inn.drop k) W (hI W hW) hdl (by omega) (fun h => by cases h)
      have hcl := hcl w.drew rfl
      have hkn : (k : Int) ≤ s.inn.length := by omega
      have hkc : (k : Int) ≤ cap := by omega
      have hncI : (s.inn.length : Int) ≤ cap := by omega
      have hnl : s.inn.length ≤ 1048576 := hl
      have hkn' : k ≤ s.inn.length := by omega
      clear hrd hrl hr hl hk hoi HTail hdl hI
      have hS0 : ∀ wx : World, Below w.drew.heap.size w.drew wx → wx.cell? ⟨g, 10, none⟩ = some (.slice (some ⟨b, off, none⟩) s.inn.length cap) ∧ wx.cell? ⟨g, 11, none⟩ = some (.int .i64 k) := fun wx hb => ⟨(hb.cell (p := ⟨g, 10, none⟩) hblk).trans c10, (hb.cell (p := ⟨g, 11, none⟩) hblk).trans c11⟩
      have HS0 := Lib.hid hS0
      clear hS0
      go_enter Try.func27, Try.ntmps27
      go_wp2
      go_region_held3 (fun w' => w'.cell? ⟨g, 10, none⟩ = some (.slice (some ⟨b, off, none⟩) s.inn.length cap) ∧ w'.cell? ⟨g, 11, none⟩ = some (.int .i64 k)) (first | (with_reducible exact hS5) | go_keep) (first
        | (have hm := ho5; go_at_call 49; refine (clip_any A5 _ c5 w5 hcl5.1 hcl5.2).mono ?_; rintro e w6 ⟨rfl, rfl⟩)
        | (go_at_call 50; refine hcl.mono ?_; rintro e w5 ⟨A5, c5, rfl, ho5, hb5⟩; have hcl5 := ho5.capLe; have hS5 := HS0.out w5 hb5))
      have k10 := hS5.1
      have k11 := hS5.2
      have f11 := (h.cel.drew.below hb5 h.blk).frozen 11
      clear hS5
      go_wp2
      go_ret
      exact HT.out w.drew w5 A5 c5 _ rfl ho5 rfl hb5 rfl rfl rfl
end Go.Proofs.Ytoeipgbnjcgbjaa
/- Two ends of a stream in memory that share nothing; what a call on the one leaves of both. -/
namespace Go.Proofs.Ytoeipgbnjcgbjaa
open Go.RowKit
set_option linter.unusedVariables false

structure Two (B g1 g2 : Nat) (w : World) (s1 s2 : En) (vo1 vi1 vo2 vi2 : Value) : Prop where
  e1 : EnAt g1 w s1 vo1 vi1
  e2 : EnAt g2 w s2 vo2 vi2
  dis : ∀ k, Fp g1 vo1 vi1 k → ¬ Fp g2 vo2 vi2 k
  low1 : ∀ k, Fp g1 vo1 vi1 k → B ≤ k
  low2 : ∀ k, Fp g2 vo2 vi2 k → B ≤ k
section
variable {B g1 g2 : Nat} {w w' : World} {s1 s1' s2 : En} {vo1 vi1 vo1' vi1' vo2 vi2 : Value}
theorem Two.swap (h : Two B g1 g2 w s1 s2 vo1 vi1 vo2 vi2) : Two B g2 g1 w s2 s1 vo2 vi2 vo1 vi1 := ⟨h.e2, h.e1, fun k h2 h1 => h.dis k h1 h2, h.low2, h.low1⟩
theorem Two.size (h : Two B g1 g2 w s1 s2 vo1 vi1 vo2 vi2) : B ≤ w.heap.size := Nat.le_trans (h.low1 g1 (.inl rfl)) (Nat.le_of_lt h.e1.blk)
theorem Two.step {S : Nat → Prop} (h : Two B g1 g2 w s1 s2 vo1 vi1 vo2 vi2) (hE : EnAt g1 w' s1' vo1' vi1') (hC : Chg S w w') (hS : ∀ k, k < w.heap.size → S k → Fp g1 vo1 vi1 k) (hFo : Fresh w vo1 vo1') (hFi : Fresh w vi1 vi1') :
    Two B g1 g2 w' s1' s2 vo1' vi1' vo2 vi2 := by
  have key : ∀ k, Fp g1 vo1' vi1' k → Fp g1 vo1 vi1 k ∨ w.heap.size ≤ k := by
    rintro k (rfl | hk | hk)
    · exact .inl (.inl rfl)
    · rcases hFo with hF | hF
      · exact .inl (.inr (.inl (by rw [← hF]; exact hk)))
      · exact .inr (hF k hk)
    · rcases hFi with hF | hF
      · exact .inl (.inr (.inr (by rw [← hF]; exact hk)))
      · exact .inr (hF k hk)
  refine ⟨hE, h.e2.chg hC (fun k hk hs => h.dis k (hS k (h.e2.fp_lt k hk) hs) hk), fun k h1 h2 => ?_, fun k hk => ?_, h.low2⟩
  · rcases key k h1 with h1 | h1
    · exact h.dis k h1 h2
    · have := h.e2.fp_lt k h2; omega
  · rcases key k hk with h1 | h1
    · exact h.low1 k h1
    · exact Nat.le_trans h.size h1
theorem Fresh.refl (w : World) (v : Value) : Fresh w v v := .inl rfl
theorem Two.low {S : Nat → Prop} (h : Two B g1 g2 w s1 s2 vo1 vi1 vo2 vi2) (hC : Chg S w w') (hS : ∀ k, k < w.heap.size → S k → Fp g1 vo1 vi1 k) : Below B w w' :=
  hC.below h.size (fun k hk hs => by
    have hsz := h.size
    have := h.low1 k (hS k (by omega) hs)
    omega)
theorem Two.take {e : Ending} (h : Two B g1 g2 w s1 s2 vo1 vi1 vo2 vi2) (hp : TakePost g1 s1' vo1 vi1 w e w') : e = .returned (.tuple #[]) ∧ ∃ vi', Two B g1 g2 w' s1' s2 vo1 vi' vo2 vi2 ∧ Chg (Fp g1 vo1 vi1) w w' ∧ Below B w w' := by
  obtain ⟨he, vi', hE, hC, hF⟩ := hp
  have hS : ∀ k, k < w.heap.size → (k = g1 ∨ vi1.ownBlock = some k) → Fp g1 vo1 vi1 k := fun k _ h => h.elim .inl (fun h => .inr (.inr h))
  exact ⟨he, vi', h.step hE hC hS (Fresh.refl _ _) hF, hC.mono hS, h.low hC hS⟩
theorem Two.same {s1' : En} (h : Two B g1 g2 w s1 s2 vo1 vi1 vo2 vi2) (hE : EnAt g1 w' s1' vo1 vi1) (hC : Chg (fun k => k = g1) w w') : Two B g1 g2 w' s1' s2 vo1 vi1 vo2 vi2 ∧ Chg (Fp g1 vo1 vi1) w w' ∧ Below B w w' := by
  have hS : ∀ k, k < w.heap.size → (k = g1) → Fp g1 vo1 vi1 k := fun k _ h => .inl h
  exact ⟨h.step hE hC hS (Fresh.refl _ _) (Fresh.refl _ _), hC.mono hS, h.low hC hS⟩
theorem Two.write {b : List Int} {e : Ending} (h : Two B g1 g2 w s1 s2 vo1 vi1 vo2 vi2) (hp : WrPost g1 s1 vo1 vi1 b w e w') : ∃ vo', e = .returned (.int .i64 (writeS s1 b).1) ∧ Two B g1 g2 w' (writeS s1 b).2 s2 vo' vi1 vo2 vi2 ∧ Chg (Fp g1 vo1 vi1) w w' ∧ Below B w w' := by
  obtain ⟨vo', he, hE, hC, hF⟩ := hp
  have hS : ∀ k, k < w.heap.size → (k = g1 ∨ vo1.ownBlock = some k) → Fp g1 vo1 vi1 k := fun k _ h => h.elim .inl (fun h => .inr (.inl h))
  exact ⟨vo', he, h.step hE hC hS hF (Fresh.refl _ _), hC.mono hS, h.low hC hS⟩
/-- What makes memory alone leaves both ends. -/
theorem Two.below (h : Two B g1 g2 w s1 s2 vo1 vi1 vo2 vi2) (hb : Below w.heap.size w w') : Two B g1 g2 w' s1 s2 vo1 vi1 vo2 vi2 := ⟨h.e1.below hb, h.e2.below hb, h.dis, h.low1, h.low2⟩
theorem Two.chg {S : Nat → Prop} (h : Two B g1 g2 w s1 s2 vo1 vi1 vo2 vi2) (hc : Chg S w w') (hS : ∀ k, S k → ¬ Fp g1 vo1 vi1 k ∧ ¬ Fp g2 vo2 vi2 k) : Two B g1 g2 w' s1 s2 vo1 vi1 vo2 vi2 :=
  ⟨h.e1.chg hc (fun k hk hs => (hS k hs).1 hk), h.e2.chg hc (fun k hk hs => (hS k hs).2 hk), h.dis, h.low1, h.low2⟩
theorem Two.drewN (h : Two B g1 g2 w s1 s2 vo1 vi1 vo2 vi2) (n : Nat) : Two B g1 g2 (w.drewN n) s1 s2 vo1 vi1 vo2 vi2 := ⟨h.e1.drewN n, h.e2.drewN n, h.dis, h.low1, h.low2⟩
end
/-- Two new ends. -/
theorem Two.new {W w1 w2 : World} {a b c d : Int} {e1 e2 : Ending} (h1 : EnNew W (newEnd a b) e1 w1) (h2 : EnNew w1 (newEnd c d) e2 w2) :
    Two W.heap.size W.heap.size w1.heap.size w2 (newEnd a b) (newEnd c d) (.slice none 0 0) (.slice none 0 0) (.slice none 0 0) (.slice none 0 0) ∧ Below W.heap.size W w2 := by
  obtain ⟨_, hA, hb1⟩ := h1
  obtain ⟨_, hL, hb2⟩ := h2
  have hl := hA.blk
  refine ⟨⟨hA.below hb2, hL, ?_, ?_, ?_⟩, hb1.trans (hb2.mono hb1.size)⟩
  · rintro k (rfl | h | h) (h' | h' | h')
    · omega
    all_goals first | (cases h) | (cases h')
  · rintro k (rfl | h | h)
    · exact Nat.le_refl _
    all_goals cases h
  · rintro k (rfl | h | h)
    · exact hb1.size
    all_goals cases h
end Go.Proofs.Ytoeipgbnjcgbjaa
/- Plain laws on what two ends send each other: what comes is a beginning of what was written. -/
namespace Go.Proofs.Ytoeipgbnjcgbjaa
open Go.RowKit
set_option linter.unusedVariables false

/-- A datagram that an end with these bytes to send may have sent. -/
def SentBy (out : List Int) (d : List Int) : Prop :=
  ∃ q, goodSg q ∧ Bytes q.data ∧ d = segL q ∧ (q.t = 3 → ∃ p : Nat, q.seq = p ∧ q.data = (out.drop p).take q.data.length ∧ p + q.data.length ≤ out.length)
theorem SentBy.more {out : List Int} {d : List Int} (h : SentBy out d) (b : List Int) : SentBy (out ++ b) d := by
  obtain ⟨q, h1, h2, h3, h4⟩ := h
  refine ⟨q, h1, h2, h3, fun ht => ?_⟩
  obtain ⟨p, h5, h6, h7⟩ := h4 ht
  refine ⟨p, h5, ?_, by rw [List.length_append]; omega⟩
  rw [List.drop_append_of_le_length (by omega), List.take_append_of_le_length (by rw [List.length_drop]; omega)]
  exact h6
theorem SentBy.plain (out : List Int) (t id seq ack : Int) (ht : 1 ≤ t ∧ t ≤ 5) (h3 : t ≠ 3) (hid : 0 ≤ id ∧ id < 4294967296) (hs : 0 ≤ seq ∧ seq < 4294967296) (ha : 0 ≤ ack ∧ ack < 4294967296) : SentBy out (segL ⟨t, id, seq, ack, []⟩) :=
  ⟨⟨t, id, seq, ack, []⟩, ⟨ht.1, ht.2, hid, hs, ha, by simp⟩, (fun x h => by cases h), rfl, fun h => absurd h h3⟩
theorem dataSeg_sent (s : En) (p : Nat) (h : EnOk s) (hp : p ≤ s.out.length) : SentBy s.out (dataSeg s p) := by
  have hl := h.outl
  have hn : pieceN s p ≤ 400 ∧ pieceN s p ≤ s.out.length - p := ⟨Nat.min_le_left _ _, Nat.min_le_right _ _⟩
  have hdl : ((s.out.drop p).take (pieceN s p)).length = pieceN s p := by rw [List.length_take, List.length_drop]; omega
  refine ⟨_, ⟨show (1 : Int) ≤ 3 by decide, show (3 : Int) ≤ 5 by decide, h.id, ⟨by simp only []; omega, by simp only []; omega⟩, by simp only []; omega, by simp only []; omega⟩, fun x hx => h.outb x (List.mem_of_mem_drop (List.mem_of_mem_take hx)), rfl, fun _ => ⟨p, rfl, ?_, ?_⟩⟩
  · simp only [hdl]
  · simp only [hdl]; omega
theorem dataL_sent (s : En) (h : EnOk s) : ∀ (f p : Nat), p ≤ s.out.length → ∀ d ∈ (dataL s f p).1, SentBy s.out d := by
  intro f
  induction f with
  | zero => intro p _ d hd; cases hd
  | succ f ih =>
    intro p hp d hd
    rw [dataL] at hd
    split at hd
    · have hn : pieceN s p ≤ s.out.length - p := Nat.min_le_right _ _
      rcases List.mem_cons.1 hd with rfl | hd
      · exact dataSeg_sent s p h hp
      · exact ih (p + pieceN s p) (by omega) d hd
    · cases hd
theorem sends1_out (s : En) (now : Int) : (sends1 s now).out = s.out ∧ (sends1 s now).inn = s.inn ∧ (sends1 s now).read = s.read ∧ (sends1 s now).id = s.id ∧ (sends1 s now).st = s.st := by unfold sends1; split <;> exact ⟨rfl, rfl, rfl, rfl, rfl⟩
theorem sends2_out (s : En) : (sends2 s).2.out = s.out ∧ (sends2 s).2.inn = s.inn ∧ (sends2 s).2.read = s.read ∧ (sends2 s).2.id = s.id ∧ (sends2 s).2.st = s.st := by unfold sends2; split <;> exact ⟨rfl, rfl, rfl, rfl, rfl⟩
theorem sends4_out (s : En) : (sends4 s).2.out = s.out ∧ (sends4 s).2.inn = s.inn ∧ (sends4 s).2.read = s.read ∧ (sends4 s).2.id = s.id ∧ (sends4 s).2.st = s.st := by unfold sends4; split <;> exact ⟨rfl, rfl, rfl, rfl, rfl⟩
theorem sends5_out (b : Bool) (s : En) (now : Int) : (sends5 b s now).out = s.out ∧ (sends5 b s now).inn = s.inn ∧ (sends5 b s now).read = s.read ∧ (sends5 b s now).id = s.id ∧ (sends5 b s now).st = s.st := by unfold sends5; split <;> exact ⟨rfl, rfl, rfl, rfl, rfl⟩
theorem sendsS_out (s : En) (now : Int) : (sendsS s now).2.out = s.out ∧ (sendsS s now).2.inn = s.inn ∧ (sendsS s now).2.read = s.read ∧ (sendsS s now).2.id = s.id ∧ (sendsS s now).2.st = s.st := by
  have h1 := sends1_out s now
  have h2 := sends2_out (sends1 s now)
  have h3 := sends4_out (sends3 (sends2 (sends1 s now)).2).2
  have h4 := sends5_out (!waitsB (sends2 (sends1 s now)).2 && (!(sends3 (sends2 (sends1 s now)).2).1.isEmpty || !(sends4 (sends3 (sends2 (sends1 s now)).2).2).1.isEmpty)) (sends4 (sends3 (sends2 (sends1 s now)).2).2).2 now
  exact ⟨h4.1.trans (h3.1.trans (h2.1.trans h1.1)), h4.2.1.trans (h3.2.1.trans (h2.2.1.trans h1.2.1)), h4.2.2.1.trans (h3.2.2.1.trans (h2.2.2.1.trans h1.2.2.1)), h4.2.2.2.1.trans (h3.2.2.2.1.trans (h2.2.2.2.1.trans h1.2.2.2.1)), h4.2.2.2.2.trans (h3.2.2.2.2.trans (h2.2.2.2.2.trans h1.2.2.2.2))⟩
theorem sendsS_sent (s : En) (now : Int) (h : EnOk s) (hn : (Lit.int .i64 now).wf = true) : ∀ d ∈ (sendsS s now).1, SentBy s.out d := by
  have k1 := sends1_ok s now h hn
  have k2 := sends2_ok _ k1
  have k3 := sends3_ok _ k2
  have e1 := sends1_out s now
  have e2 := sends2_out (sends1 s now)
  intro d hd
  unfold sendsS at hd
  simp only at hd
  rcases List.mem_append.1 hd with hd | hd
  · rcases List.mem_append.1 hd with hd | hd
    · unfold sends2 at hd
      split at hd
      · rw [List.mem_singleton.1 hd]
        have := k1.innl
        exact SentBy.plain _ _ _ _ _ (by decide) (by decide) k1.id (by decide) (by split <;> omega)
      · cases hd
    · have := dataL_sent _ k2 _ _ (by have := k2.una; have := k2.next; omega) d hd
      rw [e2.1, e1.1] at this
      exact this
  · unfold sends4 at hd
    split at hd
    · rw [List.mem_singleton.1 hd]
      have h1 := k3.next
      have h2 := k3.una
      have h3 := k3.outl
      exact SentBy.plain _ _ _ _ _ (by decide) (by decide) k3.id (by omega) (by decide)
    · cases hd
theorem outS_sent (s : En) (now : Int) (h : EnOk s) (hn : (Lit.int .i64 now).wf = true) : ∀ d ∈ (outS s now).1, SentBy s.out d := by
  intro d hd
  unfold outS at hd
  split at hd
  · split at hd
    · rw [List.mem_singleton.1 hd]
      exact SentBy.plain _ _ _ _ _ (by decide) (by decide) h.id (by decide) (by decide)
    · cases hd
  split at hd
  · exact sendsS_sent s now h hn d hd
  · cases hd
theorem outS_out (s : En) (now : Int) : (outS s now).2.out = s.out ∧ (outS s now).2.inn = s.inn ∧ (outS s now).2.read = s.read ∧ (outS s now).2.id = s.id ∧ (outS s now).2.st = s.st := by
  unfold outS
  split
  · split <;> exact ⟨rfl, rfl, rfl, rfl, rfl⟩
  split
  · exact sendsS_out s now
  · exact ⟨rfl, rfl, rfl, rfl, rfl⟩
theorem ackedS_out (s : En) (n now : Int) : (ackedS s n now).out = s.out ∧ (ackedS s n now).inn = s.inn ∧ (ackedS s n now).read = s.read ∧ (ackedS s n now).id = s.id ∧ (ackedS s n now).st = s.st := by
  unfold ackedS
  split
  · exact ⟨rfl, rfl, rfl, rfl, rfl⟩
  · split <;> exact ⟨rfl, rfl, rfl, rfl, rfl⟩
theorem openS_out (s : En) (q : Sg) (now : Int) : (openS s q now).out = s.out ∧ (openS s q now).read = s.read ∧ (openS s q now).id = s.id := by
  unfold openS
  split
  · exact ⟨rfl, rfl, rfl⟩
  split
  · have := ackedS_out s q.ack now; exact ⟨this.1, this.2.2.1, this.2.2.2.1⟩
  split
  · unfold dataS; split <;> exact ⟨rfl, rfl, rfl⟩
  split
  · split <;> exact ⟨rfl, rfl, rfl⟩
  · exact ⟨rfl, rfl, rfl⟩
theorem stepS_out (s : En) (q : Sg) (now : Int) : (stepS s q now).out = s.out ∧ (stepS s q now).read = s.read ∧ (stepS s q now).id = s.id := by
  unfold stepS
  split
  · exact ⟨rfl, rfl, rfl⟩
  split
  · exact ⟨rfl, rfl, rfl⟩
  split
  · unfold dialS; split <;> exact ⟨rfl, rfl, rfl⟩
  split
  · unfold listenS; split <;> exact ⟨rfl, rfl, rfl⟩
  · exact openS_out s q now
theorem inS_out (s : En) (b : List Int) (now : Int) : (inS s b now).out = s.out ∧ (inS s b now).read = s.read ∧ (inS s b now).id = s.id := by
  unfold inS
  split
  · exact stepS_out s _ now
  · exact ⟨rfl, rfl, rfl⟩
theorem prefix_grow {α : Type} {l m : List α} {d : List α} {p : Nat} (h : l <+: m) (hp : p = l.length) (hd : d = (m.drop p).take d.length) : l ++ d <+: m := by
  obtain ⟨t, rfl⟩ := h
  subst hp
  rw [List.drop_left] at hd
  exact ⟨t.drop d.length, by rw [List.append_assoc]; congr 1; conv => lhs; lhs; rw [hd]
                             exact List.take_append_drop _ _⟩
theorem stepS_prefix (s : En) (q : Sg) (now : Int) (out : List Int) (hq : q.t = 3 → ∃ p : Nat, q.seq = p ∧ q.data = (out.drop p).take q.data.length ∧ p + q.data.length ≤ out.length) (hp : s.inn <+: out) : (stepS s q now).inn <+: out := by
  unfold stepS
  split
  · exact hp
  split
  · exact hp
  split
  · unfold dialS; split <;> exact hp
  split
  · unfold listenS; split <;> exact hp
  unfold openS
  split
  · exact hp
  split
  · rw [(ackedS_out s q.ack now).2.1]; exact hp
  split
  · rename_i ht
    obtain ⟨p, h1, h2, h3⟩ := hq ht
    unfold dataS
    split
    · rename_i hc
      exact prefix_grow hp (by omega) h2
    · exact hp
  split
  · split <;> exact hp
  · exact hp
/-- What comes of what was sent is a beginning of what was written. -/
theorem inS_prefix (s : En) (d : List Int) (now : Int) (out : List Int) (hd : SentBy out d) (hp : s.inn <+: out) : (inS s d now).inn <+: out := by
  obtain ⟨q, h1, h2, rfl, h4⟩ := hd
  have h := parse_seg q h1 h2
  unfold inS
  rw [if_pos h.1, h.2]
  exact stepS_prefix s q now out h4 hp
end Go.Proofs.Ytoeipgbnjcgbjaa
/- Two ends, the datagrams on the way to each, what was written and read: how they lie in memory in StreamOrder, and what each statement leaves of them. -/
namespace Go.Proofs.Ytoeipgbnjcgbjaa
open Go.RowKit
set_option linter.unusedVariables false

def DgAt (w : World) (f : Nat → Nat) (u : Value) (d : List Int) : Prop :=
  ∃ A, u = .slice A d.length d.length ∧ OwnS w 0 5 1 (.slice A d.length d.length) d.length (d.map (Value.int .u8)) ∧ ∀ b, (Value.slice A d.length d.length).ownBlock = some b → f b = 50
def Els (w : World) (f : Nat → Nat) : List Value → List (List Int) → Prop
  | [], [] => True
  | u :: us, d :: ds => DgAt w f u d ∧ Els w f us ds
  | _, _ => False
section
variable {w w' : World} {f f' : Nat → Nat}
theorem Els.len : ∀ {us : List Value} {ds : List (List Int)}, Els w f us ds → us.length = ds.length
  | [], [], _ => rfl
  | u :: us, d :: ds, h => by simp [Els.len h.2]
  | [], d :: ds, h => h.elim
  | u :: us, [], h => h.elim
theorem Els.append : ∀ {us us' : List Value} {ds ds' : List (List Int)}, Els w f us ds → Els w f us' ds' → Els w f (us ++ us') (ds ++ ds')
  | [], _, [], _, _, h' => h'
  | u :: us, _, d :: ds, _, h, h' => ⟨h.1, Els.append h.2 h'⟩
  | [], _, d :: ds, _, h, _ => h.elim
  | u :: us, _, [], _, h, _ => h.elim
theorem Els.imp (hi : ∀ u d, DgAt w f u d → DgAt w' f' u d) : ∀ {us : List Value} {ds : List (List Int)}, Els w f us ds → Els w' f' us ds
  | [], [], _ => trivial
  | u :: us, d :: ds, h => ⟨hi _ _ h.1, Els.imp hi h.2⟩
  | [], d :: ds, h => h.elim
  | u :: us, [], h => h.elim
theorem Els.take : ∀ (n : Nat) {us : List Value} {ds : List (List Int)}, Els w f us ds → Els w f (us.take n) (ds.take n)
  | 0, _, _, _ => by simp [Els]
  | n + 1, [], [], _ => by simp [Els]
  | n + 1, u :: us, d :: ds, h => ⟨h.1, Els.take n h.2⟩
  | n + 1, [], d :: ds, h => h.elim
  | n + 1, u :: us, [], h => h.elim
theorem Els.drop : ∀ (n : Nat) {us : List Value} {ds : List (List Int)}, Els w f us ds → Els w f (us.drop n) (ds.drop n)
  | 0, _, _, h => by simpa using h
  | n + 1, [], [], _ => by simp [Els]
  | n + 1, u :: us, d :: ds, h => by simpa using Els.drop n h.2
  | n + 1, [], d :: ds, h => h.elim
  | n + 1, u :: us, [], h => h.elim
theorem Els.get : ∀ (n : Nat) {us : List Value} {ds : List (List Int)}, Els w f us ds → n < ds.length → ∃ u, us[n]? = some u ∧ DgAt w f u (ds.getD n [])
  | 0, u :: us, d :: ds, h, _ => ⟨u, rfl, h.1⟩
  | n + 1, u :: us, d :: ds, h, hn => by simpa using Els.get n h.2 (by simpa using hn)
  | 0, [], [], _, hn => by simp at hn
  | n + 1, [], [], _, hn => by simp at hn
  | 0, [], d :: ds, h, _ => h.elim
  | n + 1, [], d :: ds, h, _ => h.elim
  | 0, u :: us, [], h, _ => h.elim
  | n + 1, u :: us, [], h, _ => h.elim
theorem Els.of_get : ∀ {us : List Value} {ds : List (List Int)}, us.length = ds.length → (∀ i, i < ds.length → ∃ u, us[i]? = some u ∧ DgAt w f u (ds.getD i [])) → Els w f us ds
  | [], [], _, _ => trivial
  | u :: us, d :: ds, hl, h => by
    refine ⟨?_, Els.of_get (by simpa using hl) (fun i hi => ?_)⟩
    · obtain ⟨u', h1, h2⟩ := h 0 (by simp)
      simp at h1
      subst h1
      simpa using h2
    · obtain ⟨u', h1, h2⟩ := h (i + 1) (by simpa using hi)
      exact ⟨u', by simpa using h1, by simpa using h2⟩
  | [], d :: ds, hl, _ => by simp at hl
  | u :: us, [], hl, _ => by simp at hl
theorem Els.one {u : Value} {d : List Int} (h : DgAt w f u d) : Els w f [u] [d] := ⟨h, trivial⟩
theorem DgAt.lt {u : Value} {d : List Int} (h : DgAt w f u d) : ∀ b, u.ownBlock = some b → b < w.heap.size := by
  obtain ⟨A, rfl, h2, h3⟩ := h
  exact fun b hb => (h2.lt b hb).2
theorem DgAt.move {S : Nat → Prop} {u : Value} {d : List Int} (h : DgAt w f u d) (hc : Chg S w w') (hS : ∀ b, b < w.heap.size → S b → f b ≠ 50) (hf : ∀ b, b < w.heap.size → f' b = f b) : DgAt w' f' u d := by
  obtain ⟨A, rfl, h2, h3⟩ := h
  exact ⟨A, rfl, h2.chg hc (fun b hb hs => hS b (h2.lt b hb).2 hs (h3 b hb)), fun b hb => (hf b (h2.lt b hb).2).trans (h3 b hb)⟩
theorem DgAt.one {u : Value} {d : List Int} (h : DgAt w f u d) : u.oneCell' = true := by
  obtain ⟨A, rfl, _⟩ := h
  rfl
theorem Els.one_ : ∀ {us : List Value} {ds : List (List Int)}, Els w f us ds → ∀ u ∈ us, u.oneCell' = true
  | [], [], _, _, h => by cases h
  | u :: us, d :: ds, h, v, hv => by
    rcases List.mem_cons.1 hv with rfl | hv
    · exact h.1.one
    · exact Els.one_ h.2 v hv
  | [], d :: ds, h, _, _ => h.elim
  | u :: us, [], h, _, _ => h.elim
end

/-- One side: its end, what it wrote and read, the datagrams on the way to it. -/
structure Sd where
  g : Nat
  s : En
  vo : Value
  vi : Value
  vt : Value
  tl : List Int
  vr : Value
  rl : List Int
  vw : Value
  way : List (List Int)
structure SideAt (w : World) (f : Nat → Nat) (i : Nat) (d : Sd) : Prop where
  e : EnAt d.g w d.s d.vo d.vi
  ok : EnOk d.s
  fin : EnFin d.s
  t : OwnS w 0 5 1 d.vt d.tl.length (d.tl.map (Value.int .u8))
  r : OwnS w 0 5 1 d.vr d.rl.length (d.rl.map (Value.int .u8))
  wo : ∃ vs, OwnS w 0 22 1 d.vw d.way.length vs ∧ Els w f vs d.way
  fe : ∀ b, Fp d.g d.vo d.vi b → f b = 10 + i
  ft : ∀ b, d.vt.ownBlock = some b → f b = 20 + i
  fr : ∀ b, d.vr.ownBlock = some b → f b = 30 + i
  fw : ∀ b, d.vw.ownBlock = some b → f b = 40 + i
structure Bk where
  eb : Nat
  wb : Nat
  tb : Nat
  rb : Nat
def pairF {α : Type} (k : Nat) (x y : α) (i : Nat) : α := if i = k then x else y
def ptrOf (d : Sd) : Value := .pointer (some ⟨d.g, 0, none⟩)
structure Mem (tE tW tT : TypeId) (B : Nat) (W w : World) (f : Nat → Nat) (k j : Nat) (q : Bk) (a b : Sd) : Prop where
  sa : SideAt w f k a
  sb : SideAt w f j b
  ce : Cel w q.eb tE 2 (pairF k (ptrOf a) (ptrOf b))
  cw : Cel w q.wb tW 2 (pairF k a.vw b.vw)
  ct : Cel w q.tb tT 2 (pairF k a.vt b.vt)
  cr : Cel w q.rb tT 2 (pairF k a.vr b.vr)
  fe : f q.eb = 1
  fw : f q.wb = 2
  ft : f q.tb = 3
  fr : f q.rb = 4
  low : ∀ x, f x ≠ 0 → B ≤ x
  bel : Below B W w
  kj : (k = 0 ∧ j = 1) ∨ (k = 1 ∧ j = 0)
/-- A block that the walk holds beside: the round's own operation. -/
def Keep (w : World) (f : Nat → Nat) (w' : World) (f' : Nat → Nat) : Prop := ∀ x T n F, Cel w x T n F → f x = 5 → Cel w' x T n F ∧ f' x = 5
theorem Keep.trans {w w1 w2 : World} {f f1 f2 : Nat → Nat} (h : Keep w f w1 f1) (h' : Keep w1 f1 w2 f2) : Keep w f w2 f2 := fun x T n F hc hf => by
  obtain ⟨h1, h2⟩ := h x T n F hc hf
  exact h' x T n F h1 h2
section
variable {tE tW tT : TypeId} {B : Nat} {W w w' : World} {f f' : Nat → Nat} {k j i : Nat} {q : Bk} {a b d : Sd}
theorem pair_swap {α : Type} {x y : α} (h : (k = 0 ∧ j = 1) ∨ (k = 1 ∧ j = 0)) : ∀ i, i < 2 → pairF k x y i = pairF j y x i := by
  intro i hi
  unfold pairF
  rcases h with ⟨rfl, rfl⟩ | ⟨rfl, rfl⟩ <;> (have : i = 0 ∨ i = 1 := by omega) <;> rcases this with rfl | rfl <;> rfl
theorem Mem.swap (h : Mem tE tW tT B W w f k j q a b) : Mem tE tW tT B W w f j k q b a :=
  ⟨h.sb, h.sa, h.ce.congr (pair_swap h.kj), h.cw.congr (pair_swap h.kj), h.ct.congr (pair_swap h.kj), h.cr.congr (pair_swap h.kj), h.fe, h.fw, h.ft, h.fr, h.low, h.bel, by have := h.kj; omega⟩
theorem SideAt.move {S : Nat → Prop} (h : SideAt w f i d) (hc : Chg S w w') (hS : ∀ b, b < w.heap.size → S b → f b ≠ 10 + i ∧ f b ≠ 20 + i ∧ f b ≠ 30 + i ∧ f b ≠ 40 + i ∧ f b ≠ 50) (hf : ∀ b, b < w.heap.size → f' b = f b) : SideAt w' f' i d := by
  obtain ⟨vs, ho, hE⟩ := h.wo
  refine ⟨h.e.chg hc (fun b hb hs => (hS b (h.e.fp_lt b hb) hs).1 (h.fe b hb)), h.ok, h.fin, h.t.chg hc (fun b hb hs => (hS b (h.t.lt b hb).2 hs).2.1 (h.ft b hb)), h.r.chg hc (fun b hb hs => (hS b (h.r.lt b hb).2 hs).2.2.1 (h.fr b hb)),
    ⟨vs, ho.chg hc (fun b hb hs => (hS b (ho.lt b hb).2 hs).2.2.2.1 (h.fw b hb)), hE.imp fun u d hd => hd.move hc (fun b hb hs => (hS b hb hs).2.2.2.2) hf⟩, ?_, ?_, ?_, ?_⟩
  · exact fun b hb => (hf b (h.e.fp_lt b hb)).trans (h.fe b hb)
  · exact fun b hb => (hf b (h.t.lt b hb).2).trans (h.ft b hb)
  · exact fun b hb => (hf b (h.r.lt b hb).2).trans (h.fr b hb)
  · exact fun b hb => (hf b (ho.lt b hb).2).trans (h.fw b hb)
theorem Mem.cellE (h : Mem tE tW tT B W w f k j q a b) : w.cell? ⟨q.eb, k, none⟩ = some (.pointer (some ⟨a.g, 0, none⟩)) := by
  have := h.ce.cell k (by have := h.kj; omega)
  rwa [pairF, if_pos rfl] at this
theorem Mem.cellW (h : Mem tE tW tT B W w f k j q a b) : w.cell? ⟨q.wb, k, none⟩ = some a.vw := by
  have := h.cw.cell k (by have := h.kj; omega)
  rwa [pairF, if_pos rfl] at this
theorem Mem.cellT (h : Mem tE tW tT B W w f k j q a b) : w.cell? ⟨q.tb, k, none⟩ = some a.vt := by
  have := h.ct.cell k (by have := h.kj; omega)
  rwa [pairF, if_pos rfl] at this
theorem Mem.cellR (h : Mem tE tW tT B W w f k j q a b) : w.cell? ⟨q.rb, k, none⟩ = some a.vr := by
  have := h.cr.cell k (by have := h.kj; omega)
  rwa [pairF, if_pos rfl] at this
theorem Mem.blk (h : Mem tE tW tT B W w f k j q a b) : q.eb < w.heap.size ∧ q.wb < w.heap.size ∧ q.tb < w.heap.size ∧ q.rb < w.heap.size := ⟨h.ce.blk, h.cw.blk, h.ct.blk, h.cr.blk⟩
theorem Mem.size (h : Mem tE tW tT B W w f k j q a b) : B ≤ w.heap.size := Nat.le_of_lt (Nat.lt_of_le_of_lt (h.low q.eb (by rw [h.fe]; decide)) h.ce.blk)
/-- What makes memory alone leaves all. -/
theorem Mem.below (h : Mem tE tW tT B W w f k j q a b) (hb : Below w.heap.size w w') : Mem tE tW tT B W w' f k j q a b := by
  have hc : Chg (fun _ => False) w w' := Chg.of_below hb
  exact ⟨h.sa.move hc (fun _ _ h => h.elim) (fun _ _ => rfl), h.sb.move hc (fun _ _ h => h.elim) (fun _ _ => rfl), h.ce.chg hc id, h.cw.chg hc id, h.ct.chg hc id, h.cr.chg hc id, h.fe, h.fw, h.ft, h.fr, h.low, h.bel.trans (hb.mono h.size), h.kj⟩
theorem Keep.below (hb : Below w.heap.size w w') : Keep w f w' f := fun x T n F hc hf => ⟨hc.below hb hc.blk, hf⟩
/-- The labels, with one label for what is new. -/
def relab (f : Nat → Nat) (H l : Nat) (x : Nat) : Nat := if x < H then f x else l
theorem relab_old {H l x : Nat} (h : x < H) : relab f H l x = f x := if_pos h
theorem relab_new {H l x : Nat} (h : H ≤ x) : relab f H l x = l := if_neg (by omega)
/-- What a call on the one end leaves. -/
theorem Mem.step {S : Nat → Prop} {s' : En} {vo' vi' : Value} (h : Mem tE tW tT B W w f k j q a b) (hE : EnAt a.g w' s' vo' vi') (hok : EnOk s') (hfin : EnFin s') (hC : Chg S w w') (hS : ∀ x, x < w.heap.size → S x → Fp a.g a.vo a.vi x) (hFo : Fresh w a.vo vo') (hFi : Fresh w a.vi vi') :
    ∃ f', Mem tE tW tT B W w' f' k j q { a with s := s', vo := vo', vi := vi' } b ∧ Keep w f w' f' := by
  have hl : ∀ x, x < w.heap.size → S x → f x = 10 + k := fun x hx hs => h.sa.fe x (hS x hx hs)
  have hkj := h.kj
  have hold : ∀ x, x < w.heap.size → relab f w.heap.size (10 + k) x = f x := fun x hx => relab_old hx
  have hb := h.sb.move (f' := relab f w.heap.size (10 + k)) hC (fun x hx hs => by have := hl x hx hs; omega) hold
  have hz := h.blk
  obtain ⟨vs, ho, hv⟩ := h.sa.wo
  have key : ∀ {l : Nat} {x : Nat}, x < w.heap.size → f x = l → l ≠ 10 + k → ¬ S x := fun hx hf hne hs => hne ((hf.symm).trans (hl _ hx hs))
  refine ⟨relab f w.heap.size (10 + k), ⟨⟨hE, hok, hfin, ?_, ?_, ⟨vs, ?_, ?_⟩, ?_, ?_, ?_, ?_⟩, hb, h.ce.chg hC (key hz.1 h.fe (by omega)), h.cw.chg hC (key hz.2.1 h.fw (by omega)), h.ct.chg hC (key hz.2.2.1 h.ft (by omega)), h.cr.chg hC (key hz.2.2.2 h.fr (by omega)), (hold _ hz.1).trans h.fe, (hold _ hz.2.1).trans h.fw, (hold _ hz.2.2.1).trans h.ft, (hold _ hz.2.2.2).trans h.fr, ?_, ?_, hkj⟩, ?_⟩
  · exact h.sa.t.chg hC (fun x hx => key (h.sa.t.lt x hx).2 (h.sa.ft x hx) (by omega))
  · exact h.sa.r.chg hC (fun x hx => key (h.sa.r.lt x hx).2 (h.sa.fr x hx) (by omega))
  · exact ho.chg hC (fun x hx => key (ho.lt x hx).2 (h.sa.fw x hx) (by omega))
  · exact hv.imp fun u d hd => hd.move hC (fun x hx hs => by have := hl x hx hs; omega) hold
  · have fresh : ∀ {v v' : Value}, Fresh w v v' → (∀ x, v.ownBlock = some x → Fp a.g a.vo a.vi x) → ∀ x, v'.ownBlock = some x → relab f w.heap.size (10 + k) x = 10 + k := by
      intro v v' hF hv x hx
      rcases hF with hF | hF
      · have h1 := hv x (by rw [← hF]; exact hx)
        rw [hold x (h.sa.e.fp_lt x h1)]
        exact h.sa.fe x h1
      · exact relab_new (hF x hx)
    rintro x (rfl | hx | hx)
    · show relab f w.heap.size (10 + k) a.g = _
      rw [hold _ h.sa.e.blk]; exact h.sa.fe _ (.inl rfl)
    · exact fresh hFo (fun x hx => .inr (.inl hx)) x hx
    · exact fresh hFi (fun x hx => .inr (.inr hx)) x hx
  · exact fun x hx => (hold x (h.sa.t.lt x hx).2).trans (h.sa.ft x hx)
  · exact fun x hx => (hold x (h.sa.r.lt x hx).2).trans (h.sa.fr x hx)
  · exact fun x hx => (hold x (ho.lt x hx).2).trans (h.sa.fw x hx)
  · intro x hx
    by_cases hlt : x < w.heap.size
    · exact h.low x (by rwa [hold x hlt] at hx)
    · have := h.size; omega
  · exact h.bel.trans (hC.below h.size (fun x hx hs => by have h1 := h.size; have := hl x (by omega) hs; have := h.low x (by omega); omega))
  · intro x T n F hc hf
    exact ⟨hc.chg hC (key hc.blk hf (by omega)), (hold x hc.blk).trans hf⟩
/-- A row has grown (or is new), and its value was stored into the cell of the one side: what was written. -/
theorem Mem.rowT {v' : Value} {tl' : List Int} (h : Mem tE tW tT B W w f k j q a b) (hC : Chg (fun x => a.vt.ownBlock = some x) w w') (ho : OwnS w' 0 5 1 v' tl'.length (tl'.map (Value.int .u8))) (hF : Fresh w a.vt v') :
    ∃ f', Mem tE tW tT B W (w'.setCell ⟨q.tb, k, none⟩ v') f' k j q { a with vt := v', tl := tl' } b ∧ Keep w f (w'.setCell ⟨q.tb, k, none⟩ v') f' := by
  have hkj := h.kj
  have hz := h.blk
  have hC2 : Chg (fun x => a.vt.ownBlock = some x ∨ x = q.tb) w (w'.setCell ⟨q.tb, k, none⟩ v') := (hC.mono (fun x _ hx => .inl hx)).setCell (.inl (.inr rfl)) v'
  have hl : ∀ x, x < w.heap.size → (a.vt.ownBlock = some x ∨ x = q.tb) → f x = 20 + k ∨ f x = 3 := by
    rintro x hx (h1 | rfl)
    · exact .inl (h.sa.ft x h1)
    · exact .inr h.ft
  have hold : ∀ x, x < w.heap.size → relab f w.heap.size (20 + k) x = f x := fun x hx => relab_old hx
  have hb := h.sb.move (f' := relab f w.heap.size (20 + k)) hC2 (fun x hx hs => by have := hl x hx hs; omega) hold
  have hft : ∀ x, v'.ownBlock = some x → relab f w.heap.size (20 + k) x = 20 + k := by
    intro x hx
    rcases hF with hF | hF
    · rw [hF] at hx
      rw [hold x (h.sa.t.lt x hx).2]; exact h.sa.ft x hx
    · exact relab_new (hF x hx)
  obtain ⟨vs, how, hv⟩ := h.sa.wo
  have key : ∀ {l : Nat} {x : Nat}, x < w.heap.size → f x = l → l ≠ 20 + k → l ≠ 3 → ¬ (a.vt.ownBlock = some x ∨ x = q.tb) := fun hx hf h1 h2 hs => by have := hl _ hx hs; omega
  refine ⟨relab f w.heap.size (20 + k), ⟨⟨h.sa.e.chg hC2 (fun x hx => key (h.sa.e.fp_lt x hx) (h.sa.fe x hx) (by omega) (by omega)), h.sa.ok, h.sa.fin, ?_, ?_, ⟨vs, ?_, ?_⟩, ?_, hft, ?_, ?_⟩, hb, h.ce.chg hC2 (key hz.1 h.fe (by omega) (by omega)), h.cw.chg hC2 (key hz.2.1 h.fw (by omega) (by omega)), ?_, h.cr.chg hC2 (key hz.2.2.2 h.fr (by omega) (by omega)), (hold _ hz.1).trans h.fe, (hold _ hz.2.1).trans h.fw, (hold _ hz.2.2.1).trans h.ft, (hold _ hz.2.2.2).trans h.fr, ?_, ?_, hkj⟩, ?_⟩
  · refine ho.setFar (fun he => ?_) _
    have h1 := hft _ he
    rw [hold _ hz.2.2.1, h.ft] at h1
    omega
  · exact h.sa.r.chg hC2 (fun x hx => key (h.sa.r.lt x hx).2 (h.sa.fr x hx) (by omega) (by omega))
  · exact how.chg hC2 (fun x hx => key (how.lt x hx).2 (h.sa.fw x hx) (by omega) (by omega))
  · exact hv.imp fun u d hd => hd.move hC2 (fun x hx hs => by have := hl x hx hs; omega) hold
  · exact fun x hx => (hold x (h.sa.e.fp_lt x hx)).trans (h.sa.fe x hx)
  · exact fun x hx => (hold x (h.sa.r.lt x hx).2).trans (h.sa.fr x hx)
  · exact fun x hx => (hold x (how.lt x hx).2).trans (h.sa.fw x hx)
  · have h1 := (h.ct.chg hC (fun hs => by have h2 := h.sa.ft _ hs; rw [h.ft] at h2; omega)).set k v'
    refine h1.congr fun i _ => ?_
    unfold pairF
    by_cases e : i = k
    · rw [if_pos e, if_pos e]
    · rw [if_neg e, if_neg e, if_neg e]
  · intro x hx
    by_cases hlt : x < w.heap.size
    · exact h.low x (by rwa [hold x hlt] at hx)
    · have := h.size; omega
  · exact h.bel.trans (hC2.below h.size (fun x hx hs => by have h1 := h.size; have := hl x (by omega) hs; have := h.low x (by omega); omega))
  · intro x T n F hc hf
    exact ⟨hc.chg hC2 (key hc.blk hf (by omega) (by omega)), (hold x hc.blk).trans hf⟩
/-- The like of what was read. -/
theorem Mem.rowR {v' : Value} {rl' : List Int} (h : Mem tE tW tT B W w f k j q a b) (hC : Chg (fun x => a.vr.ownBlock = some x) w w') (ho : OwnS w' 0 5 1 v' rl'.length (rl'.map (Value.int .u8))) (hF : Fresh w a.vr v') :
    ∃ f', Mem tE tW tT B W (w'.setCell ⟨q.rb, k, none⟩ v') f' k j q { a with vr := v', rl := rl' } b ∧ Keep w f (w'.setCell ⟨q.rb, k, none⟩ v') f' := by
  have hkj := h.kj
  have hz := h.blk
  have hC2 : Chg (fun x => a.vr.ownBlock = some x ∨ x = q.rb) w (w'.setCell ⟨q.rb, k, none⟩ v') := (hC.mono (fun x _ hx => .inl hx)).setCell (.inl (.inr rfl)) v'
  have hl : ∀ x, x < w.heap.size → (a.vr.ownBlock = some x ∨ x = q.rb) → f x = 30 + k ∨ f x = 4 := by
    rintro x hx (h1 | rfl)
    · exact .inl (h.sa.fr x h1)
    · exact .inr h.fr
  have hold : ∀ x, x < w.heap.size → relab f w.heap.size (30 + k) x = f x := fun x hx => relab_old hx
  have hb := h.sb.move (f' := relab f w.heap.size (30 + k)) hC2 (fun x hx hs => by have := hl x hx hs; omega) hold
  have hft : ∀ x, v'.ownBlock = some x → relab f w.heap.size (30 + k) x = 30 + k := by
    intro x hx
    rcases hF with hF | hF
    · rw [hF] at hx
      rw [hold x (h.sa.r.lt x hx).2]; exact h.sa.fr x hx
    · exact relab_new (hF x hx)
  obtain ⟨vs, how, hv⟩ := h.sa.wo
  have key : ∀ {l : Nat} {x : Nat}, x < w.heap.size → f x = l → l ≠ 30 + k → l ≠ 4 → ¬ (a.vr.ownBlock = some x ∨ x = q.rb) := fun hx hf h1 h2 hs => by have := hl _ hx hs; omega
  refine ⟨relab f w.heap.size (30 + k), ⟨⟨h.sa.e.chg hC2 (fun x hx => key (h.sa.e.fp_lt x hx) (h.sa.fe x hx) (by omega) (by omega)), h.sa.ok, h.sa.fin, ?_, ?_, ⟨vs, ?_, ?_⟩, ?_, ?_, hft, ?_⟩, hb, h.ce.chg hC2 (key hz.1 h.fe (by omega) (by omega)), h.cw.chg hC2 (key hz.2.1 h.fw (by omega) (by omega)), h.ct.chg hC2 (key hz.2.2.1 h.ft (by omega) (by omega)), ?_, (hold _ hz.1).trans h.fe, (hold _ hz.2.1).trans h.fw, (hold _ hz.2.2.1).trans h.ft, (hold _ hz.2.2.2).trans h.fr, ?_, ?_, hkj⟩, ?_⟩
  · exact h.sa.t.chg hC2 (fun x hx => key (h.sa.t.lt x hx).2 (h.sa.ft x hx) (by omega) (by omega))
  · refine ho.setFar (fun he => ?_) _
    have h1 := hft _ he
    rw [hold _ hz.2.2.2, h.fr] at h1
    omega
  · exact how.chg hC2 (fun x hx => key (how.lt x hx).2 (h.sa.fw x hx) (by omega) (by omega))
  · exact hv.imp fun u d hd => hd.move hC2 (fun x hx hs => by have := hl x hx hs; omega) hold
  · exact fun x hx => (hold x (h.sa.e.fp_lt x hx)).trans (h.sa.fe x hx)
  · exact fun x hx => (hold x (h.sa.t.lt x hx).2).trans (h.sa.ft x hx)
  · exact fun x hx => (hold x (how.lt x hx).2).trans (h.sa.fw x hx)
  · have h1 := (h.cr.chg hC (fun hs => by have h2 := h.sa.fr _ hs; rw [h.fr] at h2; omega)).set k v'
    refine h1.congr fun i _ => ?_
    unfold pairF
    by_cases e : i = k
    · rw [if_pos e, if_pos e]
    · rw [if_neg e, if_neg e, if_neg e]
  · intro x hx
    by_cases hlt : x < w.heap.size
    · exact h.low x (by rwa [hold x hlt] at hx)
    · have := h.size; omega
  · exact h.bel.trans (hC2.below h.size (fun x hx hs => by have h1 := h.size; have := hl x (by omega) hs; have := h.low x (by omega); omega))
  · intro x T n F hc hf
    exact ⟨hc.chg hC2 (key hc.blk hf (by omega) (by omega)), (hold x hc.blk).trans hf⟩
/-- The datagrams on the way: the new row's label is the side's, what is new besides is a datagram's. -/
def relab2 (f : Nat → Nat) (H : Nat) (v : Value) (l : Nat) (x : Nat) : Nat := if x < H then f x else if v.ownBlock = some x then l else 50
theorem Mem.rowW {v' : Value} {vs' : List Value} {way' : List (List Int)} (h : Mem tE tW tT B W w f k j q a b) (hC : Chg (fun x => a.vw.ownBlock = some x) w w') (ho : OwnS w' 0 22 1 v' way'.length vs') (hF : Fresh w a.vw v') (hE : Els w' (relab2 f w.heap.size v' (40 + k)) vs' way') :
    ∃ f', Mem tE tW tT B W (w'.setCell ⟨q.wb, k, none⟩ v') f' k j q { a with vw := v', way := way' } b ∧ Keep w f (w'.setCell ⟨q.wb, k, none⟩ v') f' := by
  have hkj := h.kj
  have hz := h.blk
  have hC2 : Chg (fun x => a.vw.ownBlock = some x ∨ x = q.wb) w (w'.setCell ⟨q.wb, k, none⟩ v') := (hC.mono (fun x _ hx => .inl hx)).setCell (.inl (.inr rfl)) v'
  have hl : ∀ x, x < w.heap.size → (a.vw.ownBlock = some x ∨ x = q.wb) → f x = 40 + k ∨ f x = 2 := by
    rintro x hx (h1 | rfl)
    · exact .inl (h.sa.fw x h1)
    · exact .inr h.fw
  have hold : ∀ x, x < w.heap.size → relab2 f w.heap.size v' (40 + k) x = f x := fun x hx => if_pos hx
  have hb := h.sb.move (f' := relab2 f w.heap.size v' (40 + k)) hC2 (fun x hx hs => by have := hl x hx hs; omega) hold
  have hft : ∀ x, v'.ownBlock = some x → relab2 f w.heap.size v' (40 + k) x = 40 + k := by
    intro x hx
    obtain ⟨vs, how, hv⟩ := h.sa.wo
    rcases hF with hF | hF
    · have hx' := hx
      rw [hF] at hx'
      rw [hold x (how.lt x hx').2]; exact h.sa.fw x hx'
    · have := hF x hx
      unfold relab2
      rw [if_neg (by omega), if_pos hx]
  obtain ⟨vs, how, hv⟩ := h.sa.wo
  have key : ∀ {l : Nat} {x : Nat}, x < w.heap.size → f x = l → l ≠ 40 + k → l ≠ 2 → ¬ (a.vw.ownBlock = some x ∨ x = q.wb) := fun hx hf h1 h2 hs => by have := hl _ hx hs; omega
  have hfar : v'.ownBlock ≠ some q.wb := by
    intro he
    have h1 := hft _ he
    rw [hold _ hz.2.1, h.fw] at h1
    omega
  refine ⟨relab2 f w.heap.size v' (40 + k), ⟨⟨h.sa.e.chg hC2 (fun x hx => key (h.sa.e.fp_lt x hx) (h.sa.fe x hx) (by omega) (by omega)), h.sa.ok, h.sa.fin, ?_, ?_, ⟨vs', ho.setFar hfar _, ?_⟩, ?_, ?_, ?_, hft⟩, hb, h.ce.chg hC2 (key hz.1 h.fe (by omega) (by omega)), ?_, h.ct.chg hC2 (key hz.2.2.1 h.ft (by omega) (by omega)), h.cr.chg hC2 (key hz.2.2.2 h.fr (by omega) (by omega)), (hold _ hz.1).trans h.fe, (hold _ hz.2.1).trans h.fw, (hold _ hz.2.2.1).trans h.ft, (hold _ hz.2.2.2).trans h.fr, ?_, ?_, hkj⟩, ?_⟩
  · exact h.sa.t.chg hC2 (fun x hx => key (h.sa.t.lt x hx).2 (h.sa.ft x hx) (by omega) (by omega))
  · exact h.sa.r.chg hC2 (fun x hx => key (h.sa.r.lt x hx).2 (h.sa.fr x hx) (by omega) (by omega))
  · refine hE.imp fun u d hd => hd.move ((Chg.refl (fun x => x = q.wb) w').setCell (.inl rfl) _) (fun x hx hs => ?_) (fun _ _ => rfl)
    subst hs
    rw [hold _ hz.2.1, h.fw]
    decide
  · exact fun x hx => (hold x (h.sa.e.fp_lt x hx)).trans (h.sa.fe x hx)
  · exact fun x hx => (hold x (h.sa.t.lt x hx).2).trans (h.sa.ft x hx)
  · exact fun x hx => (hold x (h.sa.r.lt x hx).2).trans (h.sa.fr x hx)
  · have h1 := (h.cw.chg hC (fun hs => by have h2 := h.sa.fw _ hs; rw [h.fw] at h2; omega)).set k v'
    refine h1.congr fun i _ => ?_
    unfold pairF
    by_cases e : i = k
    · rw [if_pos e, if_pos e]
    · rw [if_neg e, if_neg e, if_neg e]
  · intro x hx
    by_cases hlt : x < w.heap.size
    · exact h.low x (by rwa [hold x hlt] at hx)
    · have := h.size; omega
  · exact h.bel.trans (hC2.below h.size (fun x hx hs => by have h1 := h.size; have := hl x (by omega) hs; have := h.low x (by omega); omega))
  · intro x T n F hc hf
    exact ⟨hc.chg hC2 (key hc.blk hf (by omega) (by omega)), (hold x hc.blk).trans hf⟩
end
/-- At the loop's head: two new ends, nothing written, read or sent. -/
def sd0 (g : Nat) (st : Int) : Sd := ⟨g, newEnd 3 st, .slice none 0 0, .slice none 0 0, .slice none 0 0, [], .slice none 0 0, [], .slice none 0 0, []⟩
def f0 (g0 g1 H : Nat) (x : Nat) : Nat := if x = g0 then 10 else if x = g1 then 11 else if x = H then 1 else if x = H + 1 then 2 else if x = H + 2 then 3 else if x = H + 3 then 4 else 0
theorem f0_1 {g0 g1 H : Nat} (h0 : g0 < H) (h1 : g1 < H) : f0 g0 g1 H H = 1 := by unfold f0; rw [if_neg (by omega), if_neg (by omega), if_pos rfl]
theorem f0_2 {g0 g1 H : Nat} (h0 : g0 < H) (h1 : g1 < H) : f0 g0 g1 H (H + 1) = 2 := by unfold f0; rw [if_neg (by omega), if_neg (by omega), if_neg (by omega), if_pos rfl]
theorem f0_3 {g0 g1 H : Nat} (h0 : g0 < H) (h1 : g1 < H) : f0 g0 g1 H (H + 1 + 1) = 3 := by unfold f0; rw [if_neg (by omega), if_neg (by omega), if_neg (by omega), if_neg (by omega), if_pos rfl]
theorem f0_4 {g0 g1 H : Nat} (h0 : g0 < H) (h1 : g1 < H) : f0 g0 g1 H (H + 1 + 1 + 1) = 4 := by unfold f0; rw [if_neg (by omega), if_neg (by omega), if_neg (by omega), if_neg (by omega), if_neg (by omega), if_pos rfl]
theorem f0_low {g0 g1 H x : Nat} (h0 : g0 < H) (h1 : g0 < g1) (hx : x < g0) : f0 g0 g1 H x = 0 := by unfold f0; rw [if_neg (by omega), if_neg (by omega), if_neg (by omega), if_neg (by omega), if_neg (by omega), if_neg (by omega)]
theorem side0 {w : World} {f : Nat → Nat} {i g : Nat} {st : Int} (hst : 1 ≤ st ∧ st ≤ 4) (h : EnAt g w (newEnd 3 st) (.slice none 0 0) (.slice none 0 0)) (hf : f g = 10 + i) : SideAt w f i (sd0 g st) := by
  refine ⟨h, newEnd_ok 3 st hst, newEnd_fin 3 st, OwnS.nil _ _ _ _, OwnS.nil _ _ _ _, ⟨[], OwnS.nil _ _ _ _, trivial⟩, ?_, ?_, ?_, ?_⟩
  · rintro x (rfl | hx | hx)
    · exact hf
    · cases hx
    · cases hx
  · intro x hx; cases hx
  · intro x hx; cases hx
  · intro x hx; cases hx
theorem pair_cells (x y : Value) : ∀ i, i < (#[x, y] : Array Value).size → (#[x, y] : Array Value)[i]? = some (pairF 0 x y i) := by
  intro i hi
  have hi : i < 2 := hi
  have : i = 0 ∨ i = 1 := by omega
  rcases this with rfl | rfl <;> rfl
theorem Mem.init {tE tW tT : TypeId} {W w1 w2 : World} {e1 e2 : Ending} (h1 : EnNew W (newEnd 3 1) e1 w1) (h2 : EnNew w1 (newEnd 3 2) e2 w2) (X Y : Value) (hX : X = .pointer (some ⟨W.heap.size, 0, none⟩)) (hY : Y = .pointer (some ⟨w1.heap.size, 0, none⟩)) :
    Mem tE tW tT W.heap.size W ((((w2.alloc (.cells #[X, Y] tE)).alloc (.cells #[.slice none 0 0, .slice none 0 0] tW)).alloc (.cells #[.slice none 0 0, .slice none 0 0] tT)).alloc (.cells #[.slice none 0 0, .slice none 0 0] tT))
      (f0 W.heap.size w1.heap.size w2.heap.size) 0 1 ⟨w2.heap.size, w2.heap.size + 1, w2.heap.size + 1 + 1, w2.heap.size + 1 + 1 + 1⟩ (sd0 W.heap.size 1) (sd0 w1.heap.size 2) := by
  subst hX
  subst hY
  obtain ⟨h2T, hb⟩ := Two.new h1 h2
  have g1 := h2T.e1.blk
  have g2 := h2T.e2.blk
  obtain ⟨_, hA, hbb1⟩ := h1
  have g3 := hA.blk
  have hba : Below w2.heap.size w2 ((((w2.alloc (.cells #[.pointer (some ⟨W.heap.size, 0, none⟩), .pointer (some ⟨w1.heap.size, 0, none⟩)] tE)).alloc (.cells #[.slice none 0 0, .slice none 0 0] tW)).alloc (.cells #[.slice none 0 0, .slice none 0 0] tT)).alloc (.cells #[.slice none 0 0, .slice none 0 0] tT)) :=
    ((((Below.refl _ _).alloc (Nat.le_refl _) _).alloc (by simp) _).alloc (by simp; omega) _).alloc (by simp; omega) _
  refine ⟨side0 (by decide) (h2T.e1.below hba) (if_pos rfl), side0 (by decide) (h2T.e2.below hba) ?_, ?_, ?_, ?_, ?_, ?_, ?_, ?_, ?_, ?_, ?_, .inl ⟨rfl, rfl⟩⟩
  · unfold f0; rw [if_neg (by omega), if_pos rfl]
  · exact (((Cel.new w2 tE _ _ (pair_cells _ _)).alloc _).alloc _).alloc _
  · have := ((Cel.new (w2.alloc (.cells #[.pointer (some ⟨W.heap.size, 0, none⟩), .pointer (some ⟨w1.heap.size, 0, none⟩)] tE)) tW _ _ (pair_cells (.slice none 0 0) (.slice none 0 0))).alloc (.cells #[.slice none 0 0, .slice none 0 0] tT)).alloc (.cells #[.slice none 0 0, .slice none 0 0] tT)
    rwa [show (w2.alloc (.cells #[.pointer (some ⟨W.heap.size, 0, none⟩), .pointer (some ⟨w1.heap.size, 0, none⟩)] tE)).heap.size = w2.heap.size + 1 by simp] at this
  · have := (Cel.new ((w2.alloc (.cells #[.pointer (some ⟨W.heap.size, 0, none⟩), .pointer (some ⟨w1.heap.size, 0, none⟩)] tE)).alloc (.cells #[.slice none 0 0, .slice none 0 0] tW)) tT _ _ (pair_cells (.slice none 0 0) (.slice none 0 0))).alloc (.cells #[.slice none 0 0, .slice none 0 0] tT)
    rwa [show ((w2.alloc (.cells #[.pointer (some ⟨W.heap.size, 0, none⟩), .pointer (some ⟨w1.heap.size, 0, none⟩)] tE)).alloc (.cells #[.slice none 0 0, .slice none 0 0] tW)).heap.size = w2.heap.size + 1 + 1 by simp] at this
  · have := Cel.new (((w2.alloc (.cells #[.pointer (some ⟨W.heap.size, 0, none⟩), .pointer (some ⟨w1.heap.size, 0, none⟩)] tE)).alloc (.cells #[.slice none 0 0, .slice none 0 0] tW)).alloc (.cells #[.slice none 0 0, .slice none 0 0] tT)) tT _ _ (pair_cells (.slice none 0 0) (.slice none 0 0))
    rwa [show (((w2.alloc (.cells #[.pointer (some ⟨W.heap.size, 0, none⟩), .pointer (some ⟨w1.heap.size, 0, none⟩)] tE)).alloc (.cells #[.slice none 0 0, .slice none 0 0] tW)).alloc (.cells #[.slice none 0 0, .slice none 0 0] tT)).heap.size = w2.heap.size + 1 + 1 + 1 by simp] at this
  · exact f0_1 g1 g2
  · exact f0_2 g1 g2
  · exact f0_3 g1 g2
  · exact f0_4 g1 g2
  · intro x hx
    rcases Nat.lt_or_ge x W.heap.size with h1 | h1
    · exact absurd (f0_low g1 g3 h1) hx
    · exact h1
  · exact hb.trans (hba.mono (by omega))
/-- What holds of one side's lists between rounds; o: what the other end was given to send. -/
structure PlS (N : Nat) (a : Sd) (o : List Int) : Prop where
  t : a.tl = a.s.out
  r : a.rl = a.s.inn
  rd : a.s.read = a.s.inn.length
  pre : a.s.inn <+: o
  sent : ∀ d ∈ a.way, SentBy o d
  wl : a.way.length ≤ 1048600 * N
def Pl (N : Nat) (a b : Sd) : Prop := PlS N a b.s.out ∧ PlS N b a.s.out
theorem Pl.swap {N : Nat} {a b : Sd} (h : Pl N a b) : Pl N b a := ⟨h.2, h.1⟩
theorem Pl.zero (g0 g1 : Nat) : Pl 0 (sd0 g0 1) (sd0 g1 2) := ⟨⟨rfl, rfl, rfl, List.nil_prefix, fun d h => (by cases h), Nat.zero_le _⟩, ⟨rfl, rfl, rfl, List.nil_prefix, fun d h => (by cases h), Nat.zero_le _⟩⟩
def OrdRel (tE tW tT : TypeId) (W : World) (q : Bk) (n : Nat) (nw i : Value) (w : World) : Prop :=
  ∃ (N : Nat) (now : Int) (f : Nat → Nat) (a b : Sd), i = .int .i64 N ∧ nw = .int .i64 now ∧ N ≤ n ∧ N ≤ 150 ∧ 0 ≤ now ∧ now ≤ 15 * N ∧ Mem tE tW tT W.heap.size W w f 0 1 q a b ∧ Pl N a b
end Go.Proofs.Ytoeipgbnjcgbjaa
/- StreamOrder, plain: what holds of both sides' lists behind each kind of step. -/
namespace Go.Proofs.Ytoeipgbnjcgbjaa
open Go.RowKit
set_option linter.unusedVariables false

theorem i64_and1 (n : Int) : bits .and .i64 n 1 = n % 2 := by
  have h127 : (BitVec.ofInt 64 1).toNat = 2 ^ 1 - 1 := by decide
  have key : (BitVec.ofInt 64 n &&& BitVec.ofInt 64 1).toNat = (n % ((2 ^ 64 : Nat) : Int)).toNat % 2 ^ 1 := by
    rw [BitVec.toNat_and, BitVec.toNat_ofInt, h127, Nat.and_two_pow_sub_one_eq_mod]
  show IntKind.i64.wrap ((BitVec.ofInt 64 n &&& BitVec.ofInt 64 1).toNat : Nat) = n % 2
  rw [key, IntKind.wrap_i64]
  omega
theorem i64_and15 (n : Int) : bits .and .i64 n 15 = n % 16 := by
  have h127 : (BitVec.ofInt 64 15).toNat = 2 ^ 4 - 1 := by decide
  have key : (BitVec.ofInt 64 n &&& BitVec.ofInt 64 15).toNat = (n % ((2 ^ 64 : Nat) : Int)).toNat % 2 ^ 4 := by
    rw [BitVec.toNat_and, BitVec.toNat_ofInt, h127, Nat.and_two_pow_sub_one_eq_mod]
  show IntKind.i64.wrap ((BitVec.ofInt 64 n &&& BitVec.ofInt 64 15).toNat : Nat) = n % 16
  rw [key, IntKind.wrap_i64]
  omega
theorem dataL_len (s : En) : ∀ (f p : Nat), (dataL s f p).1.length ≤ f := by
  intro f
  induction f with
  | zero => intro p; exact Nat.le_refl _
  | succ f ih =>
    intro p
    rw [dataL]
    split
    · simp only [List.length_cons]; have := ih (p + pieceN s p); omega
    · exact Nat.zero_le _
theorem outS_len (s : En) (now : Int) (h : EnOk s) : (outS s now).1.length ≤ 1048578 := by
  have h1 := h.outl
  unfold outS
  split
  · split <;> simp
  split
  · unfold sendsS
    simp only [List.length_append]
    have e1 := sends1_out s now
    have e2 := sends2_out (sends1 s now)
    have a1 : (sends2 (sends1 s now)).1.length ≤ 1 := by unfold sends2; split <;> simp
    have a2 : (sends3 (sends2 (sends1 s now)).2).1.length ≤ s.out.length := by
      have := dataL_len (sends2 (sends1 s now)).2 (sends2 (sends1 s now)).2.out.length (sends2 (sends1 s now)).2.next.toNat
      rw [e2.1, e1.1] at this
      unfold sends3
      rw [e2.1, e1.1]
      exact this
    have a3 : (sends4 (sends3 (sends2 (sends1 s now)).2).2).1.length ≤ 1 := by unfold sends4; split <;> simp
    omega
  · simp
theorem stepS_grow (s : En) (q : Sg) (now : Int) : s.inn <+: (stepS s q now).inn := by
  unfold stepS
  split
  · exact List.prefix_refl _
  split
  · exact List.prefix_refl _
  split
  · unfold dialS; split <;> exact List.prefix_refl _
  split
  · unfold listenS; split <;> exact List.prefix_refl _
  unfold openS
  split
  · exact List.prefix_refl _
  split
  · rw [(ackedS_out s q.ack now).2.1]; exact List.prefix_refl _
  split
  · unfold dataS; split
    · exact List.prefix_append _ _
    · exact List.prefix_refl _
  split
  · split <;> exact List.prefix_refl _
  · exact List.prefix_refl _
theorem inS_grow (s : En) (b : List Int) (now : Int) : s.inn <+: (inS s b now).inn := by
  unfold inS
  split
  · exact stepS_grow s _ now
  · exact List.prefix_refl _

/-- Amid a round: what came in may not have been read yet. -/
structure PlM (N : Nat) (a b : Sd) : Prop where
  t : a.tl = a.s.out
  r : a.rl ++ (readS a.s).1 = a.s.inn
  pre : a.s.inn <+: b.s.out
  sent : ∀ d ∈ a.way, SentBy b.s.out d
  wl : a.way.length ≤ 1048600 * N
  b : PlS N b a.s.out
section
variable {N : Nat} {a b : Sd}
theorem PlS.more {o : List Int} (h : PlS N a o) (x : List Int) : PlS (N + 1) a (o ++ x) :=
  ⟨h.t, h.r, h.rd, h.pre.trans (List.prefix_append _ _), fun d hd => (h.sent d hd).more x, by have := h.wl; omega⟩
theorem PlS.next {o : List Int} (h : PlS N a o) : PlS (N + 1) a o := ⟨h.t, h.r, h.rd, h.pre, h.sent, by have := h.wl; omega⟩
theorem PlS.read {o : List Int} (h : PlS N a o) : a.rl ++ (readS a.s).1 = a.s.inn := by
  have hx : (readS a.s).1 = a.s.inn.drop a.s.read.toNat := rfl
  rw [hx, h.rd, Int.toNat_natCast, List.drop_length, List.append_nil, h.r]
/-- Nothing that counts has changed. -/
theorem Pl.same (h : Pl N a b) {s' : En} {vo vi : Value} (h1 : s'.out = a.s.out) (h2 : s'.inn = a.s.inn) (h3 : s'.read = a.s.read) : PlM (N + 1) { a with s := s', vo := vo, vi := vi } b := by
  refine ⟨h.1.t.trans h1.symm, ?_, h2 ▸ h.1.pre, h.1.sent, by have := h.1.wl; show a.way.length ≤ _; omega, h1 ▸ h.2.next⟩
  have := h.1.read
  show a.rl ++ s'.inn.drop s'.read.toNat = s'.inn
  rw [h2, h3]
  exact this
theorem Pl.mid (h : Pl N a b) : PlM (N + 1) a b := h.same rfl rfl rfl
theorem Pl.wrote (h : Pl N a b) (xs : List Int) (hw : (writeS a.s xs).1 = 0) (vo vi vt : Value) : PlM (N + 1) { a with s := (writeS a.s xs).2, vo := vo, vi := vi, vt := vt, tl := a.tl ++ xs } b ∧ (writeS a.s xs).2.out = a.s.out ++ xs := by
  have key : (writeS a.s xs).2 = { a.s with out := a.s.out ++ xs } := by
    unfold writeS at hw ⊢
    split
    · rename_i h1; rw [if_pos h1] at hw; cases hw
    · rename_i h1
      rw [if_neg h1] at hw
      split
      · rename_i h2; rw [if_pos h2] at hw; cases hw
      · rename_i h2
        rw [if_neg h2] at hw
        split
        · rename_i h3; rw [if_pos h3] at hw; cases hw
        · rfl
  rw [key]
  refine ⟨⟨by show a.tl ++ xs = a.s.out ++ xs; rw [h.1.t], h.1.read, h.1.pre, h.1.sent, by have := h.1.wl; show a.way.length ≤ _; omega, h.2.more xs⟩, rfl⟩
theorem Pl.notWrote (h : Pl N a b) (xs : List Int) (hw : (writeS a.s xs).1 ≠ 0) (vo vi : Value) : PlM (N + 1) { a with s := (writeS a.s xs).2, vo := vo, vi := vi } b := by
  have key : (writeS a.s xs).2 = a.s := by
    unfold writeS at hw ⊢
    split
    · rfl
    · rename_i h1
      rw [if_neg h1] at hw
      split
      · rfl
      · rename_i h2
        rw [if_neg h2] at hw
        split
        · rfl
        · rename_i h3; rw [if_neg h3] at hw; exact absurd rfl hw
  rw [key]
  exact h.same rfl rfl rfl
theorem closeS_out (s : En) : (closeS s).2.out = s.out ∧ (closeS s).2.inn = s.inn ∧ (closeS s).2.read = s.read := by unfold closeS; split <;> exact ⟨rfl, rfl, rfl⟩
theorem Pl.out (h : Pl N a b) (now : Int) (hok : EnOk a.s) (hn : (Lit.int .i64 now).wf = true) (vo vi vw : Value) :
    PlM (N + 1) { a with s := (outS a.s now).2, vo := vo, vi := vi } { b with vw := vw, way := b.way ++ (outS a.s now).1 } := by
  have ho := outS_out a.s now
  have h1 := h.same (s' := (outS a.s now).2) (vo := vo) (vi := vi) ho.1 ho.2.1 ho.2.2.1
  refine ⟨h1.t, h1.r, h1.pre, h1.sent, h1.wl, ⟨h1.b.t, h1.b.r, h1.b.rd, h1.b.pre, ?_, ?_⟩⟩
  · intro d hd
    rcases List.mem_append.1 hd with hd | hd
    · exact h1.b.sent d hd
    · have := outS_sent a.s now hok hn d hd
      show SentBy (outS a.s now).2.out d
      rwa [ho.1]
  · have := h.2.wl
    have := outS_len a.s now hok
    show (b.way ++ (outS a.s now).1).length ≤ _
    rw [List.length_append]
    omega
theorem Pl.took (h : Pl N a b) (d : List Int) (hd : d ∈ a.way) (now : Int) (vo vi : Value) : PlM (N + 1) { a with s := inS a.s d now, vo := vo, vi := vi } b := by
  have hi := inS_out a.s d now
  refine ⟨h.1.t.trans hi.1.symm, ?_, inS_prefix a.s d now b.s.out (h.1.sent d hd) h.1.pre, h.1.sent, by have := h.1.wl; show a.way.length ≤ _; omega, hi.1 ▸ h.2.next⟩
  show a.rl ++ (inS a.s d now).inn.drop (inS a.s d now).read.toNat = (inS a.s d now).inn
  rw [hi.2.1, h.1.rd, Int.toNat_natCast, h.1.r]
  obtain ⟨t, ht⟩ := inS_grow a.s d now
  rw [← ht, List.drop_left]
theorem PlM.cut (h : PlM N a b) (m : Nat) (vw : Value) : PlM N { a with vw := vw, way := a.way.take m ++ a.way.drop (m + 1) } b := by
  refine ⟨h.t, h.r, h.pre, fun d hd => h.sent d ?_, ?_, h.b⟩
  · rcases List.mem_append.1 hd with hd | hd
    · exact List.mem_of_mem_take hd
    · exact List.mem_of_mem_drop hd
  · have := h.wl
    show (a.way.take m ++ a.way.drop (m + 1)).length ≤ _
    rw [List.length_append, List.length_take, List.length_drop]
    omega
theorem Pl.twice (h : Pl N a b) (d : List Int) (hd : d ∈ a.way) (vw : Value) : PlM (N + 1) { a with vw := vw, way := a.way ++ [d] } b := by
  have h1 := h.mid
  refine ⟨h1.t, h1.r, h1.pre, fun x hx => ?_, ?_, h1.b⟩
  · rcases List.mem_append.1 hx with hx | hx
    · exact h1.sent x hx
    · rw [List.mem_singleton.1 hx]; exact h1.sent d hd
  · have := h.1.wl
    show (a.way ++ [d]).length ≤ _
    rw [List.length_append]
    simp only [List.length_singleton]
    omega
/-- Behind the reading. -/
theorem PlM.read (h : PlM N a b) (vo vi vr : Value) : Pl N { a with s := (readS a.s).2, vo := vo, vi := vi, vr := vr, rl := a.rl ++ (readS a.s).1 } b :=
  ⟨⟨h.t, h.r, rfl, h.pre, h.sent, h.wl⟩, h.b⟩
/-- What is compared: the beginning of what was written. -/
theorem Pl.asked (h : Pl N a b) : a.rl.length ≤ b.tl.length ∧ b.tl.take a.rl.length = a.rl := by
  have h1 := h.1.pre
  rw [← h.1.r, ← h.2.t] at h1
  exact ⟨h1.length_le, (List.prefix_iff_eq_take.1 h1).symm⟩
theorem OrdRel.of {tE tW tT : TypeId} {W w : World} {q : Bk} {n k j : Nat} {f : Nat → Nat} {now : Int} (hN : N ≤ n) (h5 : N ≤ 150) (h0 : 0 ≤ now) (h1 : now ≤ 15 * N) (hM : Mem tE tW tT W.heap.size W w f k j q a b) (hP : Pl N a b) : OrdRel tE tW tT W q n (.int .i64 now) (.int .i64 N) w := by
  rcases hM.kj with ⟨rfl, rfl⟩ | ⟨rfl, rfl⟩
  · exact ⟨N, now, f, a, b, rfl, rfl, hN, h5, h0, h1, hM, hP⟩
  · exact ⟨N, now, f, b, a, rfl, rfl, hN, h5, h0, h1, hM.swap, hP.swap⟩
/-- The sides, as the round sees them: k's first. -/
theorem roles {tE tW tT : TypeId} {W w : World} {q : Bk} {k : Nat} {f : Nat → Nat} (hk : k ≤ 1) (hM : Mem tE tW tT W.heap.size W w f 0 1 q a b) (hP : Pl N a b) : ∃ j a' b', Mem tE tW tT W.heap.size W w f k j q a' b' ∧ Pl N a' b' := by
  have : k = 0 ∨ k = 1 := by omega
  rcases this with rfl | rfl
  · exact ⟨1, a, b, hM, hP⟩
  · exact ⟨0, b, a, hM.swap, hP.swap⟩
end
/-- The round's own operation, copied. -/
def opF (kd who ix : Int) (v : Value) (i : Nat) : Value := if i = 0 then .int .i64 kd else if i = 1 then .int .i64 who else if i = 2 then .int .i64 ix else v
theorem opF_cells (kd who ix : Int) (v : Value) : ∀ i, i < (#[.int .i64 kd, .int .i64 who, .int .i64 ix, v] : Array Value).size → (#[.int .i64 kd, .int .i64 who, .int .i64 ix, v] : Array Value)[i]? = some (opF kd who ix v i) := by
  intro i hi
  have hi : i < 4 := hi
  have : i = 0 ∨ i = 1 ∨ i = 2 ∨ i = 3 := by omega
  rcases this with rfl | rfl | rfl | rfl <;> rfl
/-- What the walk carries within a round. -/
structure St (tE tW tT tO : TypeId) (W w : World) (q : Bk) (ob k j : Nat) (a b : Sd) (F : Nat → Value) : Prop where
  m : ∃ f, Mem tE tW tT W.heap.size W w f k j q a b ∧ f ob = 5
  c : Cel w ob tO 4 F
section
variable {tE tW tT tO : TypeId} {W w w' : World} {q : Bk} {ob k j : Nat} {a b a' b' : Sd} {F : Nat → Value}
theorem St.below (h : St tE tW tT tO W w q ob k j a b F) (hb : Below w.heap.size w w') : St tE tW tT tO W w' q ob k j a b F := by
  obtain ⟨⟨f, hM, h5⟩, hc⟩ := h
  exact ⟨⟨f, hM.below hb, h5⟩, hc.below hb hc.blk⟩
theorem St.next (h : St tE tW tT tO W w q ob k j a b F) (hn : ∀ f, Mem tE tW tT W.heap.size W w f k j q a b → ∃ f', Mem tE tW tT W.heap.size W w' f' k j q a' b' ∧ Keep w f w' f') : St tE tW tT tO W w' q ob k j a' b' F := by
  obtain ⟨⟨f, hM, h5⟩, hc⟩ := h
  obtain ⟨f', hM', hK⟩ := hn f hM
  obtain ⟨h1, h2⟩ := hK ob tO 4 F hc h5
  exact ⟨⟨f', hM', h2⟩, h1⟩
theorem St.new {cs : Array Value} {f : Nat → Nat} (h : Mem tE tW tT W.heap.size W w f k j q a b) (hcs : cs.size = 4) (hF : ∀ i, i < cs.size → cs[i]? = some (F i)) : St tE tW tT tO W (w.alloc (.cells cs tO)) q w.heap.size k j a b F := by
  have hb : Below w.heap.size w (w.alloc (.cells cs tO)) := (Below.refl _ _).alloc (Nat.le_refl _) _
  have h1 := h.below hb
  have hsz := h.size
  have hold : ∀ x, x < w.heap.size → relab f w.heap.size 5 x = f x := fun x hx => relab_old hx
  have hz := h.blk
  have hc : Chg (fun _ => False) w (w.alloc (.cells cs tO)) := Chg.of_below hb
  refine ⟨⟨relab f w.heap.size 5, ⟨h.sa.move hc (fun _ _ h => h.elim) hold, h.sb.move hc (fun _ _ h => h.elim) hold, h1.ce, h1.cw, h1.ct, h1.cr, (hold _ hz.1).trans h.fe, (hold _ hz.2.1).trans h.fw, (hold _ hz.2.2.1).trans h.ft, (hold _ hz.2.2.2).trans h.fr, ?_, h1.bel, h.kj⟩, relab_new (Nat.le_refl _)⟩, ?_⟩
  · intro x hx
    by_cases hlt : x < w.heap.size
    · exact h.low x (by rwa [hold x hlt] at hx)
    · omega
  · have := Cel.new w tO cs F hF
    rwa [hcs] at this
theorem St.cW (h : St tE tW tT tO W w q ob k j a b F) : w.cell? ⟨q.wb, k, none⟩ = some a.vw := by obtain ⟨⟨f, hM, _⟩, _⟩ := h; exact hM.cellW
theorem St.cWj (h : St tE tW tT tO W w q ob k j a b F) : w.cell? ⟨q.wb, j, none⟩ = some b.vw := by obtain ⟨⟨f, hM, _⟩, _⟩ := h; exact hM.swap.cellW
theorem St.cE (h : St tE tW tT tO W w q ob k j a b F) : w.cell? ⟨q.eb, k, none⟩ = some (.pointer (some ⟨a.g, 0, none⟩)) := by obtain ⟨⟨f, hM, _⟩, _⟩ := h; exact hM.cellE
theorem St.cT (h : St tE tW tT tO W w q ob k j a b F) : w.cell? ⟨q.tb, k, none⟩ = some a.vt := by obtain ⟨⟨f, hM, _⟩, _⟩ := h; exact hM.cellT
theorem St.cTj (h : St tE tW tT tO W w q ob k j a b F) : w.cell? ⟨q.tb, j, none⟩ = some b.vt := by obtain ⟨⟨f, hM, _⟩, _⟩ := h; exact hM.swap.cellT
theorem St.cR (h : St tE tW tT tO W w q ob k j a b F) : w.cell? ⟨q.rb, k, none⟩ = some a.vr := by obtain ⟨⟨f, hM, _⟩, _⟩ := h; exact hM.cellR
theorem St.cO (h : St tE tW tT tO W w q ob k j a b F) (i : Nat) (hi : i < 4) : w.cell? ⟨ob, i, none⟩ = some (F i) := h.c.cell i hi
theorem St.wo (h : St tE tW tT tO W w q ob k j a b F) : ∃ A c, a.vw = .slice A a.way.length c := by
  obtain ⟨⟨f, hM, _⟩, _⟩ := h
  obtain ⟨vs, ho, _⟩ := hM.sa.wo
  exact ho.shape
theorem St.drew (h : St tE tW tT tO W w q ob k j a b F) (n : Nat) : St tE tW tT tO W (w.drewN n) q ob k j a b F := h.below (Below.drewN (Below.refl _ _) n)
theorem St.kj (h : St tE tW tT tO W w q ob k j a b F) : (k = 0 ∧ j = 1) ∨ (k = 1 ∧ j = 0) := by obtain ⟨⟨f, hM, _⟩, _⟩ := h; exact hM.kj
theorem St.mem (h : St tE tW tT tO W w q ob k j a b F) : ∃ f, Mem tE tW tT W.heap.size W w f k j q a b := ⟨h.m.choose, h.m.choose_spec.1⟩
end
end Go.Proofs.Ytoeipgbnjcgbjaa
/- StreamOrder: what each call on an end leaves of all that the walk holds. -/
namespace Go.Proofs.Ytoeipgbnjcgbjaa
open Go.RowKit
set_option linter.unusedVariables false

section
variable {tE tW tT tO : TypeId} {W w w' : World} {q : Bk} {ob k j : Nat} {a b : Sd} {F : Nat → Value}
theorem St.end_ (h : St tE tW tT tO W w q ob k j a b F) : EnAt a.g w a.s a.vo a.vi ∧ EnOk a.s ∧ EnFin a.s := by
  obtain ⟨⟨f, hM, _⟩, _⟩ := h
  exact ⟨hM.sa.e, hM.sa.ok, hM.sa.fin⟩
theorem St.low (h : St tE tW tT tO W w q ob k j a b F) : Below W.heap.size W w := by
  obtain ⟨⟨f, hM, _⟩, _⟩ := h
  exact hM.bel
theorem St.step {S : Nat → Prop} {s' : En} {vo' vi' : Value} (h : St tE tW tT tO W w q ob k j a b F) (hE : EnAt a.g w' s' vo' vi') (hok : EnOk s') (hfin : EnFin s') (hC : Chg S w w') (hS : ∀ x, x < w.heap.size → S x → Fp a.g a.vo a.vi x) (hFo : Fresh w a.vo vo') (hFi : Fresh w a.vi vi') :
    St tE tW tT tO W w' q ob k j { a with s := s', vo := vo', vi := vi' } b F :=
  h.next fun f hM => hM.step hE hok hfin hC hS hFo hFi
theorem St.write {xs : List Int} {e : Ending} (h : St tE tW tT tO W w q ob k j a b F) (hb : Bytes xs) (hp : WrPost a.g a.s a.vo a.vi xs w e w') :
    ∃ vo', e = .returned (.int .i64 (writeS a.s xs).1) ∧ St tE tW tT tO W w' q ob k j { a with s := (writeS a.s xs).2, vo := vo', vi := a.vi } b F := by
  obtain ⟨vo', he, hE, hC, hF⟩ := hp
  obtain ⟨_, hok, hfin⟩ := h.end_
  exact ⟨vo', he, h.step hE (writeS_ok _ _ hok hb) (writeS_fin _ _ hfin) hC (fun x _ hx => hx.elim .inl (fun hx => .inr (.inl hx))) hF (Fresh.refl _ _)⟩
theorem St.close (h : St tE tW tT tO W w q ob k j a b F) (hE : EnAt a.g w' (closeS a.s).2 a.vo a.vi) (hC : Chg (fun x => x = a.g) w w') :
    St tE tW tT tO W w' q ob k j { a with s := (closeS a.s).2, vo := a.vo, vi := a.vi } b F := by
  obtain ⟨_, hok, hfin⟩ := h.end_
  exact h.step hE (closeS_ok _ hok) (closeS_fin _ hfin) hC (fun x _ hx => .inl hx) (Fresh.refl _ _) (Fresh.refl _ _)
theorem St.take {d : List Int} {now : Int} {e : Ending} (h : St tE tW tT tO W w q ob k j a b F) (hd : Bytes d) (hn : (Lit.int .i64 now).wf = true) (hp : TakePost a.g (inS a.s d now) a.vo a.vi w e w') :
    e = .returned (.tuple #[]) ∧ ∃ vi', St tE tW tT tO W w' q ob k j { a with s := inS a.s d now, vo := a.vo, vi := vi' } b F := by
  obtain ⟨he, vi', hE, hC, hF⟩ := hp
  obtain ⟨_, hok, hfin⟩ := h.end_
  exact ⟨he, vi', h.step hE (inS_ok _ _ _ hok hd hn hfin) (inS_fin _ _ _ hfin hok) hC (fun x _ hx => hx.elim .inl (fun hx => .inr (.inr hx))) (Fresh.refl _ _) hF⟩
theorem St.read {e : Ending} (h : St tE tW tT tO W w q ob k j a b F) (hp : RdPost a.g a.s a.vo a.vi w e w') :
    ∃ A, e = .returned (.slice A (readS a.s).1.length (readS a.s).1.length) ∧ OwnS w' w.heap.size 5 1 (.slice A (readS a.s).1.length (readS a.s).1.length) (readS a.s).1.length ((readS a.s).1.map (Value.int .u8)) ∧ St tE tW tT tO W w' q ob k j { a with s := (readS a.s).2, vo := a.vo, vi := a.vi } b F := by
  obtain ⟨A, he, ho, hE, hC⟩ := hp
  obtain ⟨_, hok, hfin⟩ := h.end_
  exact ⟨A, he, ho, h.step hE (readS_ok _ hok) ⟨hfin.1, hfin.2⟩ hC (fun x _ hx => .inl hx) (Fresh.refl _ _) (Fresh.refl _ _)⟩
/-- Out: what is told is new memory, labelled as datagrams. -/
theorem Mem.told {s' : En} {B : Nat} {f : Nat → Nat} (h : Mem tE tW tT B W w f k j q a b) (hE : EnAt a.g w' s' a.vo a.vi) (hok : EnOk s') (hfin : EnFin s') (hC : Chg (fun x => x = a.g) w w') :
    Mem tE tW tT B W w' (relab f w.heap.size 50) k j q { a with s := s', vo := a.vo, vi := a.vi } b ∧ Keep w f w' (relab f w.heap.size 50) := by
  have hl : ∀ x, x < w.heap.size → x = a.g → f x = 10 + k := fun x hx hs => h.sa.fe x (.inl hs)
  have hkj := h.kj
  have hold : ∀ x, x < w.heap.size → relab f w.heap.size 50 x = f x := fun x hx => relab_old hx
  have hb := h.sb.move (f' := relab f w.heap.size 50) hC (fun x hx hs => by have := hl x hx hs; omega) hold
  have hz := h.blk
  obtain ⟨vs, ho, hv⟩ := h.sa.wo
  have key : ∀ {l : Nat} {x : Nat}, x < w.heap.size → f x = l → l ≠ 10 + k → ¬ (x = a.g) := fun hx hf hne hs => hne ((hf.symm).trans (hl _ hx hs))
  refine ⟨⟨⟨hE, hok, hfin, ?_, ?_, ⟨vs, ?_, ?_⟩, ?_, ?_, ?_, ?_⟩, hb, h.ce.chg hC (key hz.1 h.fe (by omega)), h.cw.chg hC (key hz.2.1 h.fw (by omega)), h.ct.chg hC (key hz.2.2.1 h.ft (by omega)), h.cr.chg hC (key hz.2.2.2 h.fr (by omega)), (hold _ hz.1).trans h.fe, (hold _ hz.2.1).trans h.fw, (hold _ hz.2.2.1).trans h.ft, (hold _ hz.2.2.2).trans h.fr, ?_, ?_, h.kj⟩, ?_⟩
  · exact h.sa.t.chg hC (fun x hx => key (h.sa.t.lt x hx).2 (h.sa.ft x hx) (by omega))
  · exact h.sa.r.chg hC (fun x hx => key (h.sa.r.lt x hx).2 (h.sa.fr x hx) (by omega))
  · exact ho.chg hC (fun x hx => key (ho.lt x hx).2 (h.sa.fw x hx) (by omega))
  · exact hv.imp fun u d hd => hd.move hC (fun x hx hs => by have := hl x hx hs; omega) hold
  · exact fun x hx => (hold x (h.sa.e.fp_lt x hx)).trans (h.sa.fe x hx)
  · exact fun x hx => (hold x (h.sa.t.lt x hx).2).trans (h.sa.ft x hx)
  · exact fun x hx => (hold x (h.sa.r.lt x hx).2).trans (h.sa.fr x hx)
  · exact fun x hx => (hold x (ho.lt x hx).2).trans (h.sa.fw x hx)
  · intro x hx
    by_cases hlt : x < w.heap.size
    · exact h.low x (by rwa [hold x hlt] at hx)
    · have := h.size; omega
  · exact h.bel.trans (hC.below h.size (fun x hx hs => by have h1 := h.size; have := hl x (by omega) hs; have := h.low x (by omega); omega))
  · intro x T n F hc hf
    exact ⟨hc.chg hC (key hc.blk hf (by omega)), (hold x hc.blk).trans hf⟩
end
/-- All that the walk holds, and the rows that are put together next: the way to the one side, and new datagrams. -/
structure StO (tE tW tT tO : TypeId) (W w : World) (q : Bk) (ob k j : Nat) (a b : Sd) (F : Nat → Value) (v : Value) (ls : List (List Int)) : Prop where
  m : ∃ f vs us, Mem tE tW tT W.heap.size W w f k j q a b ∧ f ob = 5 ∧ OwnS w 0 22 1 b.vw b.way.length vs ∧ Els w f vs b.way ∧ OwnS w 0 22 1 v ls.length us ∧ Els w f us ls
  c : Cel w ob tO 4 F
section
variable {tE tW tT tO : TypeId} {W w w' : World} {q : Bk} {ob k j : Nat} {a b : Sd} {F : Nat → Value}
theorem Els.of_outs {v : Value} {ls : List (List Int)} {f : Nat → Nat} {B : Nat} (h : OutsAt B w v ls) (hf : ∀ x, B ≤ x → f x = 50) : ∃ us, OwnS w 0 22 1 v ls.length us ∧ Els w f us ls := by
  obtain ⟨us, ho, hi⟩ := h
  refine ⟨us, ho.base_ (Nat.zero_le _), Els.of_get (by have := ho.1; omega) ?_⟩
  intro i hl
  obtain ⟨A, h1, h2⟩ := hi i hl
  exact ⟨_, h1, A, rfl, h2.base_ (Nat.zero_le _), fun x hx => hf x (h2.lt x hx).1⟩
theorem St.out {now : Int} {e : Ending} (h : St tE tW tT tO W w q ob k j a b F) (hn : (Lit.int .i64 now).wf = true) (hp : OutPost a.g a.s a.vo a.vi now w e w') :
    ∃ A, e = .returned (.slice A (outS a.s now).1.length (outS a.s now).1.length) ∧ StO tE tW tT tO W w' q ob k j { a with s := (outS a.s now).2, vo := a.vo, vi := a.vi } b F (.slice A (outS a.s now).1.length (outS a.s now).1.length) (outS a.s now).1 := by
  obtain ⟨A, he, hO, hE, hC⟩ := hp
  obtain ⟨⟨f, hM, h5⟩, hc⟩ := h
  obtain ⟨hM', hK⟩ := hM.told hE (outS_ok _ _ hM.sa.ok hn) (outS_fin _ _ hM.sa.fin hM.sa.ok hn) hC
  obtain ⟨h1, h2⟩ := hK ob tO 4 F hc h5
  obtain ⟨us, hu, hv⟩ := Els.of_outs hO (f := relab f w.heap.size 50) (fun x hx => relab_new hx)
  obtain ⟨vs, ho, hw⟩ := hM'.sb.wo
  exact ⟨A, he, ⟨_, vs, us, hM', h2, ho, hw, hu, hv⟩, h1⟩
theorem fresh_of {v v' : Value} (hv : v'.ownBlock = v.ownBlock ∨ v'.ownBlock = some w.heap.size) : Fresh w v v' :=
  hv.elim .inl (fun h => .inr fun k hk => by rw [h] at hk; injection hk with hk; omega)
/-- What was written has grown. -/
theorem St.rowT {v' : Value} {xs : List Int} {n : Nat} (h : St tE tW tT tO W w q ob k j a b F) (ho : OwnS w' 0 5 1 v' n (a.tl.map (Value.int .u8) ++ xs.map (Value.int .u8))) (hn : n = a.tl.length + xs.length) (hg : w.grownBy w' a.vt.ownBlock) (hv : v'.ownBlock = a.vt.ownBlock ∨ v'.ownBlock = some w.heap.size) :
    St tE tW tT tO W (w'.setCell ⟨q.tb, k, none⟩ v') q ob k j { a with vt := v', tl := a.tl ++ xs } b F := by
  subst hn
  exact h.next fun f hM => hM.rowT (Chg.of_grown hg fun _ h => h) (by rw [List.length_append, List.map_append]; exact ho) (fresh_of hv)
/-- What was read has grown. -/
theorem St.rowR {v' : Value} {xs : List Int} {n : Nat} (h : St tE tW tT tO W w q ob k j a b F) (ho : OwnS w' 0 5 1 v' n (a.rl.map (Value.int .u8) ++ xs.map (Value.int .u8))) (hn : n = a.rl.length + xs.length) (hg : w.grownBy w' a.vr.ownBlock) (hv : v'.ownBlock = a.vr.ownBlock ∨ v'.ownBlock = some w.heap.size) :
    St tE tW tT tO W (w'.setCell ⟨q.rb, k, none⟩ v') q ob k j { a with vr := v', rl := a.rl ++ xs } b F := by
  subst hn
  exact h.next fun f hM => hM.rowR (Chg.of_grown hg fun _ h => h) (by rw [List.length_append, List.map_append]; exact ho) (fresh_of hv)
theorem Els.grown {f : Nat → Nat} {v v' : Value} {us : List Value} {ds : List (List Int)} {l : Nat} (h : Els w f us ds) (hg : w.grownBy w' v.ownBlock) (hv : ∀ x, v.ownBlock = some x → f x ≠ 50) : Els w' (relab2 f w.heap.size v' l) us ds :=
  h.imp fun u d hd => hd.move (Chg.of_grown (S := fun x => v.ownBlock = some x) hg fun _ h => h) (fun x _ hs => hv x hs) (fun x hx => if_pos hx)
/-- The way to the other side has grown by what Out told. -/
theorem StO.join {v v' : Value} {ls : List (List Int)} (h : StO tE tW tT tO W w q ob k j a b F v ls) :
    ∃ vs us, OwnS w 0 22 1 b.vw b.way.length vs ∧ OwnS w 0 22 1 v ls.length us ∧ (∀ u ∈ us, u.oneCell' = true) ∧
      ∀ v' w' n, OwnS w' 0 22 1 v' n (vs ++ us) → n = b.way.length + ls.length → w.grownBy w' b.vw.ownBlock → (v'.ownBlock = b.vw.ownBlock ∨ v'.ownBlock = some w.heap.size) →
        St tE tW tT tO W (w'.setCell ⟨q.wb, j, none⟩ v') q ob k j a { b with vw := v', way := b.way ++ ls } F := by
  obtain ⟨⟨f, vs, us, hM, h5, ho, hw, hu, hl⟩, hc⟩ := h
  refine ⟨vs, us, ho, hu, hl.one_, ?_⟩
  intro v' w' n hown hn hg hv
  subst hn
  have hkj := hM.kj
  have hl50 : ∀ x, b.vw.ownBlock = some x → f x ≠ 50 := fun x hx => by have := hM.sb.fw x hx; omega
  obtain ⟨f', hM', hK⟩ := hM.swap.rowW (v' := v') (vs' := vs ++ us) (way' := b.way ++ ls) (Chg.of_grown hg fun _ h => h) (by rw [List.length_append]; exact hown) (fresh_of hv) ((hw.grown hg hl50).append (hl.grown hg hl50))
  obtain ⟨h1, h2⟩ := hK ob tO 4 F hc h5
  exact ⟨⟨f', hM'.swap, h2⟩, h1⟩
/-- One more of a way's own datagrams is put behind it. -/
theorem St.wayOf (h : St tE tW tT tO W w q ob k j a b F) : ∃ f vs, Mem tE tW tT W.heap.size W w f k j q a b ∧ f ob = 5 ∧ OwnS w 0 22 1 a.vw a.way.length vs ∧ Els w f vs a.way := by
  obtain ⟨⟨f, hM, h5⟩, hc⟩ := h
  obtain ⟨vs, ho, hw⟩ := hM.sa.wo
  exact ⟨f, vs, hM, h5, ho, hw⟩
theorem St.twice {m : Nat} (h : St tE tW tT tO W w q ob k j a b F) (hm : m < a.way.length) :
    ∃ vs A, vs[m]? = some (.slice A (a.way.getD m []).length (a.way.getD m []).length) ∧ OwnS w 0 5 1 (.slice A (a.way.getD m []).length (a.way.getD m []).length) (a.way.getD m []).length ((a.way.getD m []).map (Value.int .u8)) ∧ OwnS w 0 22 1 a.vw a.way.length vs ∧
      (∀ v' w1 w' n, Below w.heap.size w w1 → OwnS w' 0 22 1 v' n (vs ++ [.slice A (a.way.getD m []).length (a.way.getD m []).length]) → n = a.way.length + 1 → w1.grownBy w' a.vw.ownBlock → (v'.ownBlock = a.vw.ownBlock ∨ v'.ownBlock = some w1.heap.size) →
        St tE tW tT tO W (w'.setCell ⟨q.wb, k, none⟩ v') q ob k j { a with vw := v', way := a.way ++ [a.way.getD m []] } b F) ∧
      (∀ v' w1 w' n, Below w.heap.size w w1 → OwnS w' 0 22 1 v' n (vs.take m ++ vs.drop (m + 1)) → n = (a.way.take m ++ a.way.drop (m + 1)).length → Below w1.heap.size w1 w' → (∀ x, v'.ownBlock = some x → w1.heap.size ≤ x) →
        St tE tW tT tO W (w'.setCell ⟨q.wb, k, none⟩ v') q ob k j { a with vw := v', way := a.way.take m ++ a.way.drop (m + 1) } b F) := by
  obtain ⟨f, vs, hM, h5, ho, hw⟩ := h.wayOf
  have hc := h.c
  obtain ⟨u, hu, A, rfl, hA, h50⟩ := hw.get m hm
  have hkj := hM.kj
  have hl50 : ∀ x, a.vw.ownBlock = some x → f x ≠ 50 := fun x hx => by have := hM.sa.fw x hx; omega
  refine ⟨vs, A, hu, hA, ho, ?_, ?_⟩
  · intro v' w1 w' n hb hown hn hg hv
    subst hn
    have hM1 := hM.below hb
    have hw1 : Els w1 f vs a.way := hw.imp fun u d hd => hd.move (Chg.of_below (S := fun _ => False) hb) (fun _ _ h => h.elim) (fun _ _ => rfl)
    have h1 : Els w1 f [.slice A (a.way.getD m []).length (a.way.getD m []).length] [a.way.getD m []] := Els.one ⟨A, rfl, hA.chg (Chg.of_below (S := fun _ => False) hb) (fun _ _ h => h), h50⟩
    obtain ⟨f', hM', hK⟩ := hM1.rowW (v' := v') (way' := a.way ++ [a.way.getD m []]) (Chg.of_grown hg fun _ h => h) (by rw [List.length_append]; exact hown) (fresh_of hv) ((hw1.grown hg hl50).append (h1.grown hg hl50))
    obtain ⟨h1, h2⟩ := hK ob tO 4 F (hc.below hb hc.blk) h5
    exact ⟨⟨f', hM', h2⟩, h1⟩
  · intro v' w1 w' n hb hown hn hg hv
    subst hn
    have hM1 := hM.below hb
    have hw1 : Els w' (relab2 f w1.heap.size v' (40 + k)) vs a.way := hw.imp fun u d hd => (hd.move (Chg.of_below (S := fun _ => False) hb) (f' := f) (fun _ _ h => h.elim) (fun _ _ => rfl)).move (Chg.of_below (S := fun _ => False) hg) (fun _ _ h => h.elim) (fun x hx => if_pos hx)
    obtain ⟨f', hM', hK⟩ := hM1.rowW (v' := v') (way' := a.way.take m ++ a.way.drop (m + 1)) ((Chg.of_below (S := fun _ => False) hg).mono fun _ _ h => h.elim) hown (.inr hv) ((hw1.take m).append (hw1.drop (m + 1)))
    obtain ⟨h1, h2⟩ := hK ob tO 4 F (hc.below hb hc.blk) h5
    exact ⟨⟨f', hM', h2⟩, h1⟩
theorem pair_at {α : Type} (k : Nat) (x y : α) : pairF k x y k = x := if_pos rfl
/-- The cells that are stored into next, behind an append. -/
theorem St.celT (h : St tE tW tT tO W w q ob k j a b F) (hg : w.grownBy w' a.vt.ownBlock) : ∃ f, Cel w' q.tb tT 2 f ∧ f k = a.vt ∧ k < 2 := by
  obtain ⟨⟨f, hM, _⟩, _⟩ := h
  have hkj := hM.kj
  exact ⟨_, hM.ct.grown hg (fun e => by have h1 := hM.sa.ft _ e; have h2 := hM.ft; omega), pair_at _ _ _, by omega⟩
theorem St.celR (h : St tE tW tT tO W w q ob k j a b F) (hg : w.grownBy w' a.vr.ownBlock) : ∃ f, Cel w' q.rb tT 2 f ∧ f k = a.vr ∧ k < 2 := by
  obtain ⟨⟨f, hM, _⟩, _⟩ := h
  have hkj := hM.kj
  exact ⟨_, hM.cr.grown hg (fun e => by have h1 := hM.sa.fr _ e; have h2 := hM.fr; omega), pair_at _ _ _, by omega⟩
theorem St.celW (h : St tE tW tT tO W w q ob k j a b F) (hg : w.grownBy w' a.vw.ownBlock) : ∃ f, Cel w' q.wb tW 2 f ∧ f k = a.vw ∧ k < 2 := by
  obtain ⟨⟨f, hM, _⟩, _⟩ := h
  have hkj := hM.kj
  exact ⟨_, hM.cw.grown hg (fun e => by have h1 := hM.sa.fw _ e; have h2 := hM.fw; omega), pair_at _ _ _, by omega⟩
theorem StO.celW {v : Value} {ls : List (List Int)} (h : StO tE tW tT tO W w q ob k j a b F v ls) (hg : w.grownBy w' b.vw.ownBlock) : ∃ f, Cel w' q.wb tW 2 f ∧ f j = b.vw ∧ j < 2 := by
  obtain ⟨⟨f, vs, us, hM, _⟩, _⟩ := h
  have hkj := hM.kj
  exact ⟨_, hM.swap.cw.grown hg (fun e => by have h1 := hM.sb.fw _ e; have h2 := hM.fw; omega), pair_at _ _ _, by omega⟩
theorem St.rows (h : St tE tW tT tO W w q ob k j a b F) : OwnS w 0 5 1 a.vt a.tl.length (a.tl.map (Value.int .u8)) ∧ OwnS w 0 5 1 a.vr a.rl.length (a.rl.map (Value.int .u8)) ∧ OwnS w 0 5 1 b.vt b.tl.length (b.tl.map (Value.int .u8)) := by
  obtain ⟨⟨f, hM, _⟩, _⟩ := h
  exact ⟨hM.sa.t, hM.sa.r, hM.sb.t⟩
theorem St.drw (h : St tE tW tT tO W w q ob k j a b F) : St tE tW tT tO W w.drew q ob k j a b F := h.below (Below.refl _ _).drew
end
end Go.Proofs.Ytoeipgbnjcgbjaa
/- Two ends and the document's two, the datagrams on the way to each: how they lie in memory in StreamPlays, and what each statement leaves of them. -/
namespace Go.Proofs.Ytoeipgbnjcgbjaa
open Go.RowKit
set_option linter.unusedVariables false

def sV (l : List Int) : Value := .string (strOfNums l)
/-- One side: the program's end, the document's, the datagrams on the way to it. -/
structure Pd where
  g : Nat
  s : En
  vo : Value
  vi : Value
  r : Nat
  t : En
  vw : Value
  way : List (List Int)
structure PdAt (w : World) (f : Nat → Nat) (i : Nat) (d : Pd) : Prop where
  e : EnAt d.g w d.s d.vo d.vi
  ok : EnOk d.s
  fin : EnFin d.s
  ra : RefAt d.r w d.t
  wo : OwnS w 0 9 1 d.vw d.way.length (d.way.map sV)
  fe : ∀ b, Fp d.g d.vo d.vi b → f b = 10 + i
  fr : f d.r = 20 + i
  fw : ∀ b, d.vw.ownBlock = some b → f b = 40 + i
structure Qk where
  eb : Nat
  rb : Nat
  wb : Nat
def ptrE (d : Pd) : Value := .pointer (some ⟨d.g, 0, none⟩)
def ptrR (d : Pd) : Value := .pointer (some ⟨d.r, 0, none⟩)
structure PMem (tE tR tW : TypeId) (B : Nat) (W w : World) (f : Nat → Nat) (k j : Nat) (q : Qk) (a b : Pd) : Prop where
  sa : PdAt w f k a
  sb : PdAt w f j b
  ce : Cel w q.eb tE 2 (pairF k (ptrE a) (ptrE b))
  cr : Cel w q.rb tR 2 (pairF k (ptrR a) (ptrR b))
  cw : Cel w q.wb tW 2 (pairF k a.vw b.vw)
  fe : f q.eb = 1
  fr : f q.rb = 2
  fw : f q.wb = 3
  low : ∀ x, f x ≠ 0 → B ≤ x
  bel : Below B W w
  kj : (k = 0 ∧ j = 1) ∨ (k = 1 ∧ j = 0)
section
variable {tE tR tW : TypeId} {B : Nat} {W w w' : World} {f f' : Nat → Nat} {k j i : Nat} {q : Qk} {a b d : Pd}
theorem PMem.swap (h : PMem tE tR tW B W w f k j q a b) : PMem tE tR tW B W w f j k q b a :=
  ⟨h.sb, h.sa, h.ce.congr (pair_swap h.kj), h.cr.congr (pair_swap h.kj), h.cw.congr (pair_swap h.kj), h.fe, h.fr, h.fw, h.low, h.bel, by have := h.kj; omega⟩
theorem PdAt.move {S : Nat → Prop} (h : PdAt w f i d) (hc : Chg S w w') (hS : ∀ b, b < w.heap.size → S b → f b ≠ 10 + i ∧ f b ≠ 20 + i ∧ f b ≠ 40 + i) (hf : ∀ b, b < w.heap.size → f' b = f b) : PdAt w' f' i d := by
  refine ⟨h.e.chg hc (fun b hb hs => (hS b (h.e.fp_lt b hb) hs).1 (h.fe b hb)), h.ok, h.fin, h.ra.chg hc (fun hs => (hS _ h.ra.blk hs).2.1 h.fr), h.wo.chg hc (fun b hb hs => (hS b (h.wo.lt b hb).2 hs).2.2 (h.fw b hb)), ?_, ?_, ?_⟩
  · exact fun b hb => (hf b (h.e.fp_lt b hb)).trans (h.fe b hb)
  · exact (hf _ h.ra.blk).trans h.fr
  · exact fun b hb => (hf b (h.wo.lt b hb).2).trans (h.fw b hb)
theorem PMem.blk (h : PMem tE tR tW B W w f k j q a b) : q.eb < w.heap.size ∧ q.rb < w.heap.size ∧ q.wb < w.heap.size := ⟨h.ce.blk, h.cr.blk, h.cw.blk⟩
theorem PMem.size (h : PMem tE tR tW B W w f k j q a b) : B ≤ w.heap.size := Nat.le_of_lt (Nat.lt_of_le_of_lt (h.low q.eb (by rw [h.fe]; decide)) h.ce.blk)
theorem PMem.below (h : PMem tE tR tW B W w f k j q a b) (hb : Below w.heap.size w w') : PMem tE tR tW B W w' f k j q a b := by
  have hc : Chg (fun _ => False) w w' := Chg.of_below hb
  exact ⟨h.sa.move hc (fun _ _ h => h.elim) (fun _ _ => rfl), h.sb.move hc (fun _ _ h => h.elim) (fun _ _ => rfl), h.ce.chg hc id, h.cr.chg hc id, h.cw.chg hc id, h.fe, h.fr, h.fw, h.low, h.bel.trans (hb.mono h.size), h.kj⟩
theorem PMem.cellE (h : PMem tE tR tW B W w f k j q a b) : w.cell? ⟨q.eb, k, none⟩ = some (.pointer (some ⟨a.g, 0, none⟩)) := by
  have := h.ce.cell k (by have := h.kj; omega)
  rwa [pairF, if_pos rfl] at this
theorem PMem.cellR (h : PMem tE tR tW B W w f k j q a b) : w.cell? ⟨q.rb, k, none⟩ = some (.pointer (some ⟨a.r, 0, none⟩)) := by
  have := h.cr.cell k (by have := h.kj; omega)
  rwa [pairF, if_pos rfl] at this
theorem PMem.cellW (h : PMem tE tR tW B W w f k j q a b) : w.cell? ⟨q.wb, k, none⟩ = some a.vw := by
  have := h.cw.cell k (by have := h.kj; omega)
  rwa [pairF, if_pos rfl] at this
/-- What a call on the one end of the program leaves. -/
theorem PMem.stepE {S : Nat → Prop} {s' : En} {vo' vi' : Value} (h : PMem tE tR tW B W w f k j q a b) (hE : EnAt a.g w' s' vo' vi') (hok : EnOk s') (hfin : EnFin s') (hC : Chg S w w') (hS : ∀ x, x < w.heap.size → S x → Fp a.g a.vo a.vi x) (hFo : Fresh w a.vo vo') (hFi : Fresh w a.vi vi') :
    ∃ f', PMem tE tR tW B W w' f' k j q { a with s := s', vo := vo', vi := vi' } b ∧ Keep w f w' f' := by
  have hl : ∀ x, x < w.heap.size → S x → f x = 10 + k := fun x hx hs => h.sa.fe x (hS x hx hs)
  have hkj := h.kj
  have hold : ∀ x, x < w.heap.size → relab f w.heap.size (10 + k) x = f x := fun x hx => relab_old hx
  have hb := h.sb.move (f' := relab f w.heap.size (10 + k)) hC (fun x hx hs => by have := hl x hx hs; omega) hold
  have hz := h.blk
  have key : ∀ {l : Nat} {x : Nat}, x < w.heap.size → f x = l → l ≠ 10 + k → ¬ S x := fun hx hf hne hs => hne ((hf.symm).trans (hl _ hx hs))
  refine ⟨relab f w.heap.size (10 + k), ⟨⟨hE, hok, hfin, h.sa.ra.chg hC (key h.sa.ra.blk h.sa.fr (by omega)), h.sa.wo.chg hC (fun x hx => key (h.sa.wo.lt x hx).2 (h.sa.fw x hx) (by omega)), ?_, (hold _ h.sa.ra.blk).trans h.sa.fr, fun x hx => (hold x (h.sa.wo.lt x hx).2).trans (h.sa.fw x hx)⟩, hb, h.ce.chg hC (key hz.1 h.fe (by omega)), h.cr.chg hC (key hz.2.1 h.fr (by omega)), h.cw.chg hC (key hz.2.2 h.fw (by omega)), (hold _ hz.1).trans h.fe, (hold _ hz.2.1).trans h.fr, (hold _ hz.2.2).trans h.fw, ?_, ?_, h.kj⟩, ?_⟩
  · have fresh : ∀ {v v' : Value}, Fresh w v v' → (∀ x, v.ownBlock = some x → Fp a.g a.vo a.vi x) → ∀ x, v'.ownBlock = some x → relab f w.heap.size (10 + k) x = 10 + k := by
      intro v v' hF hv x hx
      rcases hF with hF | hF
      · have h1 := hv x (by rw [← hF]; exact hx)
        rw [hold x (h.sa.e.fp_lt x h1)]
        exact h.sa.fe x h1
      · exact relab_new (hF x hx)
    rintro x (rfl | hx | hx)
    · show relab f w.heap.size (10 + k) a.g = _
      rw [hold _ h.sa.e.blk]; exact h.sa.fe _ (.inl rfl)
    · exact fresh hFo (fun x hx => .inr (.inl hx)) x hx
    · exact fresh hFi (fun x hx => .inr (.inr hx)) x hx
  · intro x hx
    by_cases hlt : x < w.heap.size
    · exact h.low x (by rwa [hold x hlt] at hx)
    · have := h.size; omega
  · exact h.bel.trans (hC.below h.size (fun x hx hs => by have h1 := h.size; have := hl x (by omega) hs; have := h.low x (by omega); omega))
  · intro x T n F hc hf
    exact ⟨hc.chg hC (key hc.blk hf (by omega)), (hold x hc.blk).trans hf⟩
/-- What a call on the one end of the document leaves. -/
theorem PMem.stepR {t' : En} (h : PMem tE tR tW B W w f k j q a b) (hR : RefAt a.r w' t') (hC : Chg (fun x => x = a.r) w w') :
    PMem tE tR tW B W w' f k j q { a with t := t' } b ∧ Keep w f w' f := by
  have hkj := h.kj
  have hz := h.blk
  have hfr := h.sa.fr
  have key : ∀ {l : Nat} {x : Nat}, f x = l → l ≠ 20 + k → ¬ x = a.r := fun hf hne hs => hne (by rw [← hf, hs]; exact hfr)
  refine ⟨⟨⟨h.sa.e.chg hC (fun x hx => key (h.sa.fe x hx) (by omega)), h.sa.ok, h.sa.fin, hR, h.sa.wo.chg hC (fun x hx => key (h.sa.fw x hx) (by omega)), h.sa.fe, h.sa.fr, h.sa.fw⟩, h.sb.move hC (fun x hx hs => by subst hs; omega) (fun _ _ => rfl), h.ce.chg hC (key h.fe (by omega)), h.cr.chg hC (key h.fr (by omega)), h.cw.chg hC (key h.fw (by omega)), h.fe, h.fr, h.fw, h.low, ?_, h.kj⟩, ?_⟩
  · exact h.bel.trans (hC.below h.size (fun x hx hs => by subst hs; have := h.low a.r (by omega); omega))
  · intro x T n F hc hf
    exact ⟨hc.chg hC (key hf (by omega)), hf⟩
/-- A way's row has grown (or is new), and its value was stored into the cell of the one side. -/
theorem PMem.rowW {v' : Value} {way' : List (List Int)} (h : PMem tE tR tW B W w f k j q a b) (hC : Chg (fun x => a.vw.ownBlock = some x) w w') (ho : OwnS w' 0 9 1 v' way'.length (way'.map sV)) (hF : Fresh w a.vw v') :
    ∃ f', PMem tE tR tW B W (w'.setCell ⟨q.wb, k, none⟩ v') f' k j q { a with vw := v', way := way' } b ∧ Keep w f (w'.setCell ⟨q.wb, k, none⟩ v') f' := by
  have hkj := h.kj
  have hz := h.blk
  have hC2 : Chg (fun x => a.vw.ownBlock = some x ∨ x = q.wb) w (w'.setCell ⟨q.wb, k, none⟩ v') := (hC.mono (fun x _ hx => .inl hx)).setCell (.inl (.inr rfl)) v'
  have hl : ∀ x, x < w.heap.size → (a.vw.ownBlock = some x ∨ x = q.wb) → f x = 40 + k ∨ f x = 3 := by
    rintro x hx (h1 | rfl)
    · exact .inl (h.sa.fw x h1)
    · exact .inr h.fw
  have hold : ∀ x, x < w.heap.size → relab f w.heap.size (40 + k) x = f x := fun x hx => relab_old hx
  have hb := h.sb.move (f' := relab f w.heap.size (40 + k)) hC2 (fun x hx hs => by have := hl x hx hs; omega) hold
  have hft : ∀ x, v'.ownBlock = some x → relab f w.heap.size (40 + k) x = 40 + k := by
    intro x hx
    rcases hF with hF | hF
    · rw [hF] at hx
      rw [hold x (h.sa.wo.lt x hx).2]; exact h.sa.fw x hx
    · exact relab_new (hF x hx)
  have key : ∀ {l : Nat} {x : Nat}, x < w.heap.size → f x = l → l ≠ 40 + k → l ≠ 3 → ¬ (a.vw.ownBlock = some x ∨ x = q.wb) := fun hx hf h1 h2 hs => by have := hl _ hx hs; omega
  refine ⟨relab f w.heap.size (40 + k), ⟨⟨h.sa.e.chg hC2 (fun x hx => key (h.sa.e.fp_lt x hx) (h.sa.fe x hx) (by omega) (by omega)), h.sa.ok, h.sa.fin, h.sa.ra.chg hC2 (key h.sa.ra.blk h.sa.fr (by omega) (by omega)), ?_, fun x hx => (hold x (h.sa.e.fp_lt x hx)).trans (h.sa.fe x hx), (hold _ h.sa.ra.blk).trans h.sa.fr, hft⟩, hb, h.ce.chg hC2 (key hz.1 h.fe (by omega) (by omega)), h.cr.chg hC2 (key hz.2.1 h.fr (by omega) (by omega)), ?_, (hold _ hz.1).trans h.fe, (hold _ hz.2.1).trans h.fr, (hold _ hz.2.2).trans h.fw, ?_, ?_, h.kj⟩, ?_⟩
  · refine ho.setFar (fun he => ?_) _
    have h1 := hft _ he
    rw [hold _ hz.2.2, h.fw] at h1
    omega
  · have hcw : Cel w' q.wb tW 2 (pairF k a.vw b.vw) := h.cw.chg hC (fun hs => by have h1 := h.sa.fw _ hs; have h2 := h.fw; omega)
    refine (hcw.set k v').congr (fun i hi => ?_)
    unfold pairF
    split
    · rfl
    · rfl
  · intro x hx
    by_cases hlt : x < w.heap.size
    · exact h.low x (by rwa [hold x hlt] at hx)
    · have := h.size; omega
  · refine h.bel.trans (hC2.below h.size (fun x hx hs => ?_))
    have h1 := h.size
    have := hl x (by omega) hs
    have := h.low x (by omega)
    omega
  · intro x T n F hc hf
    exact ⟨hc.chg hC2 (key hc.blk hf (by omega) (by omega)), (hold x hc.blk).trans hf⟩
end
end Go.Proofs.Ytoeipgbnjcgbjaa
/- StreamPlays: all that the walk holds within a round, and what each call leaves of it. -/
namespace Go.Proofs.Ytoeipgbnjcgbjaa
open Go.RowKit
set_option linter.unusedVariables false

structure PSt (tE tR tW tO : TypeId) (W w : World) (q : Qk) (ob k j : Nat) (a b : Pd) (F : Nat → Value) : Prop where
  m : ∃ f, PMem tE tR tW W.heap.size W w f k j q a b ∧ f ob = 5
  c : Cel w ob tO 4 F
section
variable {tE tR tW tO : TypeId} {W w w' : World} {q : Qk} {ob k j : Nat} {a b a' : Pd} {F : Nat → Value}
theorem PSt.next (h : PSt tE tR tW tO W w q ob k j a b F) (hn : ∀ f, PMem tE tR tW W.heap.size W w f k j q a b → ∃ f', PMem tE tR tW W.heap.size W w' f' k j q a' b ∧ Keep w f w' f') : PSt tE tR tW tO W w' q ob k j a' b F := by
  obtain ⟨⟨f, hM, h5⟩, hc⟩ := h
  obtain ⟨f', hM', hK⟩ := hn f hM
  obtain ⟨h1, h2⟩ := hK ob tO 4 F hc h5
  exact ⟨⟨f', hM', h2⟩, h1⟩
theorem PSt.below (h : PSt tE tR tW tO W w q ob k j a b F) (hb : Below w.heap.size w w') : PSt tE tR tW tO W w' q ob k j a b F :=
  h.next fun f hM => ⟨f, hM.below hb, Keep.below hb⟩
theorem PSt.drw (h : PSt tE tR tW tO W w q ob k j a b F) : PSt tE tR tW tO W w.drew q ob k j a b F := h.below (Below.refl _ _).drew
theorem PSt.drew (h : PSt tE tR tW tO W w q ob k j a b F) (n : Nat) : PSt tE tR tW tO W (w.drewN n) q ob k j a b F := h.below ⟨rfl, rfl, rfl, Nat.le_refl _, fun _ _ => rfl⟩
theorem PSt.end_ (h : PSt tE tR tW tO W w q ob k j a b F) : EnAt a.g w a.s a.vo a.vi ∧ EnOk a.s ∧ EnFin a.s ∧ RefAt a.r w a.t := by
  obtain ⟨⟨f, hM, _⟩, _⟩ := h
  exact ⟨hM.sa.e, hM.sa.ok, hM.sa.fin, hM.sa.ra⟩
theorem PSt.low (h : PSt tE tR tW tO W w q ob k j a b F) : Below W.heap.size W w := by
  obtain ⟨⟨f, hM, _⟩, _⟩ := h
  exact hM.bel
theorem PSt.kj (h : PSt tE tR tW tO W w q ob k j a b F) : (k = 0 ∧ j = 1) ∨ (k = 1 ∧ j = 0) := by
  obtain ⟨⟨f, hM, _⟩, _⟩ := h
  exact hM.kj
theorem PSt.cE (h : PSt tE tR tW tO W w q ob k j a b F) : w.cell? ⟨q.eb, k, none⟩ = some (.pointer (some ⟨a.g, 0, none⟩)) := by
  obtain ⟨⟨f, hM, _⟩, _⟩ := h
  exact hM.cellE
theorem PSt.cR (h : PSt tE tR tW tO W w q ob k j a b F) : w.cell? ⟨q.rb, k, none⟩ = some (.pointer (some ⟨a.r, 0, none⟩)) := by
  obtain ⟨⟨f, hM, _⟩, _⟩ := h
  exact hM.cellR
theorem PSt.cW (h : PSt tE tR tW tO W w q ob k j a b F) : w.cell? ⟨q.wb, k, none⟩ = some a.vw := by
  obtain ⟨⟨f, hM, _⟩, _⟩ := h
  exact hM.cellW
theorem PSt.cWj (h : PSt tE tR tW tO W w q ob k j a b F) : w.cell? ⟨q.wb, j, none⟩ = some b.vw := by
  obtain ⟨⟨f, hM, _⟩, _⟩ := h
  exact hM.swap.cellW
theorem PSt.rowOf (h : PSt tE tR tW tO W w q ob k j a b F) : OwnS w 0 9 1 a.vw a.way.length (a.way.map sV) ∧ OwnS w 0 9 1 b.vw b.way.length (b.way.map sV) := by
  obtain ⟨⟨f, hM, _⟩, _⟩ := h
  exact ⟨hM.sa.wo, hM.sb.wo⟩
theorem PSt.step {S : Nat → Prop} {s' : En} {vo' vi' : Value} (h : PSt tE tR tW tO W w q ob k j a b F) (hE : EnAt a.g w' s' vo' vi') (hok : EnOk s') (hfin : EnFin s') (hC : Chg S w w') (hS : ∀ x, x < w.heap.size → S x → Fp a.g a.vo a.vi x) (hFo : Fresh w a.vo vo') (hFi : Fresh w a.vi vi') :
    PSt tE tR tW tO W w' q ob k j { a with s := s', vo := vo', vi := vi' } b F :=
  h.next fun f hM => hM.stepE hE hok hfin hC hS hFo hFi
theorem PSt.stepR {t' : En} (h : PSt tE tR tW tO W w q ob k j a b F) (hR : RefAt a.r w' t') (hC : Chg (fun x => x = a.r) w w') : PSt tE tR tW tO W w' q ob k j { a with t := t' } b F :=
  h.next fun f hM => ⟨f, hM.stepR hR hC⟩
theorem PSt.write {xs : List Int} {e : Ending} (h : PSt tE tR tW tO W w q ob k j a b F) (hb : Bytes xs) (hp : WrPost a.g a.s a.vo a.vi xs w e w') :
    ∃ vo', e = .returned (.int .i64 (writeS a.s xs).1) ∧ PSt tE tR tW tO W w' q ob k j { a with s := (writeS a.s xs).2, vo := vo', vi := a.vi } b F := by
  obtain ⟨vo', he, hE, hC, hF⟩ := hp
  obtain ⟨_, hok, hfin, _⟩ := h.end_
  exact ⟨vo', he, h.step hE (writeS_ok _ _ hok hb) (writeS_fin _ _ hfin) hC (fun x _ hx => hx.elim .inl (fun hx => .inr (.inl hx))) hF (Fresh.refl _ _)⟩
theorem PSt.close (h : PSt tE tR tW tO W w q ob k j a b F) (hE : EnAt a.g w' (closeS a.s).2 a.vo a.vi) (hC : Chg (fun x => x = a.g) w w') :
    PSt tE tR tW tO W w' q ob k j { a with s := (closeS a.s).2, vo := a.vo, vi := a.vi } b F := by
  obtain ⟨_, hok, hfin, _⟩ := h.end_
  exact h.step hE (closeS_ok _ hok) (closeS_fin _ hfin) hC (fun x _ hx => .inl hx) (Fresh.refl _ _) (Fresh.refl _ _)
theorem PSt.take {d : List Int} {now : Int} {e : Ending} (h : PSt tE tR tW tO W w q ob k j a b F) (hd : Bytes d) (hn : (Lit.int .i64 now).wf = true) (hp : TakePost a.g (inS a.s d now) a.vo a.vi w e w') :
    e = .returned (.tuple #[]) ∧ ∃ vi', PSt tE tR tW tO W w' q ob k j { a with s := inS a.s d now, vo := a.vo, vi := vi' } b F := by
  obtain ⟨he, vi', hE, hC, hF⟩ := hp
  obtain ⟨_, hok, hfin, _⟩ := h.end_
  exact ⟨he, vi', h.step hE (inS_ok _ _ _ hok hd hn hfin) (inS_fin _ _ _ hfin hok) hC (fun x _ hx => hx.elim .inl (fun hx => .inr (.inr hx))) (Fresh.refl _ _) hF⟩
theorem PSt.read {e : Ending} (h : PSt tE tR tW tO W w q ob k j a b F) (hp : RdPost a.g a.s a.vo a.vi w e w') :
    ∃ A, e = .returned (.slice A (readS a.s).1.length (readS a.s).1.length) ∧ OwnS w' w.heap.size 5 1 (.slice A (readS a.s).1.length (readS a.s).1.length) (readS a.s).1.length ((readS a.s).1.map (Value.int .u8)) ∧ PSt tE tR tW tO W w' q ob k j { a with s := (readS a.s).2, vo := a.vo, vi := a.vi } b F := by
  obtain ⟨A, he, ho, hE, hC⟩ := hp
  obtain ⟨_, hok, hfin, _⟩ := h.end_
  exact ⟨A, he, ho, h.step hE (readS_ok _ hok) ⟨hfin.1, hfin.2⟩ hC (fun x _ hx => .inl hx) (Fresh.refl _ _) (Fresh.refl _ _)⟩
/-- A way has got another row. -/
theorem PSt.rowW {v' : Value} {way' : List (List Int)} (h : PSt tE tR tW tO W w q ob k j a b F) (hC : Chg (fun x => a.vw.ownBlock = some x) w w') (ho : OwnS w' 0 9 1 v' way'.length (way'.map sV)) (hF : Fresh w a.vw v') :
    PSt tE tR tW tO W (w'.setCell ⟨q.wb, k, none⟩ v') q ob k j { a with vw := v', way := way' } b F :=
  h.next fun f hM => hM.rowW hC ho hF
theorem PSt.swap (h : PSt tE tR tW tO W w q ob k j a b F) : PSt tE tR tW tO W w q ob j k b a F := by
  obtain ⟨⟨f, hM, h5⟩, hc⟩ := h
  exact ⟨⟨f, hM.swap, h5⟩, hc⟩
end
end Go.Proofs.Ytoeipgbnjcgbjaa
/- StreamPlays: what the two Outs leave of a round. -/
namespace Go.Proofs.Ytoeipgbnjcgbjaa
open Go.RowKit
set_option linter.unusedVariables false

section
variable {tE tR tW tO : TypeId} {W w w' : World} {q : Qk} {ob k j : Nat} {a b a' : Pd} {F : Nat → Value}
theorem PSt.out {now : Int} {e : Ending} (h : PSt tE tR tW tO W w q ob k j a b F) (hn : (Lit.int .i64 now).wf = true) (hp : OutPost a.g a.s a.vo a.vi now w e w') :
    ∃ A, e = .returned (.slice A (outS a.s now).1.length (outS a.s now).1.length) ∧ OutsAt w.heap.size w' (.slice A (outS a.s now).1.length (outS a.s now).1.length) (outS a.s now).1 ∧ PSt tE tR tW tO W w' q ob k j { a with s := (outS a.s now).2, vo := a.vo, vi := a.vi } b F := by
  obtain ⟨A, he, hO, hE, hC⟩ := hp
  obtain ⟨_, hok, hfin, _⟩ := h.end_
  exact ⟨A, he, hO, h.step hE (outS_ok _ _ hok hn) (outS_fin _ _ hfin hok hn) hC (fun x _ hx => .inl hx) (Fresh.refl _ _) (Fresh.refl _ _)⟩
theorem PSt.outR {t' : En} {ls : List (List Int)} {e : Ending} (h : PSt tE tR tW tO W w q ob k j a b F) (hp : OutPostR a.r w t' ls e w') :
    ∃ v, e = .returned v ∧ StrsAt w.heap.size w' v ls ∧ PSt tE tR tW tO W w' q ob k j { a with t := t' } b F := by
  obtain ⟨v, he, hs⟩ := hp
  exact ⟨v, he, hs.o, h.stepR hs.r hs.chg⟩
theorem PSt.new {cs : Array Value} {f : Nat → Nat} (h : PMem tE tR tW W.heap.size W w f k j q a b) (hcs : cs.size = 4) (hF : ∀ i, i < cs.size → cs[i]? = some (F i)) : PSt tE tR tW tO W (w.alloc (.cells cs tO)) q w.heap.size k j a b F := by
  have hb : Below w.heap.size w (w.alloc (.cells cs tO)) := (Below.refl _ _).alloc (Nat.le_refl _) _
  have h1 := h.below hb
  have hsz := h.size
  have hold : ∀ x, x < w.heap.size → relab f w.heap.size 5 x = f x := fun x hx => relab_old hx
  have hz := h.blk
  have hc : Chg (fun _ => False) w (w.alloc (.cells cs tO)) := Chg.of_below hb
  refine ⟨⟨relab f w.heap.size 5, ⟨h.sa.move hc (fun _ _ h => h.elim) hold, h.sb.move hc (fun _ _ h => h.elim) hold, h1.ce, h1.cr, h1.cw, (hold _ hz.1).trans h.fe, (hold _ hz.2.1).trans h.fr, (hold _ hz.2.2).trans h.fw, ?_, h1.bel, h.kj⟩, relab_new (Nat.le_refl _)⟩, ?_⟩
  · intro x hx
    by_cases hlt : x < w.heap.size
    · exact h.low x (by rwa [hold x hlt] at hx)
    · omega
  · have := Cel.new w tO cs F hF
    rwa [hcs] at this
theorem PSt.cO (h : PSt tE tR tW tO W w q ob k j a b F) (i : Nat) (hi : i < 4) : w.cell? ⟨ob, i, none⟩ = some (F i) := h.c.cell i hi
def pd0 (id : Int) (g r : Nat) (st : Int) : Pd := ⟨g, newEnd id st, .slice none 0 0, .slice none 0 0, r, newEnd id st, .slice none 0 0, []⟩
def lab0 (g0 g1 eb r0 r1 rb wb x : Nat) : Nat := if x = g0 then 10 else if x = g1 then 11 else if x = eb then 1 else if x = r0 then 20 else if x = r1 then 21 else if x = rb then 2 else if x = wb then 3 else 0
theorem pd0_at {id : Int} {f : Nat → Nat} {i g r : Nat} {st : Int} (hst : 1 ≤ st ∧ st ≤ 4) (h : EnAt g w (newEnd id st) (.slice none 0 0) (.slice none 0 0)) (hr : RefAt r w (newEnd id st)) (hf : f g = 10 + i) (hf2 : f r = 20 + i) : PdAt w f i (pd0 id g r st) := by
  refine ⟨h, newEnd_ok id st hst, newEnd_fin id st, hr, OwnS.nil _ _ _ _, ?_, hf2, ?_⟩
  · rintro x (rfl | hx | hx)
    · exact hf
    · cases hx
    · cases hx
  · intro x hx; cases hx
/-- The memory as the loop finds it. -/
theorem PMem.init {B : Nat} {id : Int} {g0 g1 eb r0 r1 rb wb : Nat} (hB : B ≤ g0) (h1 : g0 < g1) (h2 : g1 < eb) (h3 : eb < r0) (h4 : r0 < r1) (h5 : r1 < rb) (h6 : rb < wb)
    (e0 : EnAt g0 w (newEnd id 1) (.slice none 0 0) (.slice none 0 0)) (e1 : EnAt g1 w (newEnd id 2) (.slice none 0 0) (.slice none 0 0)) (d0 : RefAt r0 w (newEnd id 1)) (d1 : RefAt r1 w (newEnd id 2))
    (ce : Cel w eb tE 2 (pairF 0 (.pointer (some ⟨g0, 0, none⟩)) (.pointer (some ⟨g1, 0, none⟩)))) (cr : Cel w rb tR 2 (pairF 0 (.pointer (some ⟨r0, 0, none⟩)) (.pointer (some ⟨r1, 0, none⟩)))) (cw : Cel w wb tW 2 (pairF 0 (.slice none 0 0) (.slice none 0 0))) (hb : Below B W w) :
    PMem tE tR tW B W w (lab0 g0 g1 eb r0 r1 rb wb) 0 1 ⟨eb, rb, wb⟩ (pd0 id g0 r0 1) (pd0 id g1 r1 2) := by
  refine ⟨pd0_at (by decide) e0 d0 ?_ ?_, pd0_at (by decide) e1 d1 ?_ ?_, ce, cr, cw, ?_, ?_, ?_, ?_, hb, .inl ⟨rfl, rfl⟩⟩
  · unfold lab0; rw [if_pos rfl]
  · unfold lab0; rw [if_neg (by omega), if_neg (by omega), if_neg (by omega), if_pos rfl]
  · unfold lab0; rw [if_neg (by omega), if_pos rfl]
  · unfold lab0; rw [if_neg (by omega), if_neg (by omega), if_neg (by omega), if_neg (by omega), if_pos rfl]
  · show lab0 g0 g1 eb r0 r1 rb wb eb = 1
    unfold lab0; rw [if_neg (by omega), if_neg (by omega), if_pos rfl]
  · show lab0 g0 g1 eb r0 r1 rb wb rb = 2
    unfold lab0; rw [if_neg (by omega), if_neg (by omega), if_neg (by omega), if_neg (by omega), if_neg (by omega), if_pos rfl]
  · show lab0 g0 g1 eb r0 r1 rb wb wb = 3
    unfold lab0; rw [if_neg (by omega), if_neg (by omega), if_neg (by omega), if_neg (by omega), if_neg (by omega), if_neg (by omega), if_pos rfl]
  · intro x hx
    rcases Nat.lt_or_ge x B with hl | hl
    · exfalso; apply hx
      unfold lab0; rw [if_neg (by omega), if_neg (by omega), if_neg (by omega), if_neg (by omega), if_neg (by omega), if_neg (by omega), if_neg (by omega)]
    · exact hl
end
end Go.Proofs.Ytoeipgbnjcgbjaa
/- StreamOrder: what holds between the operations of the regions that draw their order. -/
namespace Go.Proofs.Ytoeipgbnjcgbjaa
open Go.RowKit
set_option linter.unusedVariables false

section
variable {P : Program} {w : World}
theorem Src.owns {base : Nat} {e : TypeId} {n c : Nat} {A : Option Addr} {us : List Value} (h : OwnS w base e 1 (.slice A n c) n us) (h1 : ∀ u ∈ us, u.oneCell' = true) : Src P w 1 (.slice A n c) n us := by
  refine Src.vals (by rw [h.1]) h1 (fun hl => ?_)
  obtain ⟨g, off, c', hv, _, _, hc⟩ := h.cells hl
  injection hv with hA
  refine ⟨⟨g, off, none⟩, hA, fun j u hj => ?_⟩
  rw [Addr.add_lit, hc j (List.getElem?_eq_some_iff.1 hj).1, hj]
end
theorem OwnS.take1 {w : World} {base n : Nat} {e : TypeId} {xs : List Value} {A : Option Addr} {c k : Nat} (h : OwnS w base e 1 (.slice A n c) n xs) (hk : k ≤ n) (h0 : 0 < n) : OwnS w base e 1 (.slice A k c) k (xs.take k) := by
  have hl := h.1
  refine ⟨by rw [List.length_take, hl]; omega, ?_⟩
  rcases h.2 with ⟨hv, hn⟩ | ⟨g, off, cap, cur, hv, hb, hgg, hn, hm, hs, ht⟩
  · omega
  · injection hv with hA _ hc
    subst hA; subst hc
    refine .inr ⟨g, off, c, cur, rfl, hb, hgg, by omega, hm, hs, ?_⟩
    rw [← ht, List.take_take]
    congr 1
    omega
theorem OwnS.place {w : World} {base n : Nat} {e : TypeId} {xs : List Value} {v : Value} (h : OwnS w base e 1 v n xs) (h0 : 0 < n) : ∃ g o c, v = .slice (some ⟨g, o, none⟩) n c ∧ n ≤ c ∧ c ≤ maxLen ∧ g < w.heap.size ∧ ∀ j, j < xs.length → w.cell? ⟨g, o + j, none⟩ = xs[j]? := by
  obtain ⟨g, o, c, hv, _, hg, hc⟩ := h.cells (by have := h.1; omega)
  rcases h.2 with ⟨_, hn⟩ | ⟨g', off, cap, cur, hv', _, _, hn, hm, _⟩
  · omega
  · rw [hv] at hv'
    injection hv' with _ _ hcc
    exact ⟨g, o, c, hv, by omega, by omega, hg, hc⟩
theorem SentBy.ok {out d : List Int} (h : SentBy out d) : Bytes d ∧ d.length ≤ 419 := by
  obtain ⟨q, h1, h2, rfl, _⟩ := h
  exact ⟨segL_ok q h2, by have h3 := segL_len q; have h4 : (q.data.take 400).length ≤ 400 := List.length_take_le _ _; omega⟩
/-- A store of what an append leaves: between the operations. -/
def IApp (S0 C : World → Prop) (S1 : Value → World → Prop) (t : Addr) : List Value → World → Prop
  | [], w => S0 w
  | [v], w => C w ∧ S1 v (w.setCell t v)
  | _, w => ∃ v, S1 v w
/-- Write: between the operations. -/
def I19 (tE tW tT tO : TypeId) (W : World) (q : Bk) (ob k j : Nat) (a b : Sd) (F : Nat → Value) (s' : En) : List Value → World → Prop
  | [], w => St tE tW tT tO W w q ob k j a b F
  | _, w => ∃ vo', St tE tW tT tO W w q ob k j { a with s := s', vo := vo', vi := a.vi } b F
/-- What was read grows by what Read tells. -/
def I37 (tE tW tT tO : TypeId) (W : World) (q : Bk) (ob k j : Nat) (a b : Sd) (F : Nat → Value) (s' : En) (x : List Int) : List Value → World → Prop
  | [], w => St tE tW tT tO W w q ob k j a b F
  | [v], w => ∃ A, v = .slice A x.length x.length ∧ OwnS w 0 5 1 (.slice A x.length x.length) x.length (x.map (Value.int .u8)) ∧ St tE tW tT tO W w q ob k j { a with s := s', vo := a.vo, vi := a.vi } b F
  | [_, v], w => (∃ f, Cel w q.rb tT 2 f) ∧ St tE tW tT tO W (w.setCell ⟨q.rb, k, none⟩ v) q ob k j { a with s := s', vo := a.vo, vi := a.vi, vr := v, rl := a.rl ++ x } b F
  | _, w => ∃ vr, St tE tW tT tO W w q ob k j { a with s := s', vo := a.vo, vi := a.vi, vr := vr, rl := a.rl ++ x } b F
theorem I37.cell {tE tW tT tO : TypeId} {W w : World} {q : Bk} {ob k j : Nat} {a b : Sd} {F : Nat → Value} {s' : En} {x : List Int} {us : Nat → Value} {p1 p2 p3 m : Nat} (hm : m ≤ 1) (h : I37 tE tW tT tO W q ob k j a b F s' x (List.map us (List.take m [p1, p2, p3])) w) : w.cell? ⟨q.rb, k, none⟩ = some a.vr := by
  match m, hm with
  | 0, _ => exact St.cR h
  | 1, _ =>
    obtain ⟨A, _, _, h⟩ := h
    exact h.cR
/-- A row is cut in two about one place: between the operations. -/
def I34 (w0 : World) (L m : Nat) (vs : List Value) (C : World → Prop) (S1 : Value → World → Prop) (t : Addr) : List Value → World → Prop
  | [], w => Below w0.heap.size w0 w
  | [v], w => Below w0.heap.size w0 w ∧ ∃ g, v = .slice (some ⟨g, 0, none⟩) 0 0 ∧ OwnS w w0.heap.size 22 1 v 0 []
  | [_, v], w => Below w0.heap.size w0 w ∧ OwnS w w0.heap.size 22 1 v m (vs.take m)
  | [_, _, v], w => C w ∧ S1 v (w.setCell t v)
  | _, w => ∃ v, S1 v w
theorem OwnS.none_new {w : World} {base : Nat} {e : TypeId} (hb : base ≤ w.heap.size) : OwnS (w.alloc (.cells #[] e)) base e 1 (.slice (some ⟨w.heap.size, 0, none⟩) 0 0) 0 [] :=
  ⟨rfl, .inr ⟨w.heap.size, 0, 0, #[], rfl, hb, ⟨(0, 0), heap_alloc_new w _, .inl (Nat.le_refl _)⟩, Nat.le_refl _, Nat.zero_le _, Nat.le_refl _, rfl⟩⟩
theorem grown_below {w0 w w' : World} {v : Value} (hb : Below w0.heap.size w0 w) (hg : w.grownBy w' v.ownBlock) (hv : ∀ k, v.ownBlock = some k → w0.heap.size ≤ k) : Below w0.heap.size w0 w' :=
  hb.trans ((Chg.of_grown (S := fun k => v.ownBlock = some k) hg (fun _ h => h)).below hb.size (fun k hk hs => by have := hv k hs; omega))
theorem way_cel {tE tW tT : TypeId} {B : Nat} {W w w' : World} {f : Nat → Nat} {k j : Nat} {q : Bk} {a b : Sd} {o : Obj} {v : Value} (hM : Mem tE tW tT B W w f k j q a b) (hv : a.vw = v) (hg : (w.alloc o).grownBy w' v.ownBlock) : ∃ F, Cel w' q.wb tW 2 F := by
  subst hv
  refine ⟨_, (hM.cw.alloc o).grown hg (fun e => by have h1 := hM.sa.fw _ e; have h2 := hM.fw; omega)⟩
theorem St.cutRow {tE tW tT tO : TypeId} {W w : World} {q : Bk} {ob k j : Nat} {a b : Sd} {F : Nat → Value} (h : St tE tW tT tO W w q ob k j a b F) {m : Nat} (hm : m < a.way.length) :
    ∃ vs g o c, a.vw = .slice (some ⟨g, o, none⟩) a.way.length c ∧ a.way.length ≤ c ∧ c ≤ maxLen ∧ OwnS w 0 22 1 (.slice (some ⟨g, o, none⟩) a.way.length c) a.way.length vs ∧ (∀ u ∈ vs, u.oneCell' = true) ∧ q.wb < w.heap.size ∧ (∃ f, Cel w q.wb tW 2 f) ∧
      ∀ v w' n, OwnS w' w.heap.size 22 1 v n (vs.take m ++ vs.drop (m + 1)) → n = (a.way.take m ++ a.way.drop (m + 1)).length → Below w.heap.size w w' →
        St tE tW tT tO W (w'.setCell ⟨q.wb, k, none⟩ v) q ob k j { a with vw := v, way := a.way.take m ++ a.way.drop (m + 1) } b F := by
  obtain ⟨f, vs', hM, _, ho', hE⟩ := h.wayOf
  obtain ⟨vs, A, hvm, _, ho, _, hcu⟩ := h.twice hm
  obtain ⟨g, o, c, hv, h1, h2, hg, hc⟩ := ho.place (by omega)
  have hvs : ∀ u ∈ vs, u.oneCell' = true := by
    have : vs = vs' := by
      apply List.ext_getElem?
      intro i
      obtain ⟨g', o', c', hv', _, _, _, hc'⟩ := ho'.place (by omega)
      rw [hv] at hv'
      injection hv' with hA
      injection hA with hA
      injection hA with hA1 hA2
      subst hA1; subst hA2
      rcases Nat.lt_or_ge i vs.length with hi | hi
      · rw [← hc i hi, hc' i (by rw [ho'.1, ← ho.1]; exact hi)]
      · rw [List.getElem?_eq_none hi, List.getElem?_eq_none (by rw [ho'.1, ← ho.1]; exact hi)]
    rw [this]; exact hE.one_
  refine ⟨vs, g, o, c, hv, h1, h2, hv ▸ ho, hvs, hM.blk.2.1, ⟨_, hM.cw⟩, ?_⟩
  intro v w' n hO hn hb
  exact hcu v w w' n (Below.refl _ _) (hO.base_ (Nat.zero_le _)) hn hb (fun x hx => (hO.lt x hx).1)
theorem I34.below {w0 w : World} {L m : Nat} {vs : List Value} {C : World → Prop} {S1 : Value → World → Prop} {t : Addr} {us : Nat → Value} {p1 p2 p3 p4 x : Nat} (hm : x ≤ 2) (h : I34 w0 L m vs C S1 t (List.map us (List.take x [p1, p2, p3, p4])) w) : Below w0.heap.size w0 w := by
  match x, hm with
  | 0, _ => exact h
  | 1, _ => exact h.1
  | 2, _ => exact h.1
/-- The way grows by what Out tells: between the operations. -/
def I24 (tE tW tT tO : TypeId) (W : World) (q : Bk) (ob k j : Nat) (a b : Sd) (F : Nat → Value) (s' : En) (ls : List (List Int)) : List Value → World → Prop
  | [], w => St tE tW tT tO W w q ob k j a b F
  | [v], w => ∃ A, v = .slice A ls.length ls.length ∧ StO tE tW tT tO W w q ob k j { a with s := s', vo := a.vo, vi := a.vi } b F (.slice A ls.length ls.length) ls
  | [_, v], w => (∃ f, Cel w q.wb tW 2 f) ∧ St tE tW tT tO W (w.setCell ⟨q.wb, j, none⟩ v) q ob k j { a with s := s', vo := a.vo, vi := a.vi } { b with vw := v, way := b.way ++ ls } F
  | _, w => ∃ vw, St tE tW tT tO W w q ob k j { a with s := s', vo := a.vo, vi := a.vi } { b with vw := vw, way := b.way ++ ls } F
theorem I24.cell {tE tW tT tO : TypeId} {W w : World} {q : Bk} {ob k j : Nat} {a b : Sd} {F : Nat → Value} {s' : En} {ls : List (List Int)} {us : Nat → Value} {x y z m : Nat} (hm : m ≤ 1) (h : I24 tE tW tT tO W q ob k j a b F s' ls (List.map us (List.take m [x, y, z])) w) : w.cell? ⟨q.wb, j, none⟩ = some b.vw := by
  match m, hm with
  | 0, _ => exact St.cWj h
  | 1, _ =>
    obtain ⟨A, _, h⟩ := h
    obtain ⟨⟨f, vs, us, hM, _⟩, _⟩ := h
    exact hM.swap.cellW
end Go.Proofs.Ytoeipgbnjcgbjaa
/- StreamPlays: what holds between rounds, in plain words, and that each step keeps it. -/
namespace Go.Proofs.Ytoeipgbnjcgbjaa
open Go.RowKit
set_option linter.unusedVariables false

/-- One side between rounds. -/
structure PlaS (N : Nat) (a : Pd) : Prop where
  sim : Sim a.s a.t
  at_ : (Lit.int .i64 a.t.at_).wf = true
  way : ∀ d ∈ a.way, Bytes d ∧ d.length ≤ 419
  len : a.way.length ≤ 1048600 * N
def Pla (N : Nat) (a b : Pd) : Prop := PlaS N a ∧ PlaS N b
theorem Pla.swap {N : Nat} {a b : Pd} (h : Pla N a b) : Pla N b a := ⟨h.2, h.1⟩
theorem PlaS.more {N : Nat} {a : Pd} (h : PlaS N a) : PlaS (N + 1) a := ⟨h.sim, h.at_, h.way, by have := h.len; omega⟩
theorem Pla.more {N : Nat} {a b : Pd} (h : Pla N a b) : Pla (N + 1) a b := ⟨h.1.more, h.2.more⟩
theorem PlaS.zero (id : Int) (g r : Nat) (st : Int) : PlaS 0 (pd0 id g r st) := ⟨Sim.refl (fun h => by cases h), by show (Lit.int .i64 0).wf = true; decide, fun d h => (by cases h), Nat.zero_le _⟩
theorem Pla.zero (id : Int) (g0 r0 g1 r1 : Nat) : Pla 0 (pd0 id g0 r0 1) (pd0 id g1 r1 2) := ⟨PlaS.zero .., PlaS.zero ..⟩
theorem PlaS.way_cut {N : Nat} {a : Pd} {v : Value} (h : PlaS N a) (m : Nat) : PlaS N { a with vw := v, way := a.way.take m ++ a.way.drop (m + 1) } :=
  ⟨h.sim, h.at_, fun d hd => by
    rcases List.mem_append.mp hd with hd | hd
    · exact h.way d (List.mem_of_mem_take hd)
    · exact h.way d (List.mem_of_mem_drop hd), by
    have := h.len
    show (a.way.take m ++ a.way.drop (m + 1)).length ≤ _
    rw [List.length_append, List.length_take, List.length_drop]; omega⟩
theorem PlaS.way_two {N : Nat} {a : Pd} {v : Value} {d : List Int} (h : PlaS N a) (hd : d ∈ a.way) : PlaS (N + 1) { a with vw := v, way := a.way ++ [d] } :=
  ⟨h.sim, h.at_, fun x hx => by
    rcases List.mem_append.mp hx with hx | hx
    · exact h.way x hx
    · rw [List.mem_singleton] at hx; subst hx; exact h.way _ hd, by
    have := h.len
    show (a.way ++ [d]).length ≤ _
    rw [List.length_append, List.length_singleton]; omega⟩
theorem PlaS.way_out {N : Nat} {a : Pd} {v : Value} {s : En} {now : Int} (h : PlaS N a) (ho : EnOk s) (hn : (Lit.int .i64 now).wf = true) : PlaS (N + 1) { a with vw := v, way := a.way ++ (outS s now).1 } :=
  ⟨h.sim, h.at_, fun x hx => by
    rcases List.mem_append.mp hx with hx | hx
    · exact h.way x hx
    · exact (outS_sent s now ho hn x hx).ok, by
    have := h.len
    have := outS_len s now ho
    show (a.way ++ (outS s now).1).length ≤ _
    rw [List.length_append]; omega⟩
theorem PlaS.write {N : Nat} {a : Pd} {vo vi : Value} (h : PlaS N a) (xs : List Int) : (writeS a.t xs).1 = (writeS a.s xs).1 ∧ PlaS N { a with s := (writeS a.s xs).2, vo := vo, vi := vi, t := (writeS a.t xs).2 } := by
  obtain ⟨h1, h2, h3⟩ := sim_write h.sim xs
  refine ⟨h1, h2, ?_, h.way, h.len⟩
  show (Lit.int .i64 (writeS a.t xs).2.at_).wf = true
  rw [h3]; exact h.at_
theorem PlaS.close {N : Nat} {a : Pd} {vo vi : Value} (h : PlaS N a) : (closeS a.t).1 = (closeS a.s).1 ∧ PlaS N { a with s := (closeS a.s).2, vo := vo, vi := vi, t := (closeS a.t).2 } := by
  obtain ⟨h1, h2, h3⟩ := sim_close h.sim
  refine ⟨h1, h2, ?_, h.way, h.len⟩
  show (Lit.int .i64 (closeS a.t).2.at_).wf = true
  rw [h3]; exact h.at_
theorem PlaS.read {N : Nat} {a : Pd} {vo vi : Value} (h : PlaS N a) : (readS a.t).1 = (readS a.s).1 ∧ PlaS N { a with s := (readS a.s).2, vo := vo, vi := vi, t := (readS a.t).2 } := by
  obtain ⟨h1, h2, h3⟩ := sim_read h.sim
  refine ⟨h1, h2, ?_, h.way, h.len⟩
  show (Lit.int .i64 (readS a.t).2.at_).wf = true
  rw [h3]; exact h.at_
theorem PlaS.out {N : Nat} {a : Pd} {vo vi : Value} {now : Int} (h : PlaS N a) (ok : EnOk a.s) (fin : EnFin a.s) (hn : (Lit.int .i64 now).wf = true) : (outS a.t now).1 = (outS a.s now).1 ∧ PlaS N { a with s := (outS a.s now).2, vo := vo, vi := vi, t := (outS a.t now).2 } := by
  obtain ⟨h1, h2, h3⟩ := sim_out h.sim fin ok now
  refine ⟨h1, h2, ?_, h.way, h.len⟩
  show (Lit.int .i64 (outS a.t now).2.at_).wf = true
  rcases h3 with h3 | h3
  · rw [h3]; exact h.at_
  · rw [h3]; exact (outS_ok a.s now ok hn).at_
theorem PlaS.take {N : Nat} {a : Pd} {vo vi : Value} {now : Int} (h : PlaS N a) (ok : EnOk a.s) (fin : EnFin a.s) (d : List Int) (hn : (Lit.int .i64 now).wf = true) : PlaS N { a with s := inS a.s d now, vo := vo, vi := vi, t := rInS a.t d now } := by
  obtain ⟨h2, h3⟩ := sim_in h.sim fin ok d now
  refine ⟨h2, ?_, h.way, h.len⟩
  show (Lit.int .i64 (rInS a.t d now).at_).wf = true
  rcases h3 with h3 | h3
  · rw [h3]; exact h.at_
  · rw [h3]; exact hn
def PlaRel (tE tR tW : TypeId) (W : World) (q : Qk) (n : Nat) (nw i : Value) (w : World) : Prop :=
  ∃ (N : Nat) (now : Int) (f : Nat → Nat) (a b : Pd), i = .int .i64 N ∧ nw = .int .i64 now ∧ N ≤ n ∧ N ≤ 120 ∧ 0 ≤ now ∧ now ≤ 15 * N ∧ PMem tE tR tW W.heap.size W w f 0 1 q a b ∧ Pla N a b
theorem PlaRel.of {tE tR tW : TypeId} {W w : World} {q : Qk} {N n k j : Nat} {f : Nat → Nat} {now : Int} {a b : Pd} (hN : N ≤ n) (h5 : N ≤ 120) (h0 : 0 ≤ now) (h1 : now ≤ 15 * N) (hM : PMem tE tR tW W.heap.size W w f k j q a b) (hP : Pla N a b) : PlaRel tE tR tW W q n (.int .i64 now) (.int .i64 N) w := by
  rcases hM.kj with ⟨rfl, rfl⟩ | ⟨rfl, rfl⟩
  · exact ⟨N, now, f, a, b, rfl, rfl, hN, h5, h0, h1, hM, hP⟩
  · exact ⟨N, now, f, b, a, rfl, rfl, hN, h5, h0, h1, hM.swap, hP.swap⟩
/-- The sides, as the round sees them: k's first. -/
theorem rolesP {tE tR tW : TypeId} {W w : World} {q : Qk} {k N : Nat} {f : Nat → Nat} {a b : Pd} (hk : k ≤ 1) (hM : PMem tE tR tW W.heap.size W w f 0 1 q a b) (hP : Pla N a b) : ∃ j a' b', PMem tE tR tW W.heap.size W w f k j q a' b' ∧ Pla N a' b' := by
  have : k = 0 ∨ k = 1 := by omega
  rcases this with rfl | rfl
  · exact ⟨1, a, b, hM, hP⟩
  · exact ⟨0, b, a, hM.swap, hP.swap⟩
end Go.Proofs.Ytoeipgbnjcgbjaa
/- The stable sort, in plain lists: what is inserted one by one is what is merged. -/
set_option linter.unusedVariables false
namespace Go.Proofs.Ytoeipgbnjcgbjaa.Srt
variable {α : Type}

/-- A strict weak order. -/
structure Swo (lt : α → α → Bool) : Prop where
  irr : ∀ a, lt a a = false
  tr : ∀ a b c, lt a b = true → lt b c = true → lt a c = true
  co : ∀ a b c, lt b a = false → lt c b = false → lt c a = false

def ins (lt : α → α → Bool) (x : α) : List α → List α
  | [] => [x]
  | y :: l => if lt x y = true then x :: y :: l else y :: ins lt x l
/-- What is inserted one behind the other. -/
def isortA (lt : α → α → Bool) (acc : List α) (l : List α) : List α := l.foldl (fun a x => ins lt x a) acc
def isort (lt : α → α → Bool) (l : List α) : List α := isortA lt [] l
def mrg (lt : α → α → Bool) : List α → List α → List α
  | [], v => v
  | u, [] => u
  | a :: u, b :: v => if lt b a = true then b :: mrg lt (a :: u) v else a :: mrg lt u (b :: v)
  termination_by u v => u.length + v.length

def Sorted (lt : α → α → Bool) (l : List α) : Prop := l.Pairwise fun a b => lt b a = false

section
variable {lt : α → α → Bool}
@[simp] theorem mrg_nil (v : List α) : mrg lt [] v = v := by unfold mrg; rfl
@[simp] theorem mrg_nil' (u : List α) : mrg lt u [] = u := by cases u <;> (unfold mrg; rfl)
theorem mrg_cons (a b : α) (u v : List α) : mrg lt (a :: u) (b :: v) = if lt b a = true then b :: mrg lt (a :: u) v else a :: mrg lt u (b :: v) := by
  rw [mrg]
theorem isort_snoc (l : List α) (x : α) : isort lt (l ++ [x]) = ins lt x (isort lt l) := by
  simp [isort, isortA, List.foldl_append]
theorem isort_nil : isort lt ([] : List α) = [] := rfl
theorem ins_perm (x : α) : ∀ l : List α, (ins lt x l).Perm (x :: l)
  | [] => List.Perm.refl _
  | y :: l => by
    unfold ins
    split
    · exact List.Perm.refl _
    · exact ((ins_perm x l).cons y).trans (List.Perm.swap x y l)
theorem ins_length (x : α) (l : List α) : (ins lt x l).length = l.length + 1 := (ins_perm x l).length_eq
theorem isort_perm (l : List α) : (isort lt l).Perm l := by
  suffices ∀ (l acc : List α), (isortA lt acc l).Perm (acc ++ l) by simpa [isort] using this l []
  intro l
  induction l with
  | nil => intro acc; simp [isortA]
  | cons x l ih =>
    intro acc
    show (isortA lt (ins lt x acc) l).Perm _
    refine (ih _).trans ?_
    refine ((ins_perm x acc).append_right l).trans ?_
    simpa using List.perm_middle.symm
theorem isort_length (l : List α) : (isort lt l).length = l.length := (isort_perm l).length_eq
theorem mem_isort {l : List α} {x : α} : x ∈ isort lt l ↔ x ∈ l := (isort_perm l).mem_iff
theorem ins_sorted (h : Swo lt) (x : α) : ∀ l : List α, Sorted lt l → Sorted lt (ins lt x l)
  | [], _ => by simp [Sorted, ins]
  | y :: l, hl => by
    unfold Sorted at hl ⊢
    obtain ⟨h1, h2⟩ := List.pairwise_cons.1 hl
    unfold ins
    by_cases hc : lt x y = true
    · rw [if_pos hc]
      refine List.pairwise_cons.2 ⟨?_, hl⟩
      have hyx : lt y x = false := by
        cases e : lt y x
        · rfl
        · have := h.tr _ _ _ hc e; rw [h.irr] at this; cases this
      intro z hz
      rcases List.mem_cons.1 hz with rfl | hz
      · exact hyx
      · exact h.co _ _ _ hyx (h1 z hz)
    · rw [if_neg hc]
      refine List.pairwise_cons.2 ⟨?_, ins_sorted h x l h2⟩
      intro z hz
      have hz' := (ins_perm (lt := lt) x l).mem_iff.1 hz
      rcases List.mem_cons.1 hz' with rfl | hz'
      · simpa using hc
      · exact h1 z hz'
theorem isort_sorted (h : Swo lt) (l : List α) : Sorted lt (isort lt l) := by
  suffices ∀ (l acc : List α), Sorted lt acc → Sorted lt (isortA lt acc l) from this l [] List.Pairwise.nil
  intro l
  induction l with
  | nil => intro acc ha; exact ha
  | cons x l ih => intro acc ha; exact ih _ (ins_sorted h x acc ha)
/-- What is inserted behind a merge is inserted into its second part. -/
theorem mrg_ins (h : Swo lt) (x : α) (u v : List α) : mrg lt u (ins lt x v) = ins lt x (mrg lt u v) := by
  induction v generalizing u with
  | nil =>
    induction u with
    | nil => simp [ins]
    | cons a u ih =>
      simp only [ins, mrg_nil'] at ih ⊢
      rw [mrg_cons]
      by_cases hc : lt x a = true
      · rw [if_pos hc, if_pos hc, mrg_nil']
      · rw [if_neg hc, if_neg hc, ih]
  | cons b v ihv =>
    induction u with
    | nil => simp
    | cons a u ihu =>
      by_cases hxb : lt x b = true
      · have e1 : ins lt x (b :: v) = x :: b :: v := by unfold ins; rw [if_pos hxb]
        rw [e1] at ihu ⊢
        rw [mrg_cons, mrg_cons]
        by_cases hba : lt b a = true
        · rw [if_pos hba, if_pos (h.tr _ _ _ hxb hba)]
          show _ = ins lt x (b :: _)
          unfold ins
          rw [if_pos hxb]
        · rw [if_neg hba]
          show _ = ins lt x (a :: _)
          unfold ins
          by_cases hxa : lt x a = true
          · rw [if_pos hxa, if_pos hxa]
          · rw [if_neg hxa, if_neg hxa, ihu]
      · have e1 : ins lt x (b :: v) = b :: ins lt x v := by conv => lhs; unfold ins; rw [if_neg hxb]
        rw [e1] at ihu ⊢
        rw [mrg_cons, mrg_cons]
        by_cases hba : lt b a = true
        · rw [if_pos hba, if_pos hba, ihv]
          conv => rhs; unfold ins; rw [if_neg hxb]
        · rw [if_neg hba, if_neg hba]
          have hxa : ¬ lt x a = true := by
            rw [h.co a b x (by simpa using hba) (by simpa using hxb)]; decide
          conv => rhs; unfold ins; rw [if_neg hxa]
          rw [ihu]
theorem snoc_induct {P : List α → Prop} (h0 : P []) (h1 : ∀ l x, P l → P (l ++ [x])) (l : List α) : P l := by
  have : ∀ l : List α, P l.reverse := by
    intro l
    induction l with
    | nil => exact h0
    | cons x l ih => rw [List.reverse_cons]; exact h1 _ _ ih
  simpa using this l.reverse
theorem isort_append (h : Swo lt) (u v : List α) : isort lt (u ++ v) = mrg lt (isort lt u) (isort lt v) := by
  induction v using snoc_induct with
  | h0 => simp [isort_nil]
  | h1 l x ih => rw [← List.append_assoc, isort_snoc, isort_snoc, ih, mrg_ins h]
theorem mrg_perm (u v : List α) : (mrg lt u v).Perm (u ++ v) := by
  fun_induction mrg lt u v with
  | case1 v => simp
  | case2 u => simp
  | case3 a u b v hc ih => exact (ih.cons b).trans (by simpa using (List.perm_middle (a := b) (l₁ := a :: u) (l₂ := v)).symm)
  | case4 a u b v hc ih => exact ih.cons a
theorem mrg_length (u v : List α) : (mrg lt u v).length = u.length + v.length := by simpa using (mrg_perm (lt := lt) u v).length_eq
theorem mrg_split : ∀ (u1 u2 v1 v2 : List α), (∀ x ∈ u1, ∀ y ∈ v2, lt y x = false) → (∀ x ∈ u2, ∀ y ∈ v1, lt y x = true) → mrg lt (u1 ++ u2) (v1 ++ v2) = mrg lt u1 v1 ++ mrg lt u2 v2
  | [], [], [], v2, _, _ => by simp
  | [], a :: u2, [], v2, _, _ => by simp
  | [], [], b :: v1, v2, _, _ => by simp
  | [], a :: u2, b :: v1, v2, h1, h2 => by
    have hb := h2 a (by simp) b (by simp)
    have ih := mrg_split [] (a :: u2) v1 v2 (fun x hx => by cases hx) (fun x hx y hy => h2 x hx y (by simp [hy]))
    simp only [List.nil_append, List.cons_append, mrg_nil] at ih ⊢
    rw [mrg_cons, if_pos hb, ih]
  | a :: u1, u2, [], [], _, _ => by simp
  | a :: u1, u2, [], b :: v2, h1, h2 => by
    have hb := h1 a (by simp) b (by simp)
    have ih := mrg_split u1 u2 [] (b :: v2) (fun x hx y hy => h1 x (by simp [hx]) y hy) (fun x _ y hy => by cases hy)
    simp only [List.nil_append, List.cons_append, mrg_nil'] at ih ⊢
    rw [mrg_cons, if_neg (by rw [hb]; decide), ih]
  | a :: u1, u2, b :: v1, v2, h1, h2 => by
    have ih1 := mrg_split (a :: u1) u2 v1 v2 h1 (fun x hx y hy => h2 x hx y (by simp [hy]))
    have ih2 := mrg_split u1 u2 (b :: v1) v2 (fun x hx y hy => h1 x (by simp [hx]) y hy) h2
    simp only [List.cons_append] at ih1 ih2 ⊢
    rw [mrg_cons, mrg_cons]
    by_cases hc : lt b a = true
    · rw [if_pos hc, if_pos hc, ih1]; rfl
    · rw [if_neg hc, if_neg hc, ih2]; rfl
  termination_by u1 u2 v1 v2 => u1.length + v1.length
/-- Blocks of a size, each of them sorted. -/
def lvl (lt : α → α → Bool) (bs : Nat) (l : List α) : List α :=
  if h : l = [] ∨ bs = 0 then l else isort lt (l.take bs) ++ lvl lt bs (l.drop bs)
  termination_by l.length
  decreasing_by
  have h1 : l ≠ [] := fun e => h (.inl e)
  have := List.length_pos_iff.2 h1
  rw [List.length_drop]; omega
theorem lvl_short {bs : Nat} {l : List α} (h0 : 0 < bs) (h : l.length ≤ bs) : lvl lt bs l = isort lt l := by
  rw [lvl]
  split
  · rename_i hh
    rcases hh with rfl | hh
    · rfl
    · omega
  · rw [List.take_of_length_le h, List.drop_of_length_le h, lvl, dif_pos (.inl rfl), List.append_nil]
theorem lvl_cut {bs : Nat} (l m : List α) (h0 : 0 < bs) (h : l.length = bs) : lvl lt bs (l ++ m) = isort lt l ++ lvl lt bs m := by
  rw [lvl, dif_neg]
  · rw [List.take_left' h, List.drop_left' h]
  · rintro (hh | hh)
    · have := congrArg List.length hh; rw [List.length_append, List.length_nil] at this; omega
    · omega
theorem lvl_length (bs : Nat) (l : List α) : (lvl lt bs l).length = l.length := by
  fun_induction lvl lt bs l with
  | case1 => rfl
  | case2 l h ih => rw [List.length_append, ih, isort_length, List.length_take, List.length_drop]; omega
theorem mrg_one (x : α) (v1 v2 : List α) (h1 : ∀ y ∈ v1, lt y x = true) (h2 : ∀ y ∈ v2, lt y x = false) : mrg lt [x] (v1 ++ v2) = v1 ++ x :: v2 := by
  have e := mrg_split (lt := lt) [] [x] v1 v2 (fun _ h => by cases h) (fun z hz y hy => by rw [List.mem_singleton.1 hz]; exact h1 y hy)
  have e2 := mrg_split (lt := lt) [x] [] [] v2 (fun z hz y hy => by rw [List.mem_singleton.1 hz]; exact h2 y hy) (fun _ h => by cases h)
  simp only [List.nil_append, List.append_nil, mrg_nil, mrg_nil', List.cons_append] at e e2
  rw [e, e2]
theorem mrg_last (y : α) (u1 u2 : List α) (h1 : ∀ x ∈ u1, lt y x = false) (h2 : ∀ x ∈ u2, lt y x = true) : mrg lt (u1 ++ u2) [y] = u1 ++ y :: u2 := by
  have e := mrg_split (lt := lt) u1 u2 [] [y] (fun z hz w hw => by rw [List.mem_singleton.1 hw]; exact h1 z hz) (fun _ _ _ h => by cases h)
  have e2 := mrg_split (lt := lt) [] u2 [y] [] (fun _ h => by cases h) (fun z hz w hw => by rw [List.mem_singleton.1 hw]; exact h2 z hz)
  simp only [List.nil_append, List.append_nil, mrg_nil, mrg_nil', List.cons_append] at e e2
  rw [e, e2]
theorem ins_at (x : α) : ∀ (l1 l2 : List α), (∀ y ∈ l1, lt x y = false) → (∀ y t, l2 = y :: t → lt x y = true) → ins lt x (l1 ++ l2) = l1 ++ x :: l2
  | [], [], _, _ => rfl
  | [], y :: t, _, h2 => by
    show ins lt x (y :: t) = _
    unfold ins
    rw [if_pos (h2 y t rfl)]; rfl
  | z :: l1, l2, h1, h2 => by
    show ins lt x (z :: (l1 ++ l2)) = _
    unfold ins
    rw [if_neg (by rw [h1 z (by simp)]; decide), ins_at x l1 l2 (fun y hy => h1 y (by simp [hy])) h2]; rfl
/-- What goes for the last of a sorted row goes for all. -/
theorem Sorted.all_lt (h : Swo lt) {l : List α} {x z : α} (hs : Sorted lt (l ++ [z])) (hz : lt z x = true) : ∀ y ∈ l ++ [z], lt y x = true := by
  intro y hy
  rcases List.mem_append.1 hy with hy | hy
  · cases e : lt y x
    · have := (List.pairwise_append.1 hs).2.2 y hy z (by simp)
      have := h.co x y z e this
      rw [hz] at this; cases this
    · rfl
  · rw [List.mem_singleton.1 hy]; exact hz
theorem Sorted.all_le (h : Swo lt) {l : List α} {x z : α} (hs : Sorted lt (l ++ [z])) (hz : lt x z = false) : ∀ y ∈ l ++ [z], lt x y = false := by
  intro y hy
  rcases List.mem_append.1 hy with hy | hy
  · exact h.co y z x ((List.pairwise_append.1 hs).2.2 y hy z (by simp)) hz
  · rw [List.mem_singleton.1 hy]; exact hz
theorem Sorted.all_ge (h : Swo lt) {l : List α} {x z : α} (hs : Sorted lt (z :: l)) (hz : lt z x = false) : ∀ y ∈ z :: l, lt y x = false := by
  intro y hy
  rcases List.mem_cons.1 hy with rfl | hy
  · exact hz
  · exact h.co x z y hz ((List.pairwise_cons.1 hs).1 y hy)
theorem Sorted.all_gt (h : Swo lt) {l : List α} {x z : α} (hs : Sorted lt (z :: l)) (hz : lt x z = true) : ∀ y ∈ z :: l, lt x y = true := by
  intro y hy
  rcases List.mem_cons.1 hy with rfl | hy
  · exact hz
  · cases e : lt x y
    · have := h.co z y x ((List.pairwise_cons.1 hs).1 y hy) e
      rw [hz] at this; cases this
    · rfl
theorem Sorted.left {u v : List α} (h : Sorted lt (u ++ v)) : Sorted lt u := (List.pairwise_append.1 h).1
theorem Sorted.right {u v : List α} (h : Sorted lt (u ++ v)) : Sorted lt v := (List.pairwise_append.1 h).2.1
theorem mrg_sorted (h : Swo lt) : ∀ (u v : List α), Sorted lt u → Sorted lt v → Sorted lt (mrg lt u v)
  | [], v, _, hv => by simpa using hv
  | a :: u, [], hu, _ => by simpa using hu
  | a :: u, b :: v, hu, hv => by
    rw [mrg_cons]
    have h1 := List.pairwise_cons.1 hu
    have h2 := List.pairwise_cons.1 hv
    by_cases hc : lt b a = true
    · rw [if_pos hc]
      refine List.pairwise_cons.2 ⟨?_, mrg_sorted h (a :: u) v hu h2.2⟩
      intro z hz
      have hab : lt a b = false := by
        cases e : lt a b
        · rfl
        · have := h.tr _ _ _ hc e; rw [h.irr] at this; cases this
      rcases List.mem_append.1 ((mrg_perm _ _).mem_iff.1 hz) with hz | hz
      · rcases List.mem_cons.1 hz with rfl | hz
        · exact hab
        · exact h.co _ _ _ hab (h1.1 z hz)
      · exact h2.1 z hz
    · rw [if_neg hc]
      refine List.pairwise_cons.2 ⟨?_, mrg_sorted h u (b :: v) h1.2 hv⟩
      intro z hz
      have hba : lt b a = false := by simpa using hc
      rcases List.mem_append.1 ((mrg_perm _ _).mem_iff.1 hz) with hz | hz
      · exact h1.1 z hz
      · rcases List.mem_cons.1 hz with rfl | hz
        · exact hba
        · exact h.co _ _ _ hba (h2.1 z hz)
  termination_by u v => u.length + v.length
end
end Go.Proofs.Ytoeipgbnjcgbjaa.Srt
/- A row of elements in memory: what a place holds, what a store and an exchange leave. No program's function is named here. -/
namespace Go.Proofs.Ytoeipgbnjcgbjaa
open Go.RowKit
set_option linter.unusedVariables false

/-- Cells laid one behind the other. -/
def putCells (w : World) (g : Nat) : Nat → List Value → World
  | _, [] => w
  | o, v :: vs => putCells (w.setCell ⟨g, o, none⟩ v) g (o + 1) vs
section
variable {α : Type} {w w' : World} {T : TypeId} {sz g off cap : Nat} {enc : α → List Value} {L : List α}
/-- A row of elements that lies in a block at a place. -/
structure SRow (w : World) (T : TypeId) (sz : Nat) (enc : α → List Value) (g off cap : Nat) (L : List α) : Prop where
  own : OwnS w 0 T sz (.slice (some ⟨g, off, none⟩) L.length cap) L.length (L.flatMap enc)
  enc : ∀ x, (enc x).length = sz
theorem flat_length (he : ∀ x, (enc x).length = sz) (L : List α) : (L.flatMap enc).length = L.length * sz := by
  induction L with
  | nil => simp
  | cons x L ih => rw [List.flatMap_cons, List.length_append, he, ih, List.length_cons, Nat.succ_mul]; omega
theorem flat_at (he : ∀ x, (enc x).length = sz) : ∀ (L : List α) (i c : Nat) (x : α), L[i]? = some x → c < sz → (L.flatMap enc)[i * sz + c]? = (enc x)[c]?
  | [], _, _, _, h, _ => by simp at h
  | y :: L, 0, c, x, h, hc => by
    simp at h
    subst h
    rw [List.flatMap_cons, Nat.zero_mul, Nat.zero_add, List.getElem?_append_left (by rw [he]; exact hc)]
  | y :: L, i + 1, c, x, h, hc => by
    rw [List.flatMap_cons, List.getElem?_append_right (by rw [he, Nat.succ_mul]; omega), he, show (i + 1) * sz + c - sz = i * sz + c by rw [Nat.succ_mul]; omega]
    exact flat_at he L i c x (by simpa using h) hc
theorem SRow.cell (h : SRow w T sz enc g off cap L) {i c : Nat} {x : α} (hi : L[i]? = some x) (hc : c < sz) : w.cell? ⟨g, off + i * sz + c, none⟩ = some ((enc x).getD c undef) := by
  have hlt : i < L.length := (List.getElem?_eq_some_iff.1 hi).1
  have hmul : i * sz + c < L.length * sz := by
    have h1 : (i + 1) * sz ≤ L.length * sz := Nat.mul_le_mul_right _ hlt
    rw [Nat.succ_mul] at h1
    omega
  have hfl := flat_length h.enc L
  obtain ⟨g', off', c', hv, _, _, hcell⟩ := h.own.cells (by rw [hfl]; omega)
  injection hv with hA
  injection hA with hA
  injection hA with h1 h2
  subst h1; subst h2
  rw [Nat.add_assoc, hcell _ (by rw [hfl]; exact hmul), flat_at h.enc L i c x hi hc, List.getD_eq_getElem?_getD, List.getElem?_eq_getElem (by rw [h.enc]; exact hc)]
  rfl
theorem SRow.blk (h : SRow w T sz enc g off cap L) : g < w.heap.size := (h.own.lt g rfl).2
theorem SRow.capLe (h : SRow w T sz enc g off cap L) : L.length ≤ cap ∧ cap ≤ maxLen := by
  rcases h.own.2 with ⟨hv, _⟩ | ⟨g', off', cap', cur, hv, _, _, hn, hm, _⟩
  · cases hv
  · injection hv with _ _ hc
    subst hc
    exact ⟨hn, hm⟩
theorem SRow.there (h : SRow w T sz enc g off cap L) : ∃ cur fr, w.heap[g]? = some (.cells cur T fr) ∧ (fr.2 ≤ fr.1 ∨ cur.size ≤ fr.1) ∧ off + cap * sz ≤ cur.size := by
  rcases h.own.2 with ⟨hv, _⟩ | ⟨g', off', cap', cur, hv, _, ⟨fr, hg, hf⟩, hn, hm, hs, _⟩
  · cases hv
  · injection hv with hA _ hc
    injection hA with hA
    injection hA with h1 h2
    subst h1; subst h2; subst hc
    exact ⟨cur, fr, hg, hf, hs⟩
theorem SRow.frozen (h : SRow w T sz enc g off cap L) {o : Nat} (ho : o < off + cap * sz) : w.frozen? ⟨g, o, none⟩ = false := by
  obtain ⟨cur, ⟨lo, hi⟩, hg, hf, hs⟩ := h.there
  simp only at hf
  simp only [World.frozen?, hg, Bool.and_eq_false_iff, decide_eq_false_iff_not]
  omega
theorem SRow.freeAt (h : SRow w T sz enc g off cap L) {i c : Nat} (hi : i < L.length) (hc : c < sz) : w.frozen? ⟨g, off + i * sz + c, none⟩ = false := by
  have h1 : (i + 1) * sz ≤ L.length * sz := Nat.mul_le_mul_right _ hi
  have h2 : L.length * sz ≤ cap * sz := Nat.mul_le_mul_right _ h.capLe.1
  rw [Nat.succ_mul] at h1
  exact h.frozen (by omega)
theorem SRow.of_chg (h : SRow w T sz enc g off cap L) {S : Nat → Prop} (hc : Chg S w w') (hn : ¬ S g) : SRow w' T sz enc g off cap L :=
  ⟨h.own.chg hc (fun k hk => by injection hk with hk; subst hk; exact hn), h.enc⟩
theorem SRow.below (h : SRow w T sz enc g off cap L) (hb : Below w.heap.size w w') : SRow w' T sz enc g off cap L := h.of_chg (S := fun _ => False) (Chg.of_below hb) (fun h => h)
theorem OwnS.setAt {base n j : Nat} {e : TypeId} {size : Nat} {xs : List Value} (h : OwnS w base e size (.slice (some ⟨g, off, none⟩) n cap) n xs) (hj : j < xs.length) (u : Value) :
    OwnS (w.setCell ⟨g, off + j, none⟩ u) base e size (.slice (some ⟨g, off, none⟩) n cap) n (xs.set j u) := by
  refine ⟨by rw [List.length_set]; exact h.1, ?_⟩
  rcases h.2 with ⟨hv, _⟩ | ⟨g', off', cap', cur, hv, hb, ⟨fr, hg, hf⟩, hn, hm, hs, ht⟩
  · cases hv
  · injection hv with hA _ hc
    injection hA with hA
    injection hA with h1 h2
    subst h1; subst h2; subst hc
    have hl := h.1
    have hmul : n * size ≤ cap * size := Nat.mul_le_mul_right _ hn
    refine .inr ⟨g, off, cap, cur.setIfInBounds (off + j) u, rfl, hb, ⟨fr, ?_, by rw [Array.size_setIfInBounds]; exact hf⟩, hn, hm, by rw [Array.size_setIfInBounds]; exact hs, ?_⟩
    · simp [World.setCell, Array.getElem?_modify, hg]
    · rw [Array.toList_setIfInBounds, ← ht]
      apply List.ext_getElem?
      intro i
      rw [List.getElem?_set, List.length_take, List.length_drop, Array.length_toList, List.getElem?_take, List.getElem?_take, List.getElem?_drop, List.getElem?_drop, List.getElem?_set, Array.length_toList]
      by_cases hij : j = i
      · subst hij
        rw [if_pos rfl, if_pos rfl, if_pos (by omega), if_pos (by omega), if_pos (by omega)]
      · rw [if_neg (show ¬ off + j = off + i by omega), if_neg hij]
theorem putCells_heap : ∀ (vs : List Value) (w : World) (o k : Nat), k ≠ g → (putCells w g o vs).heap[k]? = w.heap[k]?
  | [], _, _, _, _ => rfl
  | v :: vs, w, o, k, h => by rw [putCells, putCells_heap vs _ _ k h, Below.heap_setCell _ _ _ _ h]
theorem putCells_chg {S : Nat → Prop} (hg : S g) : ∀ (vs : List Value) (w : World) (o : Nat), Chg S w (putCells w g o vs)
  | [], w, _ => Chg.refl _ _
  | v :: vs, w, o => ((Chg.refl S w).setCell (a := ⟨g, o, none⟩) (.inl hg) v).trans (putCells_chg hg vs _ _) (fun _ _ h => h)
theorem OwnS.putAt {base n : Nat} {e : TypeId} {size : Nat} : ∀ (vs : List Value) (j : Nat) (xs : List Value) (w : World), OwnS w base e size (.slice (some ⟨g, off, none⟩) n cap) n xs → j + vs.length ≤ xs.length →
    OwnS (putCells w g (off + j) vs) base e size (.slice (some ⟨g, off, none⟩) n cap) n (xs.take j ++ vs ++ xs.drop (j + vs.length))
  | [], j, xs, w, h, hj => by
    have e : xs.take j ++ [] ++ xs.drop (j + ([] : List Value).length) = xs := by simp
    rw [e]; exact h
  | v :: vs, j, xs, w, h, hj => by
    simp only [List.length_cons] at hj
    have h1 := OwnS.putAt vs (j + 1) (xs.set j v) _ (h.setAt (by omega) v) (by rw [List.length_set]; omega)
    rw [putCells, Nat.add_assoc]
    have e : (xs.set j v).take (j + 1) ++ vs ++ (xs.set j v).drop (j + 1 + vs.length) = xs.take j ++ v :: vs ++ xs.drop (j + (v :: vs).length) := by
      rw [List.drop_set_of_lt (by omega), List.take_add_one, List.take_set_of_le (by omega), List.getElem?_set_self (by omega)]
      simp [Nat.add_assoc, Nat.add_comm 1]
    rwa [e] at h1
theorem flat_set (he : ∀ x, (enc x).length = sz) : ∀ (L : List α) (i : Nat) (x : α), i < L.length → (L.set i x).flatMap enc = (L.flatMap enc).take (i * sz) ++ enc x ++ (L.flatMap enc).drop (i * sz + (enc x).length)
  | [], _, _, h => by simp at h
  | y :: L, 0, x, h => by
    rw [List.set_cons_zero, List.flatMap_cons, List.flatMap_cons, Nat.zero_mul, List.take_zero, List.nil_append, Nat.zero_add, he, List.drop_left' (he y)]
  | y :: L, i + 1, x, h => by
    simp only [List.length_cons] at h
    have hy := he y
    have t1 : ∀ (F : List Value) (n : Nat), (enc y ++ F).take (n + sz) = enc y ++ F.take n := fun F n => by
      rw [List.take_append, List.take_of_length_le (show (enc y).length ≤ n + sz by omega), hy, Nat.add_sub_cancel]
    have d1 : ∀ (F : List Value) (n : Nat), (enc y ++ F).drop (n + sz) = F.drop n := fun F n => by
      rw [List.drop_append, List.drop_of_length_le (show (enc y).length ≤ n + sz by omega), hy, Nat.add_sub_cancel, List.nil_append]
    rw [List.set_cons_succ, List.flatMap_cons, List.flatMap_cons, flat_set he L i x (by omega), Nat.succ_mul, t1, show i * sz + sz + (enc x).length = i * sz + (enc x).length + sz by omega, d1]
    simp [List.append_assoc]
theorem SRow.put (h : SRow w T sz enc g off cap L) {i : Nat} (hi : i < L.length) (x : α) : SRow (putCells w g (off + i * sz) (enc x)) T sz enc g off cap (L.set i x) := by
  have h1 : (i + 1) * sz ≤ L.length * sz := Nat.mul_le_mul_right _ hi
  rw [Nat.succ_mul] at h1
  refine ⟨?_, h.enc⟩
  have := OwnS.putAt (enc x) (i * sz) _ _ h.own (by rw [flat_length h.enc, h.enc]; exact h1)
  rw [← flat_set h.enc L i x hi] at this
  rw [List.length_set]
  exact this
/-- Two places exchanged. -/
theorem set_set (p q s : List α) (x y : α) : ((p ++ x :: q ++ y :: s).set p.length y).set (p.length + 1 + q.length) x = p ++ y :: q ++ x :: s := by
  rw [List.append_assoc, List.set_append_right _ _ (Nat.le_refl _), Nat.sub_self]
  simp only [List.cons_append, List.set_cons_zero]
  rw [List.set_append_right _ _ (by omega), show p.length + 1 + q.length - p.length = q.length + 1 by omega, List.set_cons_succ, List.set_append_right _ _ (Nat.le_refl _), Nat.sub_self]
  simp
theorem set_set' (p q s : List α) (x y : α) : ((p ++ x :: q ++ y :: s).set (p.length + 1 + q.length) x).set p.length y = p ++ y :: q ++ x :: s := by
  rw [List.set_comm _ _ (by omega)]
  exact set_set p q s x y
theorem at_1 (p q s : List α) (x y : α) : (p ++ x :: q ++ y :: s)[p.length]? = some x := by
  rw [List.append_assoc, List.getElem?_append_right (Nat.le_refl _), Nat.sub_self]; rfl
theorem at_2 (p q s : List α) (x y : α) : (p ++ x :: q ++ y :: s)[p.length + 1 + q.length]? = some y := by
  rw [List.append_assoc, List.getElem?_append_right (by omega), show p.length + 1 + q.length - p.length = q.length + 1 by omega, List.cons_append, List.getElem?_cons_succ, List.getElem?_append_right (Nat.le_refl _), Nat.sub_self]; rfl
end
end Go.Proofs.Ytoeipgbnjcgbjaa
/- StreamPlays: a row of the round's own beside all that is held; what holds between the operations of its regions. -/
namespace Go.Proofs.Ytoeipgbnjcgbjaa
open Go.RowKit
set_option linter.unusedVariables false

/-- The block og is none of those that are held. -/
structure OutOf (og : Nat) (q : Qk) (ob : Nat) (a b : Pd) : Prop where
  fa : ¬ Fp a.g a.vo a.vi og
  fb : ¬ Fp b.g b.vo b.vi og
  ra : a.r ≠ og
  rb : b.r ≠ og
  wa : a.vw.ownBlock ≠ some og
  wb : b.vw.ownBlock ≠ some og
  qe : q.eb ≠ og
  qr : q.rb ≠ og
  qw : q.wb ≠ og
  qo : ob ≠ og
section
variable {tE tR tW tO : TypeId} {W w w' : World} {q : Qk} {ob k j og : Nat} {a b a' : Pd} {F : Nat → Value}
theorem PSt.outOf (h : PSt tE tR tW tO W w q ob k j a b F) (ho : w.heap.size ≤ og) : OutOf og q ob a b := by
  obtain ⟨⟨f, hM, _⟩, hc⟩ := h
  have hz := hM.blk
  have ho := hc.blk
  exact ⟨fun e => by have := hM.sa.e.fp_lt _ e; omega, fun e => by have := hM.sb.e.fp_lt _ e; omega, by have := hM.sa.ra.blk; omega, by have := hM.sb.ra.blk; omega, fun e => by have := (hM.sa.wo.lt _ e).2; omega, fun e => by have := (hM.sb.wo.lt _ e).2; omega, by omega, by omega, by omega, by omega⟩
theorem OutOf.wrote {s' : En} {vo' : Value} (h : OutOf og q ob a b) (hog : og < w.heap.size) (hFo : Fresh w a.vo vo') : OutOf og q ob { a with s := s', vo := vo', vi := a.vi } b := by
  refine ⟨?_, h.fb, h.ra, h.rb, h.wa, h.wb, h.qe, h.qr, h.qw, h.qo⟩
  rintro (hx | hx | hx)
  · exact h.fa (.inl hx)
  · rcases hFo with hF | hF
    · exact h.fa (.inr (.inl (by rw [← hF]; exact hx)))
    · have := hF og hx; omega
  · exact h.fa (.inr (.inr hx))
theorem OutOf.ref {t' : En} (h : OutOf og q ob a b) : OutOf og q ob { a with t := t' } b := ⟨h.fa, h.fb, h.ra, h.rb, h.wa, h.wb, h.qe, h.qr, h.qw, h.qo⟩
theorem PSt.far (h : PSt tE tR tW tO W w q ob k j a b F) (ho : OutOf og q ob a b) (hB : W.heap.size ≤ og) (hC : Chg (fun x => x = og) w w') : PSt tE tR tW tO W w' q ob k j a b F := by
  obtain ⟨⟨f, hM, h5⟩, hc⟩ := h
  refine ⟨⟨f, ⟨?_, ?_, hM.ce.chg hC ho.qe, hM.cr.chg hC ho.qr, hM.cw.chg hC ho.qw, hM.fe, hM.fr, hM.fw, hM.low, hM.bel.trans (hC.below hM.size (fun x hx hs => by subst hs; omega)), hM.kj⟩, h5⟩, hc.chg hC ho.qo⟩
  · exact ⟨hM.sa.e.chg hC (fun x hx he => ho.fa (he ▸ hx)), hM.sa.ok, hM.sa.fin, hM.sa.ra.chg hC ho.ra, hM.sa.wo.chg hC (fun x hx he => ho.wa (he ▸ hx)), hM.sa.fe, hM.sa.fr, hM.sa.fw⟩
  · exact ⟨hM.sb.e.chg hC (fun x hx he => ho.fb (he ▸ hx)), hM.sb.ok, hM.sb.fin, hM.sb.ra.chg hC ho.rb, hM.sb.wo.chg hC (fun x hx he => ho.wb (he ▸ hx)), hM.sb.fe, hM.sb.fr, hM.sb.fw⟩
theorem PSt.size (h : PSt tE tR tW tO W w q ob k j a b F) : W.heap.size ≤ w.heap.size := h.low.size
end
/-- A row of bytes of the round's own. -/
structure POw (tE tR tW tO : TypeId) (W w : World) (q : Qk) (ob k j : Nat) (a b : Pd) (F : Nat → Value) (v : Value) (xs : List Int) : Prop where
  p : PSt tE tR tW tO W w q ob k j a b F
  o : OwnS w W.heap.size 5 1 v xs.length (xs.map (Value.int .u8))
  f : ∀ og, v.ownBlock = some og → OutOf og q ob a b
section
variable {tE tR tW tO : TypeId} {W w w' : World} {q : Qk} {ob k j : Nat} {a b a' : Pd} {F : Nat → Value} {v : Value} {xs : List Int}
theorem POw.new (h : PSt tE tR tW tO W w q ob k j a b F) (hb : Below w.heap.size w w') (ho : OwnS w' w.heap.size 5 1 v xs.length (xs.map (Value.int .u8))) : POw tE tR tW tO W w' q ob k j a b F v xs :=
  ⟨h.below hb, ho.base_ h.size, fun og hog => h.outOf (ho.lt og hog).1⟩
theorem POw.drw (h : POw tE tR tW tO W w q ob k j a b F v xs) : POw tE tR tW tO W w.drew q ob k j a b F v xs := ⟨h.p.drw, h.o.drew, h.f⟩
theorem POw.write {ys : List Int} {e : Ending} (h : POw tE tR tW tO W w q ob k j a b F v xs) (hb : Bytes ys) (hp : WrPost a.g a.s a.vo a.vi ys w e w') :
    ∃ vo', e = .returned (.int .i64 (writeS a.s ys).1) ∧ POw tE tR tW tO W w' q ob k j { a with s := (writeS a.s ys).2, vo := vo', vi := a.vi } b F v xs := by
  obtain ⟨vo', he, hE, hC, hF⟩ := hp
  obtain ⟨_, hok, hfin, _⟩ := h.p.end_
  exact ⟨vo', he, h.p.step hE (writeS_ok _ _ hok hb) (writeS_fin _ _ hfin) hC (fun x _ hx => hx.elim .inl (fun hx => .inr (.inl hx))) hF (Fresh.refl _ _),
    h.o.chg hC (fun og hog hs => (h.f og hog).fa (hs.elim .inl (fun hx => .inr (.inl hx)))), fun og hog => (h.f og hog).wrote (h.o.lt og hog).2 hF⟩
theorem POw.stepR {t' : En} (h : POw tE tR tW tO W w q ob k j a b F v xs) (hR : RefAt a.r w' t') (hC : Chg (fun x => x = a.r) w w') : POw tE tR tW tO W w' q ob k j { a with t := t' } b F v xs :=
  ⟨h.p.stepR hR hC, h.o.chg hC (fun og hog hs => (h.f og hog).ra hs.symm), fun og hog => (h.f og hog).ref⟩
theorem POw.set {g o c i : Nat} {x : Int} (h : POw tE tR tW tO W w q ob k j a b F (.slice (some ⟨g, o, none⟩) xs.length c) xs) (hi : i < xs.length) : POw tE tR tW tO W (w.setCell ⟨g, o + i, none⟩ (.int .u8 x)) q ob k j a b F (.slice (some ⟨g, o, none⟩) (xs.set i x).length c) (xs.set i x) := by
  have hC : Chg (fun y => y = g) w (w.setCell ⟨g, o + i, none⟩ (.int .u8 x)) := (Chg.refl (fun y => y = g) w).setCell (a := ⟨g, o + i, none⟩) (.inl rfl) _
  have hg := (h.o.lt g rfl)
  have ho := OwnS.setAt (j := i) h.o (by rw [List.length_map]; exact hi) (.int .u8 x)
  refine ⟨h.p.far (h.f g rfl) hg.1 hC, ?_, fun og hog => h.f og hog⟩
  rw [List.length_set, List.map_set]
  exact ho
end
/-- Write: between the operations. -/
def J22 (tE tR tW tO : TypeId) (W : World) (q : Qk) (ob k j : Nat) (a b : Pd) (F : Nat → Value) (v : Value) (xs : List Int) : List Value → World → Prop
  | [], w => POw tE tR tW tO W w q ob k j a b F v xs
  | [_], w => ∃ vo, POw tE tR tW tO W w q ob k j { a with s := (writeS a.s xs).2, vo := vo, vi := a.vi } b F v xs
  | _, w => ∃ vo, POw tE tR tW tO W w q ob k j { a with s := (writeS a.s xs).2, vo := vo, vi := a.vi, t := (writeS a.t xs).2 } b F v xs
/-- Two calls on the two ends of a side: between the operations. -/
def JTwo (tE tR tW tO : TypeId) (W : World) (q : Qk) (ob k j : Nat) (a b : Pd) (F : Nat → Value) (s' t' : En) : List Value → World → Prop
  | [], w => PSt tE tR tW tO W w q ob k j a b F
  | [_], w => ∃ vo vi, PSt tE tR tW tO W w q ob k j { a with s := s', vo := vo, vi := vi } b F
  | _, w => ∃ vo vi, PSt tE tR tW tO W w q ob k j { a with s := s', vo := vo, vi := vi, t := t' } b F
/-- A call on the document's end. -/
def JRef (tE tR tW tO : TypeId) (W : World) (q : Qk) (ob k j : Nat) (a b : Pd) (F : Nat → Value) (t' : En) : List Value → World → Prop
  | [], w => PSt tE tR tW tO W w q ob k j a b F
  | _, w => PSt tE tR tW tO W w q ob k j { a with t := t' } b F
/-- Read: what is told is new memory. -/
def JRd (tE tR tW tO : TypeId) (W : World) (q : Qk) (ob k j : Nat) (a b : Pd) (F : Nat → Value) : List Value → World → Prop
  | [], w => PSt tE tR tW tO W w q ob k j a b F
  | [v], w => (∃ A, v = .slice A (readS a.s).1.length (readS a.s).1.length ∧ OwnS w 0 5 1 (.slice A (readS a.s).1.length (readS a.s).1.length) (readS a.s).1.length ((readS a.s).1.map (Value.int .u8)) ∧ ∀ x, v.ownBlock = some x → x ≠ a.r) ∧ ∃ vo vi, PSt tE tR tW tO W w q ob k j { a with s := (readS a.s).2, vo := vo, vi := vi } b F
  | [v, _], w => (∃ A, v = .slice A (readS a.s).1.length (readS a.s).1.length ∧ OwnS w 0 5 1 (.slice A (readS a.s).1.length (readS a.s).1.length) (readS a.s).1.length ((readS a.s).1.map (Value.int .u8))) ∧ ∃ vo vi, PSt tE tR tW tO W w q ob k j { a with s := (readS a.s).2, vo := vo, vi := vi, t := (readS a.t).2 } b F
  | _, w => True
theorem JRd.head {tE tR tW tO : TypeId} {W w : World} {q : Qk} {ob k j : Nat} {a b : Pd} {F : Nat → Value} {v : Value} {us : List Value} (hl : us.length ≤ 1) (h : JRd tE tR tW tO W q ob k j a b F (v :: us) w) : ∃ A, v = .slice A (readS a.s).1.length (readS a.s).1.length ∧ Ints .u8 w A (readS a.s).1 := by
  match us, hl, h with
  | [], _, h =>
    obtain ⟨⟨A, h1, ho, _⟩, _⟩ := (show (∃ A, v = .slice A (readS a.s).1.length (readS a.s).1.length ∧ OwnS w 0 5 1 (.slice A (readS a.s).1.length (readS a.s).1.length) (readS a.s).1.length ((readS a.s).1.map (Value.int .u8)) ∧ ∀ x, v.ownBlock = some x → x ≠ a.r) ∧ _ from h)
    exact ⟨A, h1, ho.ints⟩
  | [_], _, h =>
    obtain ⟨⟨A, h1, ho⟩, _⟩ := (show (∃ A, v = .slice A (readS a.s).1.length (readS a.s).1.length ∧ OwnS w 0 5 1 (.slice A (readS a.s).1.length (readS a.s).1.length) (readS a.s).1.length ((readS a.s).1.map (Value.int .u8))) ∧ _ from h)
    exact ⟨A, h1, ho.ints⟩
theorem JRd.ints {tE tR tW tO : TypeId} {W w : World} {q : Qk} {ob k j : Nat} {a b : Pd} {F : Nat → Value} {v1 v2 : Nat} {us : Nat → Value} {m : Nat} (h1 : 1 ≤ m) (h2 : m ≤ 2) (h : JRd tE tR tW tO W q ob k j a b F (List.map us (List.take m [v1, v2])) w) : ∃ A, us v1 = .slice A (readS a.s).1.length (readS a.s).1.length ∧ Ints .u8 w A (readS a.s).1 := by
  have hm : m = 1 ∨ m = 2 := by omega
  rcases hm with rfl | rfl
  · exact JRd.head (us := []) (by decide) h
  · exact JRd.head (us := [us v2]) (by simp) h
/-- What stands in the cells, whatever call has come. -/
structure Cells (tO : TypeId) (W w : World) (q : Qk) (ob k : Nat) (a : Pd) (F : Nat → Value) : Prop where
  e : w.cell? ⟨q.eb, k, none⟩ = some (.pointer (some ⟨a.g, 0, none⟩))
  r : w.cell? ⟨q.rb, k, none⟩ = some (.pointer (some ⟨a.r, 0, none⟩))
  o : ∀ i, i < 4 → w.cell? ⟨ob, i, none⟩ = some (F i)
  low : Below W.heap.size W w
section
variable {tE tR tW tO : TypeId} {W w w' : World} {q : Qk} {ob k j og : Nat} {a b a' : Pd} {F : Nat → Value} {v : Value} {xs : List Int} {us : List Value}
theorem PSt.cells (h : PSt tE tR tW tO W w q ob k j a b F) : Cells tO W w q ob k a F := ⟨h.cE, h.cR, h.cO, h.low⟩
theorem J22.cells (h : J22 tE tR tW tO W q ob k j a b F v xs us w) : Cells tO W w q ob k a F := by
  match us, h with
  | [], h => exact (POw.p h).cells
  | [_], ⟨vo, h⟩ => exact ⟨h.p.cE, h.p.cR, h.p.cO, h.p.low⟩
  | _ :: _ :: _, ⟨vo, h⟩ => exact ⟨h.p.cE, h.p.cR, h.p.cO, h.p.low⟩
theorem JTwo.cells {s' t' : En} (h : JTwo tE tR tW tO W q ob k j a b F s' t' us w) : Cells tO W w q ob k a F := by
  match us, h with
  | [], h => exact PSt.cells h
  | [_], ⟨_, _, h⟩ => exact ⟨h.cE, h.cR, h.cO, h.low⟩
  | _ :: _ :: _, ⟨_, _, h⟩ => exact ⟨h.cE, h.cR, h.cO, h.low⟩
theorem JRef.cells {t' : En} (h : JRef tE tR tW tO W q ob k j a b F t' us w) : Cells tO W w q ob k a F := by
  match us, h with
  | [], h => exact PSt.cells h
  | _ :: _, h =>
    have h9 : PSt tE tR tW tO W w q ob k j { a with t := t' } b F := h
    exact ⟨h9.cE, h9.cR, h9.cO, h9.low⟩
theorem JRd.cells (h : JRd tE tR tW tO W q ob k j a b F us w) (hl : us.length ≤ 2) : Cells tO W w q ob k a F := by
  match us, h, hl with
  | [], h, _ => exact PSt.cells h
  | [_], ⟨_, _, _, h⟩, _ => exact ⟨h.cE, h.cR, h.cO, h.low⟩
  | [_, _], ⟨_, _, _, h⟩, _ => exact ⟨h.cE, h.cR, h.cO, h.low⟩
theorem PSt.celW (h : PSt tE tR tW tO W w q ob k j a b F) (hg : w.grownBy w' a.vw.ownBlock) : ∃ f, Cel w' q.wb tW 2 f := by
  obtain ⟨⟨f, hM, _⟩, _⟩ := h
  exact ⟨_, hM.cw.grown hg (fun e => by have h1 := hM.sa.fw _ e; have h2 := hM.fw; omega)⟩
theorem PSt.cutRow (h : PSt tE tR tW tO W w q ob k j a b F) {m : Nat} (hm : m < a.way.length) :
    ∃ g o c, a.vw = .slice (some ⟨g, o, none⟩) a.way.length c ∧ a.way.length ≤ c ∧ c ≤ maxLen ∧ OwnS w 0 9 1 (.slice (some ⟨g, o, none⟩) a.way.length c) a.way.length (a.way.map sV) ∧ q.wb < w.heap.size ∧ (∃ f, Cel w q.wb tW 2 f) ∧ w.cell? ⟨g, o + m, none⟩ = some (.string (strOfNums (a.way.getD m []))) ∧
      ∀ v w' n, OwnS w' w.heap.size 9 1 v n ((a.way.map sV).take m ++ (a.way.map sV).drop (m + 1)) → n = (a.way.take m ++ a.way.drop (m + 1)).length → Below w.heap.size w w' →
        PSt tE tR tW tO W (w'.setCell ⟨q.wb, k, none⟩ v) q ob k j { a with vw := v, way := a.way.take m ++ a.way.drop (m + 1) } b F := by
  have ho := h.rowOf.1
  obtain ⟨g, o, c, hv, h1, h2, hg, hc⟩ := ho.place (by omega)
  have hz : q.wb < w.heap.size ∧ ∃ f, Cel w q.wb tW 2 f := by
    obtain ⟨⟨f, hM, _⟩, _⟩ := h
    exact ⟨hM.blk.2.2, _, hM.cw⟩
  have hcm := hc m (by rw [List.length_map]; exact hm)
  refine ⟨g, o, c, hv, h1, h2, hv ▸ ho, hz.1, hz.2, ?_, ?_⟩
  · rw [hcm, List.getElem?_map, List.getElem?_eq_getElem hm, List.getD_eq_getElem?_getD, List.getElem?_eq_getElem hm]; rfl
  · intro v w' n hO hn hb
    subst hn
    refine h.rowW (w := w) (w' := w') (Chg.of_below hb) ?_ (.inr fun x hx => (hO.lt x hx).1)
    rw [List.map_append, List.map_take, List.map_drop]
    exact hO.base_ (Nat.zero_le _)
end
theorem sV_one (l : List (List Int)) : ∀ u ∈ l.map sV, u.oneCell' = true := by
  intro u hu
  obtain ⟨x, _, rfl⟩ := List.mem_map.1 hu
  rfl
theorem OwnS.free {w : World} {base n i : Nat} {e : TypeId} {xs : List Value} {g o c : Nat} (h : OwnS w base e 1 (.slice (some ⟨g, o, none⟩) n c) n xs) (hi : i < n) : w.frozen? ⟨g, o + i, none⟩ = false := by
  rcases h.2 with ⟨hv, _⟩ | ⟨g', off', cap', cur, hv, hb, ⟨⟨lo, hi'⟩, hg, hf⟩, hn, hm, hs, ht⟩
  · cases hv
  · injection hv with hA _ hc
    injection hA with hA
    injection hA with h1 h2
    subst h1; subst h2; subst hc
    simp only at hf
    simp only [World.frozen?, hg, Bool.and_eq_false_iff, decide_eq_false_iff_not]
    omega
/-- A row is cut in two about one place: between the operations. -/
def I45 (w0 : World) (L m : Nat) (vs : List Value) (C : World → Prop) (S1 : Value → World → Prop) (t : Addr) : List Value → World → Prop
  | [], w => Below w0.heap.size w0 w
  | [v], w => Below w0.heap.size w0 w ∧ ∃ g, v = .slice (some ⟨g, 0, none⟩) 0 0 ∧ OwnS w w0.heap.size 9 1 v 0 []
  | [_, v], w => Below w0.heap.size w0 w ∧ OwnS w w0.heap.size 9 1 v m (vs.take m)
  | [_, _, v], w => C w ∧ S1 v (w.setCell t v)
  | _, w => ∃ v, S1 v w
theorem I45.below {w0 w : World} {L m : Nat} {vs : List Value} {C : World → Prop} {S1 : Value → World → Prop} {t : Addr} {us : Nat → Value} {p1 p2 p3 p4 x : Nat} (hm : x ≤ 2) (h : I45 w0 L m vs C S1 t (List.map us (List.take x [p1, p2, p3, p4])) w) : Below w0.heap.size w0 w := by
  match x, hm with
  | 0, _ => exact h
  | 1, _ => exact h.1
  | 2, _ => exact h.1
theorem PlaS.okT {N : Nat} {a : Pd} (h : PlaS N a) (ok : EnOk a.s) (fin : EnFin a.s) : EnOk a.t ∧ EnFin a.t := ⟨h.sim.ok ok h.at_, h.sim.fin fin⟩
theorem i64_beq_refl (x : Int) : (x == x) = true := by simp
end Go.Proofs.Ytoeipgbnjcgbjaa
