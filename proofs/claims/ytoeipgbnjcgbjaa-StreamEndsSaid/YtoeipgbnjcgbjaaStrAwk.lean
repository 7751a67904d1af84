/- awake of the statements of layer 18. -/
import Derived.Test.YtoeipgbnjcgbjaaEnd8
import Derived.Test.YtoeipgbnjcgbjaaEnd9
namespace Go.Proofs.Ytoeipgbnjcgbjaa
open Go.RowKit
set_option linter.unusedVariables false

theorem OutsAt.elem {B : Nat} {w : World} {A : Option Addr} {n c : Nat} {ls : List (List Int)} (h : OutsAt B w (.slice A n c) ls) (i : Nat) (hi : i < ls.length) :
    ∃ b o A', A = some ⟨b, o, none⟩ ∧ B ≤ b ∧ b < w.heap.size ∧ w.cell? ⟨b, o + i, none⟩ = some (.slice A' (ls.getD i []).length (ls.getD i []).length) ∧ OwnS w B 5 1 (.slice A' (ls.getD i []).length (ls.getD i []).length) (ls.getD i []).length ((ls.getD i []).map (Value.int .u8)) := by
  obtain ⟨vs, ho, hv⟩ := h
  obtain ⟨A', h1, h2⟩ := hv i hi
  have hl := ho.1
  obtain ⟨b, o, c', e, hb, hlt, hc⟩ := ho.cells (by omega)
  injection e with e _ _
  exact ⟨b, o, A', e, hb, hlt, (hc i (by omega)).trans h1, h2⟩
def awA : En := newEnd 7 1
def awB : En := { newEnd 7 1 with dialed := true, at_ := 0 }
def awC : En := { newEnd 7 1 with dialed := true, at_ := 8 }
def awL : En := newEnd 7 2
def awO : En := { newEnd 7 2 with st := 3, owes := true }
def awD : List Int := segL ⟨1, 7, 0, 0, []⟩
theorem aw1 : outS awA 0 = ([awD], awB) := rfl
theorem aw2 : outS awB 3 = ([], awB) := rfl
theorem aw3 : outS awB 8 = ([awD], awC) := rfl
theorem aw_sg : goodSg ⟨1, 7, 0, 0, []⟩ := by unfold goodSg; simp
theorem aw4 : inS awL awD 0 = awO := by
  have h := parse_seg ⟨1, 7, 0, 0, []⟩ aw_sg (fun x h => by cases h)
  unfold inS awD
  rw [if_pos h.1, h.2]
  rfl
theorem aw5 : ∃ d s, outS awO 0 = ([d], s) := ⟨_, _, rfl⟩
theorem awD_len : awD.length = 19 := rfl
theorem awD_ok : Bytes awD := segL_ok _ (fun x h => by cases h)
theorem ok0 : (Lit.int .i64 0).wf = true := by decide
def nilS : Value := .slice none 0 0
/-- Out, its answer written out. -/
theorem out_at (g : Nat) (s s' : En) (vo vi : Value) (now : Int) (w : World) (l : List (List Int)) (n : Nat) (he : outS s now = (l, s')) (hn : l.length = n) (h : EnAt g w s vo vi) (hok : EnOk s) (hnow : (Lit.int .i64 now).wf = true) :
    Calls Try.prog 22 #[.pointer (some ⟨g, 0, none⟩), .int .i64 now] w fun e w' => ∃ A, e = .returned (.slice A n n) ∧ OutsAt w.heap.size w' (.slice A n n) l ∧ EnAt g w' s' vo vi ∧ Chg (fun k => k = g) w w' := by
  subst hn
  have := out_any g s vo vi now w h hok hnow
  unfold OutPost at this
  rwa [he] at this
theorem EnAt.other {g g' : Nat} {w w' : World} {s : En} (h : EnAt g w s (.slice none 0 0) (.slice none 0 0)) (hc : Chg (fun k => k = g') w w') (hne : g ≠ g') : EnAt g w' s (.slice none 0 0) (.slice none 0 0) :=
  h.chg hc (fun k hk => by
    rcases hk with rfl | hk | hk
    · exact hne
    · cases hk
    · cases hk)
set_option maxRecDepth 100000 in
set_option maxHeartbeats 2000000 in
theorem awake18_any (w : World) : Calls Try.prog 19 #[] w fun e w' => e = .returned (.bool true) ∧ Below w.heap.size w w' := by
  go_enter Try.func19, Try.ntmps19
  go_wp2_with fail
  refine (dial_any 7 w).mono ?_
  rintro e w1 ⟨rfl, hA, hb1⟩
  have hA : EnAt w.heap.size w1 awA (.slice none 0 0) (.slice none 0 0) := hA
  go_wp2_with fail
  refine (listen_any 7 w1).mono ?_
  rintro e w2 ⟨rfl, hL, hb2⟩
  have hL : EnAt w1.heap.size w2 awL (.slice none 0 0) (.slice none 0 0) := hL
  have hA2 := hA.below hb2
  have hne : w.heap.size < w1.heap.size := hA.blk
  have hC2 : Chg (fun _ => False) w w2 := (Chg.of_below hb1).trans (Chg.of_below (S := fun _ => False) hb2) (fun _ _ h => h)
  clear hA hb1 hb2
  have hsz := hC2.size
  generalize hg1 : w.heap.size = g1 at *
  generalize w1.heap.size = g2 at *
  have HG1 := Lib.hid hg1
  clear hg1
  have hok1 : EnOk awA := newEnd_ok 7 1 (by decide)
  have hok2 : EnOk awB := by have := outS_ok awA 0 hok1 ok0; rwa [aw1] at this
  have hok3 : EnOk awO := by have := inS_ok awL awD 0 (newEnd_ok 7 2 (by decide)) awD_ok ok0 (newEnd_fin 7 2); rwa [aw4] at this
  go_wp2_with fail
  refine (out_at g1 awA awB _ _ 0 w2 _ 1 aw1 rfl hA2 hok1 ok0).mono ?_
  rintro e w3 ⟨A3, rfl, hO3, hA3, hc3⟩
  go_wp2_with fail
  refine (out_at g1 awB awB _ _ 3 w3 _ 0 aw2 rfl hA3 hok2 (by decide)).mono ?_
  rintro e w4 ⟨A4, rfl, hO4, hA4, hc4⟩
  go_wp2_with fail
  refine (out_at g1 awB awC _ _ 8 w4 _ 1 aw3 rfl hA4 hok2 (by decide)).mono ?_
  rintro e w5 ⟨A5, rfl, hO5, hA5, hc5⟩
  have hL5 := ((hL.other hc3 (by omega)).other hc4 (by omega)).other hc5 (by omega)
  have hO5 := (hO3.chg hc4 (fun k hk e => by have := hA2.blk; omega)).chg hc5 (fun k hk e => by have := hA2.blk; omega)
  obtain ⟨b, o, A', rfl, _, hbl, hcell, hown⟩ := hO5.elem 0 (by decide)
  rw [Nat.add_zero] at hcell
  have hcell : w5.cell? ⟨b, o, none⟩ = some (.slice A' 19 19) := hcell
  have hI5 : Ints .u8 w5 A' awD := OwnS.ints hown
  have hC5 : Chg (fun k => k = g1) w w5 := (((hC2.mono (S' := fun k => k = g1) (fun _ _ h => h.elim)).trans hc3 (fun _ _ h => h)).trans hc4 (fun _ _ h => h)).trans hc5 (fun _ _ h => h)
  clear hO3 hO4 hO5 hA2 hA3 hA4 hL hC2 hc3 hc4 hc5 hown
  go_wp2_with fail
  have hin := in_any g2 awL _ _ A' 19 19 awD 0 w5 hL5 (newEnd_ok 7 2 (by decide)) hI5 awD_len awD_ok (by decide) (by decide) (by decide)
  rw [aw4] at hin
  refine hin.mono ?_
  rintro e w6 ⟨rfl, vi6, hL6, hc6, hf6⟩
  have hc6 : Chg (fun k => k = g2) w5 w6 := hc6.mono (fun k _ h => h.elim (fun h => h) (fun h => by cases h))
  have hA6 := hA5.other hc6 (by omega)
  clear hin hcell
  go_wp2_with fail
  refine (state_any g2 awO _ _ w6 hL6).mono ?_
  rintro e w7 ⟨rfl, rfl⟩
  obtain ⟨d, s7, e7⟩ := aw5
  go_wp2_with fail
  refine (out_at g2 awO s7 _ _ 0 w6 _ 1 e7 rfl hL6 hok3 ok0).mono ?_
  rintro e w7 ⟨A7, rfl, hO7, hL7, hc7⟩
  have hA7 := hA6.other hc7 (by omega)
  go_wp2_with fail
  refine (state_any g1 awC _ _ w7 hA7).mono ?_
  rintro e w8 ⟨rfl, rfl⟩
  go_wp2
  go_ret
  refine ⟨rfl, Chg.below (S := fun k => k = g1 ∨ k = g2) (((hC5.mono (fun _ _ h => .inl h)).trans hc6 (fun _ _ h => .inr h)).trans hc7 (fun _ _ h => .inr h)) ?_ ?_⟩
  · exact Nat.le_refl _
  · have := HG1.out
    rintro k hk (h | h) <;> omega
end Go.Proofs.Ytoeipgbnjcgbjaa
