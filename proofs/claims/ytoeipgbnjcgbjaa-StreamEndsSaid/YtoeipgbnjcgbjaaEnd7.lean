/- (*stream.End): acked, dialing, listening, open: what a segment does to an end. -/
import Derived.Test.YtoeipgbnjcgbjaaEnd6
import Derived.Deep.RegionLaw
namespace Go.Proofs.Ytoeipgbnjcgbjaa
open Go.RowKit
set_option linter.unusedVariables false

/-- What a call that takes a segment leaves. -/
def TakePost (g : Nat) (s' : En) (vo vi : Value) (w : World) (e : Ending) (w' : World) : Prop :=
  e = .returned (.tuple #[]) ∧ ∃ vi', EnAt g w' s' vo vi' ∧ Chg (fun k => k = g ∨ vi.ownBlock = some k) w w' ∧ Fresh w vi vi'
theorem TakePost.same {g : Nat} {s' : En} {vo vi : Value} {w w' : World} (h : EnAt g w' s' vo vi) (hc : Chg (fun k => k = g) w w') : TakePost g s' vo vi w (.returned (.tuple #[])) w' :=
  ⟨rfl, vi, h, hc.mono (fun _ _ h => .inl h), .inl rfl⟩

def TakeSame (g : Nat) (s' : En) (vo vi : Value) (w : World) (e : Ending) (w' : World) : Prop := e = .returned (.tuple #[]) ∧ EnAt g w' s' vo vi ∧ Chg (fun k => k = g) w w'
set_option maxRecDepth 100000 in
set_option maxHeartbeats 2000000 in
theorem acked_any (g : Nat) (s : En) (vo vi : Value) (n now : Int) (w : World) (h : EnAt g w s vo vi) (hok : EnOk s) (hn : (Lit.int .i64 n).wf = true) :
    Calls Try.prog 103 #[.pointer (some ⟨g, 0, none⟩), .int .i64 n, .int .i64 now] w (TakeSame g (ackedS s n now) vo vi w) := by
  obtain ⟨Ao, co, hvo⟩ := h.oo.shape
  subst hvo
  have c3 := h.c3
  have c4 := h.c4
  have c5 := h.c5
  have c6 := h.c6
  have c8 := h.c8
  have c9 := h.c9
  have f4 := h.cel.frozen 4
  have f6 := h.cel.frozen 6
  have f9 := h.cel.frozen 9
  have hu := hok.una
  have hx := hok.next
  have hl := hok.outl
  have HM : Hid (mostS s = if s.endSent then s.next + 1 else s.next) := rfl
  by_cases h1 : n ≤ s.una
  · have d1 : decide (n ≤ s.una) = true := decide_eq_true h1
    have HE : Hid (ackedS s n now = s) := by show _ = _; unfold ackedS; rw [if_pos (.inl h1)]
    clear h1
    cases hes : s.endSent
    all_goals
      rw [hes] at c8
      clear hes
      go_enter Try.func103, Try.ntmps103
      go_wp2
      go_end0
      rw [HE.out]
      exact ⟨rfl, h, (Chg.refl _ _)⟩
  have d1 : decide (n ≤ s.una) = false := decide_eq_false h1
  by_cases h2 : mostS s < n
  · have HE : Hid (ackedS s n now = s) := by show _ = _; unfold ackedS; rw [if_pos (.inr h2)]
    cases hes : s.endSent
    · have d2 : decide (s.next < n) = true := decide_eq_true (by rw [HM.out, hes] at h2; exact h2)
      rw [hes] at c8
      clear hes h1 h2
      go_enter Try.func103, Try.ntmps103
      go_wp2
      go_end0
      rw [HE.out]
      exact ⟨rfl, h, (Chg.refl _ _)⟩
    · have d2 : decide (s.next + 1 < n) = true := decide_eq_true (by rw [HM.out, hes] at h2; exact h2)
      rw [hes] at c8
      clear hes h1 h2
      go_enter Try.func103, Try.ntmps103
      go_wp2
      go_end0
      rw [HE.out]
      exact ⟨rfl, h, (Chg.refl _ _)⟩
  by_cases h3 : (s.out.length : Int) < n
  · have HE : Hid (ackedS s n now = { s with una := s.out.length, at_ := now, endAcked := true }) := by show _ = _; unfold ackedS; rw [if_neg (by omega), if_pos h3]
    have d3 : decide ((s.out.length : Int) < n) = true := decide_eq_true h3
    have hE1 := h.set 9 (.bool true) { s with endAcked := true } rfl rfl (enF_cases rfl rfl rfl rfl rfl rfl rfl rfl rfl rfl rfl rfl rfl rfl)
    have hE2 := hE1.set 4 (.int .i64 s.out.length) { s with una := s.out.length, endAcked := true } rfl rfl (enF_cases rfl rfl rfl rfl rfl rfl rfl rfl rfl rfl rfl rfl rfl rfl)
    have hE3 := hE2.set 6 (.int .i64 now) { s with una := s.out.length, at_ := now, endAcked := true } rfl rfl (enF_cases rfl rfl rfl rfl rfl rfl rfl rfl rfl rfl rfl rfl rfl rfl)
    have hC := (((Chg.refl (fun k => k = g) w).setCell (a := ⟨g, 9, none⟩) (.inl rfl) (.bool true)).setCell (a := ⟨g, 4, none⟩) (.inl rfl) (.int .i64 s.out.length)).setCell (a := ⟨g, 6, none⟩) (.inl rfl) (.int .i64 now)
    cases hes : s.endSent
    · rw [HM.out, hes] at h2
      have d2 : decide (s.next < n) = false := decide_eq_false h2
      rw [hes] at c8
      clear hes h1 h2 h3
      go_enter Try.func103, Try.ntmps103
      go_wp2
      go_end0
      rw [HE.out]
      exact ⟨rfl, hE3, hC⟩
    · rw [HM.out, hes] at h2
      have d2 : decide (s.next + 1 < n) = false := decide_eq_false h2
      rw [hes] at c8
      clear hes h1 h2 h3
      go_enter Try.func103, Try.ntmps103
      go_wp2
      go_end0
      rw [HE.out]
      exact ⟨rfl, hE3, hC⟩
  · have HE : Hid (ackedS s n now = { s with una := n, at_ := now }) := by show _ = _; unfold ackedS; rw [if_neg (by omega), if_neg h3]
    have d3 : decide ((s.out.length : Int) < n) = false := decide_eq_false h3
    have hE2 := h.set 4 (.int .i64 n) { s with una := n } rfl rfl (enF_cases rfl rfl rfl rfl rfl rfl rfl rfl rfl rfl rfl rfl rfl rfl)
    have hE3 := hE2.set 6 (.int .i64 now) { s with una := n, at_ := now } rfl rfl (enF_cases rfl rfl rfl rfl rfl rfl rfl rfl rfl rfl rfl rfl rfl rfl)
    have hC := ((Chg.refl (fun k => k = g) w).setCell (a := ⟨g, 4, none⟩) (.inl rfl) (.int .i64 n)).setCell (a := ⟨g, 6, none⟩) (.inl rfl) (.int .i64 now)
    cases hes : s.endSent
    · rw [HM.out, hes] at h2
      have d2 : decide (s.next < n) = false := decide_eq_false h2
      rw [hes] at c8
      clear hes h1 h2 h3
      go_enter Try.func103, Try.ntmps103
      go_wp2
      go_end0
      rw [HE.out]
      exact ⟨rfl, hE3, hC⟩
    · rw [HM.out, hes] at h2
      have d2 : decide (s.next + 1 < n) = false := decide_eq_false h2
      rw [hes] at c8
      clear hes h1 h2 h3
      go_enter Try.func103, Try.ntmps103
      go_wp2
      go_end0
      rw [HE.out]
      exact ⟨rfl, hE3, hC⟩

/-- The block that a segment was laid into. -/
def segCs (q : Sg) (A : Option Addr) (c : Nat) : Array Value := #[.int .i64 q.t, .int .i64 q.id, .int .i64 q.seq, .int .i64 q.ack, .slice A q.data.length c]
structure SegIn (g : Nat) (w w1 : World) (s : En) (vo vi : Value) (q : Sg) (A : Option Addr) (c : Nat) : Prop where
  e : EnAt g w1 s vo vi
  k0 : w1.cell? ⟨w.heap.size, 0, none⟩ = some (.int .i64 q.t)
  k2 : w1.cell? ⟨w.heap.size, 2, none⟩ = some (.int .i64 q.seq)
  k3 : w1.cell? ⟨w.heap.size, 3, none⟩ = some (.int .i64 q.ack)
  k4 : w1.cell? ⟨w.heap.size, 4, none⟩ = some (.slice A q.data.length c)
  i : Ints .u8 w1 A q.data
  b : Chg (fun k => k = g) w w1
theorem segIn_new {g : Nat} {w : World} {s : En} {vo vi : Value} {A : Option Addr} {c : Nat} (q : Sg) (h : EnAt g w s vo vi) (hI : Ints .u8 w A q.data) :
    SegIn g w (w.alloc (.cells #[.int .i64 q.t, .int .i64 q.id, .int .i64 q.seq, .int .i64 q.ack, .slice A q.data.length c] 24)) s vo vi q A c := by
  have hb : Below w.heap.size w (w.alloc (.cells #[.int .i64 q.t, .int .i64 q.id, .int .i64 q.seq, .int .i64 q.ack, .slice A q.data.length c] 24)) := (Below.refl _ _).alloc (Nat.le_refl _) _
  exact ⟨h.below hb, cell_of_row _ _ 0 _ _ (0, 0) (heap_alloc_new w _), cell_of_row _ _ 2 _ _ (0, 0) (heap_alloc_new w _), cell_of_row _ _ 3 _ _ (0, 0) (heap_alloc_new w _), cell_of_row _ _ 4 _ _ (0, 0) (heap_alloc_new w _), hI.below hb, Chg.of_below hb⟩

set_option maxRecDepth 100000 in
set_option maxHeartbeats 2000000 in
theorem listening_any (g : Nat) (s : En) (vo vi : Value) (q : Sg) (A : Option Addr) (c : Nat) (now : Int) (w : World) (h : EnAt g w s vo vi) (hI : Ints .u8 w A q.data) :
    Calls Try.prog 86 #[.pointer (some ⟨g, 0, none⟩), segV q A c, .int .i64 now] w (TakePost g (listenS s q) vo vi w) := by
  have hS := segIn_new (c := c) q h hI
  have hE := hS.e
  have hB := hS.b
  have c1 := hE.c1
  have c13 := hE.c13
  have f1 := hE.cel.frozen 1
  have f13 := hE.cel.frozen 13
  obtain ⟨t, id, seq, ack, data⟩ := q
  clear hS
  simp only [segV] at *
  by_cases h1 : t = 1
  · subst h1
    go_enter Try.func86, Try.ntmps86
    go_wp2
    go_end0
    rw [show listenS s ⟨1, id, seq, ack, data⟩ = { s with st := 3, owes := true } from rfl]
    exact TakePost.same ((hE.set 1 (.int .i64 3) { s with st := 3 } rfl rfl (enF_cases rfl rfl rfl rfl rfl rfl rfl rfl rfl rfl rfl rfl rfl rfl)).set 13 (.bool true) { s with st := 3, owes := true } rfl rfl (enF_cases rfl rfl rfl rfl rfl rfl rfl rfl rfl rfl rfl rfl rfl rfl)) ((hB.setCell (.inl rfl) _).setCell (.inl rfl) _)
  · have t1 : (t == 1) = false := by simpa using h1
    have HE : Hid (listenS s ⟨t, id, seq, ack, data⟩ = s) := if_neg h1
    clear h1
    go_enter Try.func86, Try.ntmps86
    go_wp2
    go_end0
    rw [HE.out]
    exact TakePost.same hE hB

set_option maxRecDepth 100000 in
set_option maxHeartbeats 2000000 in
theorem dialing_any (g : Nat) (s : En) (vo vi : Value) (q : Sg) (A : Option Addr) (c : Nat) (now : Int) (w : World) (h : EnAt g w s vo vi) (hI : Ints .u8 w A q.data) :
    Calls Try.prog 85 #[.pointer (some ⟨g, 0, none⟩), segV q A c, .int .i64 now] w (TakePost g (dialS s q) vo vi w) := by
  have hS := segIn_new (c := c) q h hI
  have hE := hS.e
  have hB := hS.b
  have c1 := hE.c1
  have f1 := hE.cel.frozen 1
  obtain ⟨t, id, seq, ack, data⟩ := q
  clear hS
  simp only [segV] at *
  by_cases h1 : t = 2
  · subst h1
    by_cases h2 : ack = 0
    · subst h2
      go_enter Try.func85, Try.ntmps85
      go_wp2
      go_end0
      rw [show dialS s ⟨2, id, seq, 0, data⟩ = { s with st := 3 } from rfl]
      exact TakePost.same (hE.set 1 (.int .i64 3) { s with st := 3 } rfl rfl (enF_cases rfl rfl rfl rfl rfl rfl rfl rfl rfl rfl rfl rfl rfl rfl)) (hB.setCell (.inl rfl) _)
    · have t2 : (ack == 0) = false := by simpa using h2
      have HE : Hid (dialS s ⟨2, id, seq, ack, data⟩ = s) := if_neg (fun h => h2 h.2)
      clear h2
      go_enter Try.func85, Try.ntmps85
      go_wp2
      go_end0
      rw [HE.out]
      exact TakePost.same hE hB
  · have t1 : (t == 2) = false := by simpa using h1
    have HE : Hid (dialS s ⟨t, id, seq, ack, data⟩ = s) := if_neg (fun h => h1 h.1)
    clear h1
    go_enter Try.func85, Try.ntmps85
    go_wp2
    go_end0
    rw [HE.out]
    exact TakePost.same hE hB
theorem EnAt.ints_far {g : Nat} {w : World} {s : En} {vo vi : Value} (h : EnAt g w s vo vi) {A : Option Addr} {xs : List Int} (hI : Ints .u8 w A xs) (hx : 0 < xs.length) {b o : Nat} (hA : A = some ⟨b, o, none⟩) : b ≠ g := by
  obtain ⟨b', o', hA', _, hc⟩ := hI hx
  rw [hA] at hA'
  injection hA' with hA'
  injection hA' with e1 e2 _
  subst e1; subst e2
  rintro rfl
  have h0 := hc 0 hx
  rw [Nat.add_zero] at h0
  by_cases ho : o < 14
  · rw [h.cell o ho] at h0
    injection h0 with h0
    have : ∀ j, j < 14 → ∀ x, enF s vo vi j ≠ .int .u8 x := by
      obtain ⟨Ao, co, hvo⟩ := h.oo.shape
      obtain ⟨Ai, ci, hvi⟩ := h.oi.shape
      subst hvo; subst hvi
      exact enF_cases (fun x h => by cases h) (fun x h => by cases h) (fun x h => by cases h) (fun x h => by cases h) (fun x h => by cases h) (fun x h => by cases h) (fun x h => by cases h) (fun x h => by cases h) (fun x h => by cases h) (fun x h => by cases h) (fun x h => by cases h) (fun x h => by cases h) (fun x h => by cases h) (fun x h => by cases h)
    exact this o ho _ h0
  · obtain ⟨cs, h1, h2, _⟩ := h.cel
    rw [cell_of_row _ _ o _ _ (0, 0) h1, Array.getElem?_eq_none (by omega)] at h0
    cases h0
theorem SegIn.next {g : Nat} {w w1 w2 : World} {s s' : En} {vo vi : Value} {q : Sg} {A : Option Addr} {c : Nat} (h : SegIn g w w1 s vo vi q A c) (hg : g < w.heap.size) (hE : EnAt g w2 s' vo vi) (hc : Chg (fun k => k = g) w1 w2) : SegIn g w w2 s' vo vi q A c := by
  have hl := World.block_lt_of_cell? w1 _ h.k0
  have hb : w2.heap[w.heap.size]? = w1.heap[w.heap.size]? := hc.block w.heap.size hl (by omega)
  have hk : ∀ i, w2.cell? ⟨w.heap.size, i, none⟩ = w1.cell? ⟨w.heap.size, i, none⟩ := fun i => World.cell?_of_block hb
  refine ⟨hE, (hk 0).trans h.k0, (hk 2).trans h.k2, (hk 3).trans h.k3, (hk 4).trans h.k4, ?_, h.b.trans hc (fun _ _ h => h)⟩
  intro hx
  exact (h.i.chg hc (fun b o hA => h.e.ints_far h.i hx hA)) hx

set_option maxRecDepth 100000 in
set_option maxHeartbeats 4000000 in
theorem open_any (g : Nat) (s : En) (vo vi : Value) (q : Sg) (A : Option Addr) (c : Nat) (now : Int) (w : World) (h : EnAt g w s vo vi) (hok : EnOk s) (hI : Ints .u8 w A q.data) (ha : (Lit.int .i64 q.ack).wf = true) (hd : q.data.length ≤ 400) :
    Calls Try.prog 87 #[.pointer (some ⟨g, 0, none⟩), segV q A c, .int .i64 now] w (TakePost g (openS s q now) vo vi w) := by
  have hg := h.blk
  have hS := segIn_new (c := c) q h hI
  obtain ⟨t, id, seq, ack, data⟩ := q
  simp only [segV] at *
  go_enter Try.func87, Try.ntmps87
  go_upto_region 1 with (fail)
  generalize (w.alloc (.cells #[.int .i64 t, .int .i64 id, .int .i64 seq, .int .i64 ack, .slice A data.length c] 24)) = w1 at *
  have hE := hS.e
  have hB := hS.b
  have f13 := hE.cel.frozen 13
  have c13 := hE.c13
  have k0 := hS.k0
  simp only at k0
  have hS2 := hS.next hg (hE.set 13 (.bool true) { s with owes := true } rfl rfl (enF_cases rfl rfl rfl rfl rfl rfl rfl rfl rfl rfl rfl rfl rfl rfl)) ((Chg.refl (fun k => k = g) _).setCell (.inl rfl) _)
  by_cases h1 : t = 1
  · subst h1
    have HE : Hid (openS s ⟨1, id, seq, ack, data⟩ now = { s with owes := true }) := rfl
    clear hS
    go_wp2
    go_end0
    rw [HE.out]
    exact TakePost.same hS2.e hS2.b
  by_cases h2 : t = 2
  · subst h2
    have HE : Hid (openS s ⟨2, id, seq, ack, data⟩ now = ackedS s ack now) := rfl
    have k3 := hS.k3
    simp only at k3
    clear hS h1
    go_wp2_with fail
    refine (acked_any g s vo vi ack now _ hE hok ha).mono ?_
    rintro e w2 ⟨rfl, hE2, hC2⟩
    go_wp2
    go_end0
    rw [HE.out]
    exact TakePost.same hE2 (hB.trans hC2 (fun _ _ h => h))
  by_cases h3 : t = 3
  · subst h3
    have HE : Hid (openS s ⟨3, id, seq, ack, data⟩ now = dataS s ⟨3, id, seq, ack, data⟩) := rfl
    go_upto_region 8 with (fail)
    clear hS hE k0 c13 f13 hB h1 h2
    generalize (w1.setCell ⟨g, 13, none⟩ (.bool true)) = w2 at *
    have hE := hS2.e
    obtain ⟨Ai, ci, hvi⟩ := hE.oi.shape
    simp only at hvi
    subst hvi
    have k2 := hS2.k2
    have k4 := hS2.k4
    have c10 := hE.c10
    have c12 := hE.c12
    simp only at k2 k4 c10 c12
    have hil := hok.innl
    have w1' : IntKind.i64.wrap (1048576 - (s.inn.length : Int)) = 1048576 - (s.inn.length : Int) := IntWalk.i64_in _ (by omega)
    by_cases q1 : seq = s.inn.length
    · have t1 : (seq == (s.inn.length : Int)) = true := by simpa using q1
      by_cases q2 : (data.length : Int) ≤ 1048576 - s.inn.length
      · have t2 : decide ((data.length : Int) ≤ 1048576 - (s.inn.length : Int)) = true := decide_eq_true q2
        cases q3 : s.other
        · rw [q3] at c12
          have HD : Hid (dataS s ⟨3, id, seq, ack, data⟩ = { s with owes := true, inn := s.inn ++ data }) := if_pos ⟨q1, q2, q3⟩
          have hd' : data.length ≤ 400 := hd
          clear q1 q2 q3
          obtain ⟨i0, hi, hz0, hz1, hz2⟩ := info_parts Try.info_u8
          go_wp2
          go_quiet (fail)
          have hE3 := hE.drewN nq
          have hB3 := hS2.b.drewN nq
          have hI3 : Ints .u8 (w2.drewN nq) A data := hS2.i
          have k4' : (w2.drewN nq).cell? ⟨w.heap.size, 4, none⟩ = some (.slice A data.length c) := k4
          clear hS2 hE c10 c12 k2 k4 w1' t1 t2
          generalize w2.drewN nq = w3 at *
          have c10 : w3.cell? ⟨g, 10, none⟩ = some (.slice Ai s.inn.length ci) := hE3.c10
          go_wp2
          go_region_law (refine step_append_S rfl (.tmp 56) (.tmp 58) 22 22 rfl i0 (.int .u8 0) 1 (.slice 5) Try.underlying22 Try.underlying22 (fun _ h => by cases h) hi hz0 hz1 hz2 rfl rfl rfl (hE3.oi.drew) (Src.ints hI3).drew ?_ ?_ ?_ ?_; (simp only []; unfold maxLen; omega); (simp only []; omega); (exact Nat.zero_le _); intro A9 c9 w9 ho9 hg9 hw9; have hc9 : Chg (fun k => (Value.slice Ai s.inn.length ci).ownBlock = some k) w3 w9 := (Chg.refl _ _).drew.trans (Chg.of_grown hg9 (fun k hk => hk)) (fun _ _ h => h); have hC9 := hE3.cel.chg hc9 (hE3.far.2); have y10 := hC9.cell 10 (by decide); have yf := hC9.frozen 10)
          all_goals
            go_wp2
            go_end0
            rw [HE.out, HD.out]
            rw [← List.map_append] at ho9
            have hF : Fresh w3 (.slice Ai s.inn.length ci) (.slice A9 (s.inn.length + data.length) c9) := hw9.imp (fun h => h) (fun h k hk => by rw [h] at hk; injection hk with hk; subst hk; exact Nat.le_refl _)
            have hN := hE3.newIn (in' := s.inn ++ data) hc9 (fun k _ hk => hk) (by rw [List.length_append]; exact ho9) hF
            exact ⟨rfl, _, hN, ((hB3.mono (S' := fun k => k = g ∨ (Value.slice Ai s.inn.length ci).ownBlock = some k) (fun _ _ h => .inl h)).trans hc9 (fun _ _ h => .inr h)).setCell (.inl (.inl rfl)) _, hF.imp (fun h => h) (fun h k hk => Nat.le_trans hB3.size (h k hk))⟩
        · rw [q3] at c12
          have HD : Hid (dataS s ⟨3, id, seq, ack, data⟩ = { s with owes := true }) := if_neg (fun h => by rw [q3] at h; exact absurd h.2.2 (by decide))
          clear q1 q2 q3
          go_wp2
          go_quiet (fail)
          go_wp2
          go_end0
          rw [HE.out, HD.out]
          exact TakePost.same (hE.drewN _) (hS2.b.drewN _)
      · have t2 : decide ((data.length : Int) ≤ 1048576 - (s.inn.length : Int)) = false := decide_eq_false q2
        have HD : Hid (dataS s ⟨3, id, seq, ack, data⟩ = { s with owes := true }) := if_neg (fun h => q2 h.2.1)
        clear q1 q2
        go_wp2
        go_quiet (fail)
        go_wp2
        go_end0
        rw [HE.out, HD.out]
        exact TakePost.same (hE.drewN _) (hS2.b.drewN _)
    · have t1 : (seq == (s.inn.length : Int)) = false := by simpa using q1
      have HD : Hid (dataS s ⟨3, id, seq, ack, data⟩ = { s with owes := true }) := if_neg (fun h => q1 h.1)
      clear q1
      go_wp2
      go_quiet (fail)
      go_wp2
      go_end0
      rw [HE.out, HD.out]
      exact TakePost.same (hE.drewN _) (hS2.b.drewN _)
  by_cases h4 : t = 4
  · subst h4
    go_upto_region 12 with (fail)
    clear hS hE k0 c13 f13 hB h1 h2 h3
    generalize (w1.setCell ⟨g, 13, none⟩ (.bool true)) = w2 at *
    have hE := hS2.e
    obtain ⟨Ai, ci, hvi⟩ := hE.oi.shape
    simp only at hvi
    subst hvi
    have k2 := hS2.k2
    have c10 := hE.c10
    have c12 := hE.c12
    have f12 := hE.cel.frozen 12
    simp only at k2 c10 c12
    by_cases q1 : seq = s.inn.length
    · have t1 : (seq == (s.inn.length : Int)) = true := by simpa using q1
      have HE : Hid (openS s ⟨4, id, seq, ack, data⟩ now = { s with owes := true, other := true }) := if_pos q1
      clear q1
      go_wp2
      go_quiet (fail)
      go_wp2
      go_end0
      rw [HE.out]
      exact TakePost.same ((hE.drewN _).set 12 (.bool true) { s with owes := true, other := true } rfl rfl (enF_cases rfl rfl rfl rfl rfl rfl rfl rfl rfl rfl rfl rfl rfl rfl)) ((hS2.b.drewN _).setCell (.inl rfl) _)
    · have t1 : (seq == (s.inn.length : Int)) = false := by simpa using q1
      have HE : Hid (openS s ⟨4, id, seq, ack, data⟩ now = { s with owes := true }) := if_neg q1
      clear q1
      go_wp2
      go_quiet (fail)
      go_wp2
      go_end0
      rw [HE.out]
      exact TakePost.same (hE.drewN _) (hS2.b.drewN _)
  · have HE : Hid (openS s ⟨t, id, seq, ack, data⟩ now = s) := by show _ = _; unfold openS; rw [if_neg h1, if_neg h2, if_neg h3, if_neg h4]
    have t1 : (t == 1) = false := by simpa using h1
    have t2 : (t == 2) = false := by simpa using h2
    have t3 : (t == 3) = false := by simpa using h3
    have t4 : (t == 4) = false := by simpa using h4
    clear hS hS2 h1 h2 h3 h4
    go_wp2
    go_end0
    rw [HE.out]
    exact TakePost.same hE hB
end Go.Proofs.Ytoeipgbnjcgbjaa
