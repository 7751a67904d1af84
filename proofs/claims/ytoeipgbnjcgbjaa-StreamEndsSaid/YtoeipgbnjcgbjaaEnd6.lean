/- (*stream.End): Close, Write, Read, Out, Done, Idle. -/
import Derived.Test.YtoeipgbnjcgbjaaEnd5
import Derived.Deep.RegionHeld3
namespace Go.Proofs.Ytoeipgbnjcgbjaa
open Go.RowKit
set_option linter.unusedVariables false

set_option maxRecDepth 100000 in
theorem close_any (g : Nat) (s : En) (vo vi : Value) (w : World) (h : EnAt g w s vo vi) :
    Calls Try.prog 28 #[.pointer (some ⟨g, 0, none⟩)] w fun e w' => e = .returned (.int .i64 (closeS s).1) ∧ EnAt g w' (closeS s).2 vo vi ∧ Chg (fun k => k = g) w w' := by
  have c1 := h.c1
  have c7 := h.c7
  have f7 := h.cel.frozen 7
  by_cases h1 : s.st = 4
  · rw [h1] at c1
    have HE : Hid (closeS s = (81, s)) := by show _ = _; unfold closeS; rw [if_pos h1]
    clear h1
    go_enter Try.func28, Try.ntmps28
    go_wp2
    go_ret
    rw [HE.out]
    exact ⟨rfl, h, Chg.refl _ _⟩
  · have HE : Hid (closeS s = (0, { s with closed := true })) := by show _ = _; unfold closeS; rw [if_neg h1]
    have t1 : (s.st == 4) = false := by simpa using h1
    clear h1
    go_enter Try.func28, Try.ntmps28
    go_wp2
    go_ret
    rw [HE.out]
    exact ⟨rfl, h.set 7 _ { s with closed := true } rfl rfl (enF_cases rfl rfl rfl rfl rfl rfl rfl rfl rfl rfl rfl rfl rfl rfl), (Chg.refl (fun k => k = g) w).setCell (.inl rfl) _⟩

/-- What Write leaves. -/
def WrPost (g : Nat) (s : En) (vo vi : Value) (b : List Int) (w : World) (e : Ending) (w' : World) : Prop :=
  ∃ vo', e = .returned (.int .i64 (writeS s b).1) ∧ EnAt g w' (writeS s b).2 vo' vi ∧ Chg (fun k => k = g ∨ vo.ownBlock = some k) w w' ∧ Fresh w vo vo'
set_option maxRecDepth 100000 in
set_option maxHeartbeats 2000000 in
theorem write_any (g : Nat) (s : En) (vo vi : Value) (A : Option Addr) (n c : Nat) (b : List Int) (w : World) (h : EnAt g w s vo vi) (hok : EnOk s) (hI : Ints .u8 w A b) (hn : b.length = n) (hsz : n ≤ 140737488355000) :
    Calls Try.prog 21 #[.pointer (some ⟨g, 0, none⟩), .slice A n c] w (WrPost g s vo vi b w) := by
  subst hn
  have c1 := h.c1
  have c3 := h.c3
  have c7 := h.c7
  by_cases h1 : s.st = 4
  · rw [h1] at c1
    have HE : Hid (writeS s b = (81, s)) := by show _ = _; unfold writeS; rw [if_pos h1]
    clear h1
    go_enter Try.func21, Try.ntmps21
    go_wp2
    go_ret
    unfold WrPost
    rw [HE.out]
    exact ⟨vo, rfl, h, Chg.refl _ _, .inl rfl⟩
  have t1 : (s.st == 4) = false := by simpa using h1
  cases h2 : s.closed
  · rw [h2] at c7
    obtain ⟨Ao, co, rfl⟩ := h.oo.shape
    have ho := hok.outl
    by_cases h3 : (1048576 : Int) - s.out.length < b.length
    · have HE : Hid (writeS s b = (60, s)) := by show _ = _; unfold writeS; rw [if_neg h1, if_neg (by simp [h2]), if_pos h3]
      have d : decide ((1048576 : Int) - s.out.length < (b.length : Int)) = true := decide_eq_true h3
      clear h1 h2 h3
      go_enter Try.func21, Try.ntmps21
      go_wp2
      go_ret
      unfold WrPost
      rw [HE.out]
      exact ⟨_, rfl, h, Chg.refl _ _, .inl rfl⟩
    · have HE : Hid (writeS s b = (0, { s with out := s.out ++ b })) := by show _ = _; unfold writeS; rw [if_neg h1, if_neg (by simp [h2]), if_neg h3]
      have d : decide ((1048576 : Int) - s.out.length < (b.length : Int)) = false := decide_eq_false h3
      have hb3 : b.length ≤ 1048576 := by omega
      clear h1 h2 h3
      obtain ⟨i0, hi, hz0, hz1, hz2⟩ := info_parts Try.info_u8
      go_enter Try.func21, Try.ntmps21
      go_wp2_with (at_builtin; go_loud (refine wpList_append_S rfl (.tmp 30) (.tmp 31) 22 22 rfl i0 (.int .u8 0) 1 (.slice 5) Try.underlying22 Try.underlying22 (fun _ h => by cases h) hi hz0 hz1 hz2 rfl rfl rfl h.oo (Src.ints hI) ?_ ?_ ?_ ?_; (unfold maxLen; omega); omega; (exact Nat.zero_le _); intro A5 c5 w5 ho5 hg5 hw5; have hc5 : Chg (fun k => (Value.slice Ao s.out.length co).ownBlock = some k) w w5 := Chg.of_grown hg5 (fun k hk => hk); have hcel5 := h.cel.chg hc5 h.far.1; have k3 := hcel5.cell 3 (by decide); have f3 := hcel5.frozen 3))
      go_ret
      unfold WrPost
      rw [HE.out]
      have e : (s.out.length + b.length) = (s.out ++ b).length := by rw [List.length_append]
      rw [← List.map_append] at ho5
      have hF : Fresh w (.slice Ao s.out.length co) (.slice A5 (s.out.length + b.length) c5) := hw5.imp id (fun h k hk => by rw [h] at hk; injection hk with hk; omega)
      refine ⟨.slice A5 (s.out.length + b.length) c5, rfl, h.newOut (out' := s.out ++ b) hc5 (fun k _ hk => hk) ?_ hF, (hc5.mono (fun k _ hk => .inr hk)).setCell (.inl (.inl rfl)) _, hF⟩
      rw [List.length_append]
      exact ho5
  · rw [h2] at c7
    have HE : Hid (writeS s b = (1, s)) := by show _ = _; unfold writeS; rw [if_neg h1, if_pos h2]
    clear h1 h2
    go_enter Try.func21, Try.ntmps21
    go_wp2
    go_ret
    unfold WrPost
    rw [HE.out]
    exact ⟨vo, rfl, h, Chg.refl _ _, .inl rfl⟩

theorem OutsAt.cap {B : Nat} {w : World} {A : Option Addr} {n c : Nat} {ls : List (List Int)} (h : OutsAt B w (.slice A n c) ls) : n ≤ c ∧ c ≤ 9223372036854775807 := by
  obtain ⟨vs, ho, _⟩ := h
  obtain ⟨A', c', e⟩ := ho.shape
  injection e with _ hn _
  subst hn
  exact ho.capLe
set_option maxRecDepth 100000 in
theorem clips_any (A : Option Addr) (n c : Nat) (w : World) (hn : n ≤ c) (hc : c ≤ 9223372036854775807) :
    Calls Try.prog 58 #[.slice A n c] w fun e w' => e = .returned (.slice A n n) ∧ w = w' := by
  have h0 : (n : Int) ≤ c := by omega
  go_enter Try.func58, Try.ntmps58
  go_wp2
  go_ret
  exact ⟨rfl, rfl⟩
/-- What Out leaves. -/
def OutPost (g : Nat) (s : En) (vo vi : Value) (now : Int) (w : World) (e : Ending) (w' : World) : Prop :=
  ∃ A, e = .returned (.slice A (outS s now).1.length (outS s now).1.length) ∧ OutsAt w.heap.size w' (.slice A (outS s now).1.length (outS s now).1.length) (outS s now).1 ∧ EnAt g w' (outS s now).2 vo vi ∧ Chg (fun k => k = g) w w'
set_option maxRecDepth 100000 in
set_option maxHeartbeats 2000000 in
theorem out_dial (g : Nat) (s : En) (vo vi : Value) (now : Int) (w : World) (h : EnAt g w s vo vi) (hok : EnOk s) (h1 : s.st = 1) (hd : s.dialed = false ∨ (s.dialed = true ∧ dueB s now = true)) :
    Calls Try.prog 22 #[.pointer (some ⟨g, 0, none⟩), .int .i64 now] w (OutPost g s vo vi now w) := by
  have hfpl := h.fp_lt
  have c1 := h.c1
  have c2 := h.c2
  have c6 := h.c6
  have f2 := h.cel.frozen 2
  have f6 := h.cel.frozen 6
  rw [h1] at c1
  have HE : Hid (outS s now = ([segL ⟨1, s.id, 0, 0, []⟩], { s with dialed := true, at_ := now })) := by
    show _ = _
    unfold outS
    rw [if_pos h1, if_pos (by rcases hd with hd | hd; simp [hd]; simp [hd.2])]
  have h3 := ((h.set 2 (.bool true) { s with dialed := true } rfl rfl (enF_cases rfl rfl rfl rfl rfl rfl rfl rfl rfl rfl rfl rfl rfl rfl)).set 6 (.int .i64 now) { s with dialed := true, at_ := now } rfl rfl (enF_cases rfl rfl rfl rfl rfl rfl rfl rfl rfl rfl rfl rfl rfl rfl))
  have hch3 : Chg (fun k => k = g) w ((w.setCell ⟨g, 2, none⟩ (.bool true)).setCell ⟨g, 6, none⟩ (.int .i64 now)) := ((Chg.refl (fun k => k = g) w).setCell (.inl rfl) _).setCell (.inl rfl) _
  have hdc := due_any g s vo vi now w h hok.at_
  clear h1
  rcases hd with hd | ⟨hd, hdue⟩
  all_goals
    rw [hd] at c2
    try rw [hdue] at hdc
    try clear hdue
    clear hd
    go_enter Try.func22, Try.ntmps22
    go_wp2_with (go_at_call 55; refine hdc.mono ?_; rintro e w1 ⟨rfl, rfl⟩)
    refine (say_any g { s with dialed := true, at_ := now } vo vi ⟨1, 0, 0, 0, []⟩ none 0 _ h3 hok.id (fun h => by cases h) (fun x h => by cases h) (by simp) (by decide)).mono ?_
    rintro e w3 ⟨A3, rfl, ho3, hb3⟩
    have h4 := h3.below hb3
    have hch4 := hch3.trans (Chg.of_below (S := fun _ => False) hb3) (fun _ _ h => h.elim)
    have ho4 := ho3.base_ (base' := w.heap.size) hch3.size
    have hz4 := hch4.size
    clear h3 hch3 ho3 hb3 c1 c2 c6 f2 f6 hdc
    go_wp2_with (first
      | (have hm := hO5; go_at_call 58; refine (clips_any _ _ _ _ hcl.1 hcl.2).mono ?_; rintro e w6 ⟨rfl, rfl⟩)
      | (at_builtin; go_loud (refine wpList_outs rfl (.tmp 29) (.tmp 33) rfl rfl rfl (OutsAt.nil w.heap.size w3) ho4 hz4 (by simp) ?_; intro A5 c5 w5 hO5 hc5; have hcl := hO5.cap)))
    go_ret
    unfold OutPost
    rw [HE.out]
    exact ⟨A5, rfl, hO5.clip rfl, h4.chg hc5 (fun k hk hk' => by have := hfpl k hk; omega), hch4.trans hc5 (fun i hi hk => by omega)⟩
set_option maxRecDepth 100000 in
theorem done_any (g : Nat) (s : En) (vo vi : Value) (w : World) (h : EnAt g w s vo vi) :
    Calls Try.prog 38 #[.pointer (some ⟨g, 0, none⟩)] w fun e w' => e = .returned (.bool (s.endAcked && s.other)) ∧ w = w' := by
  have c9 := h.c9
  have c12 := h.c12
  cases h9 : s.endAcked
  all_goals
    rw [h9] at c9
    clear h9
    go_enter Try.func38, Try.ntmps38
    go_wp2
    go_ret
    exact ⟨rfl, rfl⟩

theorem quiet_drawn {P : Program} {f : FuncId} {args : Array Value} {w : World} {n : Nat} {v : Value} (h : Calls P f args (w.drewN n) fun e w' => e = .returned v ∧ ∃ m, w' = (w.drewN n).drewN m) : Calls P f args (w.drewN n) fun e w'' => e = .returned v ∧ ∃ m, w'' = w.drewN m :=
  h.mono fun _ _ ⟨he, m, hm⟩ => ⟨he, n + m, by rw [hm, World.drewN_drewN]⟩
def idleB (s : En) : Bool := if s.st = 4 then true else if s.st = 1 then false else !waitsB s && (decide (s.next = s.out.length) && ((!s.closed || s.endAcked) && !s.owes))
set_option maxRecDepth 100000 in
set_option maxHeartbeats 2000000 in
theorem idle_any (g : Nat) (s : En) (vo vi : Value) (w : World) (h : EnAt g w s vo vi) (hok : EnOk s) :
    Calls Try.prog 39 #[.pointer (some ⟨g, 0, none⟩)] w fun e w' => e = .returned (.bool (idleB s)) ∧ ∃ m, w' = w.drewN m := by
  have c1 := h.c1
  by_cases h4 : s.st = 4
  · rw [h4] at c1
    have HE : Hid (idleB s = true) := by show _ = _; unfold idleB; rw [if_pos h4]
    clear h4
    go_enter Try.func39, Try.ntmps39
    go_wp2
    go_ret
    exact ⟨by rw [HE.out]; rfl, 0, rfl⟩
  by_cases h1 : s.st = 1
  · rw [h1] at c1
    have HE : Hid (idleB s = false) := by show _ = _; unfold idleB; rw [if_neg h4, if_pos h1]
    clear h1 h4
    go_enter Try.func39, Try.ntmps39
    go_wp2
    go_ret
    exact ⟨by rw [HE.out]; rfl, 0, rfl⟩
  have t1 : (s.st == 1) = false := by simpa using h1
  have t4 : (s.st == 4) = false := by simpa using h4
  have HE : Hid (idleB s = (!waitsB s && (decide (s.next = s.out.length) && ((!s.closed || s.endAcked) && !s.owes)))) := by show _ = _; unfold idleB; rw [if_neg h4, if_neg h1]
  have hw := fun m => waits_any g s vo vi (w.drewN m) (h.drewN m)
  obtain ⟨Ao, co, hvo⟩ := h.oo.shape
  subst hvo
  have c3 := h.c3
  have c5 := h.c5
  have c7 := h.c7
  have c9 := h.c9
  have c13 := h.c13
  have ho := hok.outl
  clear h1 h4 h hok
  obtain ⟨wb, hwb⟩ : ∃ b, b = waitsB s := ⟨_, rfl⟩
  rw [← hwb] at HE hw
  clear hwb
  obtain ⟨q, hq⟩ : ∃ q, q = decide (s.next = s.out.length) := ⟨_, rfl⟩
  rw [← hq] at HE
  have HC := fun n => quiet_drawn (hw n)
  generalize s.closed = cl at *
  generalize s.endAcked = ea at *
  generalize s.owes = ow at *
  have HWC := Lib.hid HC
  clear hw HC
  cases wb
  · cases q
    · have t : (s.next == (s.out.length : Int)) = false := by simpa using hq
      clear hq
      go_enter Try.func39, Try.ntmps39
      go_wp2
      go_quiet ((go_at_call 67; exact HWC.out _))
      go_wp2
      go_ret
      exact ⟨by rw [HE.out]; rfl, _, rfl⟩
    · have t : (s.next == (s.out.length : Int)) = true := by simpa using hq.symm
      clear hq
      cases cl <;> cases ea <;> cases ow
      all_goals
        go_enter Try.func39, Try.ntmps39
        go_wp2
        go_quiet ((go_at_call 67; exact HWC.out _))
        go_wp2
        go_ret
        exact ⟨by rw [HE.out]; rfl, _, rfl⟩
  · clear hq
    go_enter Try.func39, Try.ntmps39
    go_wp2
    go_quiet ((go_at_call 67; exact HWC.out _))
    go_wp2
    go_ret
    exact ⟨by rw [HE.out]; rfl, _, rfl⟩
end Go.Proofs.Ytoeipgbnjcgbjaa
