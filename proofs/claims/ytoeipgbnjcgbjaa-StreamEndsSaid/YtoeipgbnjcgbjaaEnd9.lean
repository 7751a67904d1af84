/- (*stream.End).Out, whatever the state. -/
import Derived.Test.YtoeipgbnjcgbjaaEnd4
import Derived.Test.YtoeipgbnjcgbjaaEnd6
namespace Go.Proofs.Ytoeipgbnjcgbjaa
open Go.RowKit
set_option linter.unusedVariables false

set_option maxRecDepth 100000 in
set_option maxHeartbeats 2000000 in
theorem out_any (g : Nat) (s : En) (vo vi : Value) (now : Int) (w : World) (h : EnAt g w s vo vi) (hok : EnOk s) (hnow : (Lit.int .i64 now).wf = true) :
    Calls Try.prog 22 #[.pointer (some ⟨g, 0, none⟩), .int .i64 now] w (OutPost g s vo vi now w) := by
  by_cases h1 : s.st = 1
  · by_cases hd : s.dialed = false ∨ (s.dialed = true ∧ dueB s now = true)
    · exact out_dial g s vo vi now w h hok h1 hd
    have hd1 : s.dialed = true := by cases e : s.dialed; exact absurd (.inl e) hd; rfl
    have hd2 : dueB s now = false := by cases e : dueB s now; rfl; exact absurd (.inr ⟨hd1, e⟩) hd
    have HE : Hid (outS s now = ([], s)) := by show _ = _; unfold outS; rw [if_pos h1, if_neg (by simp [hd1, hd2])]
    have hdc := due_any g s vo vi now w h hok.at_
    rw [hd2] at hdc
    have c1 := h.c1
    rw [h1] at c1
    have c2 := h.c2
    rw [hd1] at c2
    clear h1 hd hd1 hd2
    go_enter Try.func22, Try.ntmps22
    go_wp2_with (first
      | (go_at_call 55; refine hdc.mono ?_; rintro e w1 ⟨rfl, rfl⟩)
      | (go_at_call 58; refine (clips_any none 0 0 _ (Nat.le_refl _) (by decide)).mono ?_; rintro e w6 ⟨rfl, rfl⟩))
    go_ret
    unfold OutPost
    rw [HE.out]
    exact ⟨none, rfl, OutsAt.nil _ _, h, Chg.refl _ _⟩
  have t1 : (s.st == 1) = false := by simpa using h1
  by_cases h3 : s.st = 3
  · have HE : Hid (outS s now = sendsS s now) := by show _ = _; unfold outS; rw [if_neg h1, if_pos h3]
    have hs := sends_any g s vo vi now w h hok hnow
    have c1 := h.c1
    rw [h3] at c1
    clear h1 h3 t1
    go_enter Try.func22, Try.ntmps22
    go_wp2_with fail
    refine hs.mono ?_
    rintro e w2 ⟨A2, c2, rfl, hO, hE2, hC⟩
    have hcl := hO.cap
    clear hs
    go_wp2_with (go_at_call 58; refine (clips_any _ _ _ _ hcl.1 hcl.2).mono ?_; rintro e w6 ⟨rfl, rfl⟩)
    go_ret
    unfold OutPost
    rw [HE.out]
    exact ⟨A2, rfl, hO.clip rfl, hE2, hC⟩
  · have t3 : (s.st == 3) = false := by simpa using h3
    have HE : Hid (outS s now = ([], s)) := by show _ = _; unfold outS; rw [if_neg h1, if_neg h3]
    have c1 := h.c1
    clear h1 h3
    go_enter Try.func22, Try.ntmps22
    go_wp2_with (go_at_call 58; refine (clips_any none 0 0 _ (Nat.le_refl _) (by decide)).mono ?_; rintro e w6 ⟨rfl, rfl⟩)
    go_ret
    unfold OutPost
    rw [HE.out]
    exact ⟨none, rfl, OutsAt.nil _ _, h, Chg.refl _ _⟩

end Go.Proofs.Ytoeipgbnjcgbjaa
