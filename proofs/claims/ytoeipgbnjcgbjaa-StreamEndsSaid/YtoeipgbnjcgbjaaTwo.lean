/- Two ends of a stream in memory that share nothing; what a call on the one leaves of both. -/
import Derived.Test.YtoeipgbnjcgbjaaStrAwk
import Derived.Test.YtoeipgbnjcgbjaaEndR
namespace Go.Proofs.Ytoeipgbnjcgbjaa
open Go.RowKit
set_option linter.unusedVariables false

structure Two (B g1 g2 : Nat) (w : World) (s1 s2 : En) (vo1 vi1 vo2 vi2 : Value) : Prop where
  e1 : EnAt g1 w s1 vo1 vi1
  e2 : EnAt g2 w s2 vo2 vi2
  dis : ∀ k, Fp g1 vo1 vi1 k → ¬ Fp g2 vo2 vi2 k
  low1 : ∀ k, Fp g1 vo1 vi1 k → B ≤ k
  low2 : ∀ k, Fp g2 vo2 vi2 k → B ≤ k
section
variable {B g1 g2 : Nat} {w w' : World} {s1 s1' s2 : En} {vo1 vi1 vo1' vi1' vo2 vi2 : Value}
theorem Two.swap (h : Two B g1 g2 w s1 s2 vo1 vi1 vo2 vi2) : Two B g2 g1 w s2 s1 vo2 vi2 vo1 vi1 := ⟨h.e2, h.e1, fun k h2 h1 => h.dis k h1 h2, h.low2, h.low1⟩
theorem Two.size (h : Two B g1 g2 w s1 s2 vo1 vi1 vo2 vi2) : B ≤ w.heap.size := Nat.le_trans (h.low1 g1 (.inl rfl)) (Nat.le_of_lt h.e1.blk)
theorem Two.step {S : Nat → Prop} (h : Two B g1 g2 w s1 s2 vo1 vi1 vo2 vi2) (hE : EnAt g1 w' s1' vo1' vi1') (hC : Chg S w w') (hS : ∀ k, k < w.heap.size → S k → Fp g1 vo1 vi1 k) (hFo : Fresh w vo1 vo1') (hFi : Fresh w vi1 vi1') :
    Two B g1 g2 w' s1' s2 vo1' vi1' vo2 vi2 := by
  have key : ∀ k, Fp g1 vo1' vi1' k → Fp g1 vo1 vi1 k ∨ w.heap.size ≤ k := by
    rintro k (rfl | hk | hk)
    · exact .inl (.inl rfl)
    · rcases hFo with hF | hF
      · exact .inl (.inr (.inl (by rw [← hF]; exact hk)))
      · exact .inr (hF k hk)
    · rcases hFi with hF | hF
      · exact .inl (.inr (.inr (by rw [← hF]; exact hk)))
      · exact .inr (hF k hk)
  refine ⟨hE, h.e2.chg hC (fun k hk hs => h.dis k (hS k (h.e2.fp_lt k hk) hs) hk), fun k h1 h2 => ?_, fun k hk => ?_, h.low2⟩
  · rcases key k h1 with h1 | h1
    · exact h.dis k h1 h2
    · have := h.e2.fp_lt k h2; omega
  · rcases key k hk with h1 | h1
    · exact h.low1 k h1
    · exact Nat.le_trans h.size h1
theorem Fresh.refl (w : World) (v : Value) : Fresh w v v := .inl rfl
theorem Two.low {S : Nat → Prop} (h : Two B g1 g2 w s1 s2 vo1 vi1 vo2 vi2) (hC : Chg S w w') (hS : ∀ k, k < w.heap.size → S k → Fp g1 vo1 vi1 k) : Below B w w' :=
  hC.below h.size (fun k hk hs => by
    have hsz := h.size
    have := h.low1 k (hS k (by omega) hs)
    omega)
theorem Two.take {e : Ending} (h : Two B g1 g2 w s1 s2 vo1 vi1 vo2 vi2) (hp : TakePost g1 s1' vo1 vi1 w e w') : e = .returned (.tuple #[]) ∧ ∃ vi', Two B g1 g2 w' s1' s2 vo1 vi' vo2 vi2 ∧ Chg (Fp g1 vo1 vi1) w w' ∧ Below B w w' := by
  obtain ⟨he, vi', hE, hC, hF⟩ := hp
  have hS : ∀ k, k < w.heap.size → (k = g1 ∨ vi1.ownBlock = some k) → Fp g1 vo1 vi1 k := fun k _ h => h.elim .inl (fun h => .inr (.inr h))
  exact ⟨he, vi', h.step hE hC hS (Fresh.refl _ _) hF, hC.mono hS, h.low hC hS⟩
theorem Two.same {s1' : En} (h : Two B g1 g2 w s1 s2 vo1 vi1 vo2 vi2) (hE : EnAt g1 w' s1' vo1 vi1) (hC : Chg (fun k => k = g1) w w') : Two B g1 g2 w' s1' s2 vo1 vi1 vo2 vi2 ∧ Chg (Fp g1 vo1 vi1) w w' ∧ Below B w w' := by
  have hS : ∀ k, k < w.heap.size → (k = g1) → Fp g1 vo1 vi1 k := fun k _ h => .inl h
  exact ⟨h.step hE hC hS (Fresh.refl _ _) (Fresh.refl _ _), hC.mono hS, h.low hC hS⟩
theorem Two.write {b : List Int} {e : Ending} (h : Two B g1 g2 w s1 s2 vo1 vi1 vo2 vi2) (hp : WrPost g1 s1 vo1 vi1 b w e w') : ∃ vo', e = .returned (.int .i64 (writeS s1 b).1) ∧ Two B g1 g2 w' (writeS s1 b).2 s2 vo' vi1 vo2 vi2 ∧ Chg (Fp g1 vo1 vi1) w w' ∧ Below B w w' := by
  obtain ⟨vo', he, hE, hC, hF⟩ := hp
  have hS : ∀ k, k < w.heap.size → (k = g1 ∨ vo1.ownBlock = some k) → Fp g1 vo1 vi1 k := fun k _ h => h.elim .inl (fun h => .inr (.inl h))
  exact ⟨vo', he, h.step hE hC hS hF (Fresh.refl _ _), hC.mono hS, h.low hC hS⟩
/-- What makes memory alone leaves both ends. -/
theorem Two.below (h : Two B g1 g2 w s1 s2 vo1 vi1 vo2 vi2) (hb : Below w.heap.size w w') : Two B g1 g2 w' s1 s2 vo1 vi1 vo2 vi2 := ⟨h.e1.below hb, h.e2.below hb, h.dis, h.low1, h.low2⟩
theorem Two.chg {S : Nat → Prop} (h : Two B g1 g2 w s1 s2 vo1 vi1 vo2 vi2) (hc : Chg S w w') (hS : ∀ k, S k → ¬ Fp g1 vo1 vi1 k ∧ ¬ Fp g2 vo2 vi2 k) : Two B g1 g2 w' s1 s2 vo1 vi1 vo2 vi2 :=
  ⟨h.e1.chg hc (fun k hk hs => (hS k hs).1 hk), h.e2.chg hc (fun k hk hs => (hS k hs).2 hk), h.dis, h.low1, h.low2⟩
theorem Two.drewN (h : Two B g1 g2 w s1 s2 vo1 vi1 vo2 vi2) (n : Nat) : Two B g1 g2 (w.drewN n) s1 s2 vo1 vi1 vo2 vi2 := ⟨h.e1.drewN n, h.e2.drewN n, h.dis, h.low1, h.low2⟩
end
/-- Two new ends. -/
theorem Two.new {W w1 w2 : World} {a b c d : Int} {e1 e2 : Ending} (h1 : EnNew W (newEnd a b) e1 w1) (h2 : EnNew w1 (newEnd c d) e2 w2) :
    Two W.heap.size W.heap.size w1.heap.size w2 (newEnd a b) (newEnd c d) (.slice none 0 0) (.slice none 0 0) (.slice none 0 0) (.slice none 0 0) ∧ Below W.heap.size W w2 := by
  obtain ⟨_, hA, hb1⟩ := h1
  obtain ⟨_, hL, hb2⟩ := h2
  have hl := hA.blk
  refine ⟨⟨hA.below hb2, hL, ?_, ?_, ?_⟩, hb1.trans (hb2.mono hb1.size)⟩
  · rintro k (rfl | h | h) (h' | h' | h')
    · omega
    all_goals first | (cases h) | (cases h')
  · rintro k (rfl | h | h)
    · exact Nat.le_refl _
    all_goals cases h
  · rintro k (rfl | h | h)
    · exact hb1.size
    all_goals cases h
end Go.Proofs.Ytoeipgbnjcgbjaa
