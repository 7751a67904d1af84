/- Plain laws for StreamWindow: what an open end with nothing but data to send tells. -/
import Derived.Test.YtoeipgbnjcgbjaaStrM
namespace Go.Proofs.Ytoeipgbnjcgbjaa
open Go.RowKit
set_option linter.unusedVariables false

/-- Where the i-th piece from p on begins. -/
def posAt (s : En) (p : Nat) : Nat → Nat
  | 0 => p
  | i + 1 => posAt s p i + pieceN s (posAt s p i)
theorem posAt_shift (s : En) (p : Nat) : ∀ i, posAt s p (i + 1) = posAt s (p + pieceN s p) i
  | 0 => rfl
  | i + 1 => by rw [posAt, posAt_shift s p i]; rfl
theorem dataL_get (s : En) : ∀ (f p i : Nat), i < (dataL s f p).1.length → (dataL s f p).1.getD i [] = dataSeg s (posAt s p i) ∧ posAt s p i < s.out.length ∧ (posAt s p i : Int) < s.una + 4000 := by
  intro f
  induction f with
  | zero => intro p i h; simp [dataL] at h
  | succ f ih =>
    intro p i h
    rw [dataL] at h ⊢
    split at h
    · rename_i hc
      rw [if_pos hc]
      cases i with
      | zero => exact ⟨rfl, hc.1, hc.2⟩
      | succ i =>
        simp only [List.length_cons] at h
        have := ih (p + pieceN s p) i (by omega)
        rw [posAt_shift]
        simpa using this
    · simp at h
theorem dataL_pos (s : En) : ∀ (f p : Nat), (dataL s f p).2 = posAt s p (dataL s f p).1.length := by
  intro f
  induction f with
  | zero => intro p; rfl
  | succ f ih =>
    intro p
    rw [dataL]
    split
    · simp only [List.length_cons]
      rw [posAt_shift]
      exact ih _
    · rfl
/-- All that may be sent was sent. -/
theorem dataL_done (s : En) : ∀ (f p : Nat), s.out.length - p ≤ f → ¬ ((dataL s f p).2 < s.out.length ∧ ((dataL s f p).2 : Int) < s.una + 4000) := by
  intro f
  induction f with
  | zero => intro p h hc; simp only [dataL] at hc; omega
  | succ f ih =>
    intro p h
    rw [dataL]
    split
    · rename_i hc
      have hn : 1 ≤ pieceN s p := by unfold pieceN; omega
      exact ih (p + pieceN s p) (by omega)
    · assumption
theorem dataL_nil (s : En) (f p : Nat) (h : (dataL s f p).1 = []) : (dataL s f p).2 = p := by rw [dataL_pos, h]; rfl
theorem dataL_some (s : En) (f p : Nat) (hf : s.out.length - p ≤ f) (h : p < s.out.length ∧ (p : Int) < s.una + 4000) : 0 < (dataL s f p).1.length := by
  obtain ⟨f', rfl⟩ : ∃ f', f = f' + 1 := ⟨f - 1, by omega⟩
  rw [dataL, if_pos h]
  simp
theorem dataL_most (s : En) (f p : Nat) (h : 0 < (dataL s f p).1.length) : ((dataL s f p).2 : Int) ≤ s.una + 4400 ∧ p < (dataL s f p).2 := by
  obtain ⟨k, hk⟩ : ∃ k, (dataL s f p).1.length = k + 1 := ⟨(dataL s f p).1.length - 1, by omega⟩
  have h1 := dataL_get s f p k (by omega)
  have h0 := dataL_get s f p 0 (by omega)
  have h2 : (dataL s f p).2 = posAt s p k + pieceN s (posAt s p k) := by rw [dataL_pos, hk]; rfl
  have h3 : pieceN s (posAt s p k) ≤ 400 := Nat.min_le_left _ _
  have h4 : 1 ≤ pieceN s (posAt s p k) := by unfold pieceN; omega
  have h5 : ∀ i, p ≤ posAt s p i := by
    intro i
    induction i with
    | zero => exact Nat.le_refl _
    | succ i ih => rw [posAt]; omega
  have := h5 k
  omega
/-- An end with nothing but data to send. -/
structure Plain (s : En) : Prop where
  st : s.st = 3
  owes : s.owes = false
  closed : s.closed = false
  endS : s.endSent = false
  endA : s.endAcked = false
theorem waits_plain (s : En) (h : Plain s) : waitsB s = decide (s.una < s.next) := by unfold waitsB; rw [h.endS]; simp
theorem sends1_plain (s : En) (now : Int) (h : Plain s) : Plain (sends1 s now) := by
  unfold sends1
  split
  · exact ⟨h.st, h.owes, h.closed, h.endA, h.endA⟩
  · exact h
theorem outS_plain (s : En) (now : Int) (h : Plain s) :
    outS s now = ((dataL (sends1 s now) s.out.length (sends1 s now).next.toNat).1, sends5 (!waitsB (sends1 s now) && (!(dataL (sends1 s now) s.out.length (sends1 s now).next.toNat).1.isEmpty)) { sends1 s now with next := ((dataL (sends1 s now) s.out.length (sends1 s now).next.toNat).2 : Int) } now) := by
  have h1 := sends1_plain s now h
  have ho : (sends1 s now).out.length = s.out.length := by rw [(sends1_out s now).1]
  have e2 : sends2 (sends1 s now) = ([], sends1 s now) := by unfold sends2; rw [h1.owes]; rfl
  have e4 : ∀ q : Int, sends4 { sends1 s now with next := q } = ([], { sends1 s now with next := q }) := by
    intro q
    have : finB { sends1 s now with next := q } = false := by
      unfold finB; simp only [h1.closed]; rfl
    unfold sends4; rw [this]; rfl
  unfold outS
  rw [if_neg (by rw [h.st]; decide), if_pos h.st]
  unfold sendsS
  simp only [e2, sends3, e4, ho, List.nil_append, List.append_nil, List.isEmpty_nil, Bool.not_true, Bool.or_false]
theorem Plain.out {s : En} {now : Int} (h : Plain s) : Plain (outS s now).2 := by
  rw [outS_plain s now h]
  have h1 := sends1_plain s now h
  unfold sends5
  split
  · exact ⟨h1.st, h1.owes, h1.closed, h1.endS, h1.endA⟩
  · exact ⟨h1.st, h1.owes, h1.closed, h1.endS, h1.endA⟩
end Go.Proofs.Ytoeipgbnjcgbjaa
