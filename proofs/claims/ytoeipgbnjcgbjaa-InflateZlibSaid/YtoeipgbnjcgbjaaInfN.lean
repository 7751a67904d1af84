/- Inflate: plain facts of symbols read. -/
import Derived.Test.YtoeipgbnjcgbjaaInfM
namespace Go.Proofs.Ytoeipgbnjcgbjaa
open Go.RowKit
set_option linter.unusedVariables false

theorem hit_zero (xs : List Int) (v : Int) : ∀ k, hit xs 0 v k = none := by
  intro k
  induction k with
  | zero => rfl
  | succ k ih => rw [hit, ih]; simp
theorem rd_sym (xs bs : List Int) : ∀ (r : Nat) (v : Int) (p : Nat), 0 ≤ (rd xs bs r v p).1 ∧ (rd xs bs r v p).1 ≤ xs.length ∧ ((rd xs bs r v p).2.1 = 0 → (rd xs bs r v p).1 < xs.length) ∧ ((rd xs bs r v p).2.1 = 0 ∨ (rd xs bs r v p).2.1 = 3 ∨ (rd xs bs r v p).2.1 = 4) ∧ p ≤ (rd xs bs r v p).2.2 := by
  intro r
  induction r with
  | zero =>
    intro v p
    rw [rd]
    cases h : hit xs 15 v xs.length with
    | some i => have := (hit_some xs 15 v _ i h).1; simp; omega
    | none => simp
  | succ r ih =>
    intro v p
    rw [rd]
    cases h : hit xs (14 - r) v xs.length with
    | some i => have := (hit_some xs _ v _ i h).1; simp; omega
    | none =>
      simp only
      split
      · split
        · obtain ⟨h1, h2, h3, h4, h5⟩ := ih (2 * v + bitAt bs p) (p + 1)
          exact ⟨h1, h2, h3, h4, by omega⟩
        · simp
      · simp
theorem rd_gone (xs bs : List Int) (v : Int) (p : Nat) (h : (rd xs bs 15 v p).2.1 = 0) : p < (rd xs bs 15 v p).2.2 := by
  have e : rd xs bs 15 v p = if someB xs 0 v xs.length = true then (if p < 8 * bs.length then rd xs bs 14 (2 * v + bitAt bs p) (p + 1) else (0, 4, p)) else (0, 3, p) := by
    rw [rd, show 14 - 14 = 0 from rfl, hit_zero]
  rw [e] at h ⊢
  split at h
  · rename_i a
    rw [if_pos a]
    split at h
    · rename_i b
      rw [if_pos b]
      have := (rd_sym xs bs 14 (2 * v + bitAt bs p) (p + 1)).2.2.2.2
      omega
    · cases h
  · cases h
theorem tk_le {bs : List Int} {p n : Nat} {v : Int} (h : tk bs p n = some v) : 0 ≤ v ∧ v < 2 ^ n ∧ p + n ≤ 8 * bs.length := by
  unfold tk at h
  split at h
  · rename_i hp
    injection h with h
    subst h
    exact ⟨(takeN_le bs p n).1, (takeN_le bs p n).2, hp⟩
  · cases h
/-- What a match's length is at most. -/
theorem lenE_le {bs : List Int} {s n : Int} {p q : Nat} (hs : 257 ≤ s ∧ s < 286) (h : lenE bs s p = some (n, q)) : 3 ≤ n ∧ n ≤ 258 ∧ p ≤ q := by
  unfold lenE at h
  split at h
  · injection h with h
    injection h with h1 h2
    omega
  · split at h
    · injection h with h
      injection h with h1 h2
      omega
    · cases ht : tk bs p ((s - 261) / 4).toNat with
      | none => rw [ht] at h; cases h
      | some m =>
        rw [ht] at h
        injection h with h
        injection h with h1 h2
        obtain ⟨a1, a2, a3⟩ := tk_le ht
        have hk : ((s - 261) / 4).toNat = 1 ∨ ((s - 261) / 4).toNat = 2 ∨ ((s - 261) / 4).toNat = 3 ∨ ((s - 261) / 4).toNat = 4 ∨ ((s - 261) / 4).toNat = 5 := by omega
        rcases hk with hk | hk | hk | hk | hk
        all_goals
          rw [hk] at h1 h2 a2
          simp at h1 a2
          omega
theorem distE_le {bs : List Int} {s n : Int} {p q : Nat} (hs : 0 ≤ s ∧ s < 30) (h : distE bs s p = some (n, q)) : 1 ≤ n ∧ n ≤ 32768 ∧ p ≤ q := by
  unfold distE at h
  split at h
  · injection h with h
    injection h with h1 h2
    omega
  · cases ht : tk bs p ((s - 2) / 2).toNat with
    | none => rw [ht] at h; cases h
    | some m =>
      rw [ht] at h
      injection h with h
      injection h with h1 h2
      obtain ⟨a1, a2, a3⟩ := tk_le ht
      obtain ⟨k, hk⟩ : ∃ k, ((s - 2) / 2).toNat = k := ⟨_, rfl⟩
      have hk13 : k ≤ 13 ∧ 1 ≤ k := by omega
      rw [hk] at h1 h2 a2
      have hp := two_pow_cast k
      have hp2 := Nat.pow_le_pow_right (n := 2) (by decide) hk13.1
      have hp3 := Nat.pow_le_pow_right (n := 2) (by decide) hk13.2
      rw [hp] at h1 a2
      generalize 2 ^ k = P at *
      rcases (show s % 2 = 0 ∨ s % 2 = 1 by omega) with e | e
      all_goals
        rw [e] at h1
        simp at h1
        omega
theorem copyB_len (most far : Nat) : ∀ (n : Nat) (out : List Int), out.length ≤ (copyB most far n out).2.length := by
  intro n
  induction n with
  | zero => intro out; exact Nat.le_refl _
  | succ n ih =>
    intro out
    rw [copyB]
    split
    · exact Nat.le_refl _
    · have := ih (out ++ [out.getD (out.length - far) 0])
      rw [List.length_append] at this
      omega
theorem copyB_ok (most far : Nat) : ∀ (n : Nat) (out : List Int), (copyB most far n out).1 = 0 → (copyB most far n out).2.length = out.length + n := by
  intro n
  induction n with
  | zero => intro out _; simp [copyB]
  | succ n ih =>
    intro out h
    rw [copyB] at h ⊢
    split at h
    · cases h
    · rename_i a
      rw [if_neg a, ih _ h]
      simp
      omega
theorem copyB_no (most far : Nat) : ∀ (n : Nat) (out : List Int), (copyB most far n out).1 = 0 ∨ (copyB most far n out).1 = 5 := by
  intro n
  induction n with
  | zero => intro out; exact .inl rfl
  | succ n ih =>
    intro out
    rw [copyB]
    split
    · exact .inr rfl
    · exact ih _
end Go.Proofs.Ytoeipgbnjcgbjaa
