/- Inflate, plain laws: the same blocks of other bytes that begin alike, with another bound. -/
import Derived.Test.YtoeipgbnjcgbjaaInfN
namespace Go.Proofs.Ytoeipgbnjcgbjaa
open Go.RowKit
set_option linter.unusedVariables false

/-- Rows that begin with the same m bytes. -/
structure Agree (bs bs2 : List Int) (m : Nat) : Prop where
  at_ : ∀ j, j < m → bs2.getD j 0 = bs.getD j 0
  l1 : m ≤ bs.length
  l2 : m ≤ bs2.length
theorem Agree.bit {bs bs2 : List Int} {m p : Nat} (h : Agree bs bs2 m) (hp : p < 8 * m) : bitAt bs2 p = bitAt bs p := by
  unfold bitAt
  rw [h.at_ (p / 8) (by omega)]
theorem Agree.taken {bs bs2 : List Int} {m p : Nat} (h : Agree bs bs2 m) : ∀ n, p + n ≤ 8 * m → takeN bs2 p n = takeN bs p n := by
  intro n
  induction n with
  | zero => intro _; rfl
  | succ n ih =>
    intro hp
    rw [takeN, takeN, ih (by omega), h.bit (by omega)]
theorem tk_some (bs : List Int) (p n : Nat) : tk bs p n = some (takeN bs p n) ∧ p + n ≤ 8 * bs.length ∨ tk bs p n = none ∧ 8 * bs.length < p + n := by
  unfold tk
  by_cases h : p + n ≤ 8 * bs.length
  · exact .inl ⟨if_pos h, h⟩
  · exact .inr ⟨if_neg h, by omega⟩
theorem Agree.tk_same {bs bs2 : List Int} {m p n : Nat} (h : Agree bs bs2 m) (hp : p + n ≤ 8 * m) : tk bs2 p n = tk bs p n := by
  have h1 := h.l1
  have h2 := h.l2
  unfold tk
  rw [if_pos (by omega), if_pos (by omega), h.taken n hp]
theorem Agree.tk_cut {bs bs2 : List Int} {m p n : Nat} (h : Agree bs bs2 m) (hc : bs2.length = m) (hp : 8 * m < p + n) : tk bs2 p n = none := by
  unfold tk
  rw [if_neg (by omega)]
/-- A symbol's bits: alike, or cut. -/
theorem Agree.rd_both {bs bs2 : List Int} {m : Nat} (h : Agree bs bs2 m) (xs : List Int) : ∀ (r : Nat) (v : Int) (p : Nat), p ≤ 8 * m → (rd xs bs r v p).2.1 = 0 →
    ((rd xs bs r v p).2.2 ≤ 8 * m → rd xs bs2 r v p = rd xs bs r v p) ∧ (8 * m < (rd xs bs r v p).2.2 → bs2.length = m → (rd xs bs2 r v p).2.1 = 4) := by
  have h1 := h.l1
  have h2 := h.l2
  intro r
  induction r with
  | zero =>
    intro v p hp h0
    rw [rd] at h0 ⊢
    rw [rd]
    cases hh : hit xs 15 v xs.length with
    | some i => rw [hh] at h0; exact ⟨fun _ => rfl, fun h3 _ => absurd h3 (by simp only; omega)⟩
    | none => rw [hh] at h0; cases h0
  | succ r ih =>
    intro v p hp h0
    rw [rd] at h0 ⊢
    rw [rd]
    cases hh : hit xs (14 - r) v xs.length with
    | some i => rw [hh] at h0; exact ⟨fun _ => rfl, fun h3 _ => absurd h3 (by simp only; omega)⟩
    | none =>
      rw [hh] at h0
      simp only at h0 ⊢
      by_cases hs : someB xs (14 - r) v xs.length = true
      · rw [if_pos hs] at h0 ⊢
        rw [if_pos hs]
        by_cases hl : p < 8 * bs.length
        · rw [if_pos hl] at h0 ⊢
          by_cases hm : p < 8 * m
          · rw [if_pos (by omega), h.bit hm]
            exact ih _ _ (by omega) h0
          · have hpl := (rd_sym xs bs r (2 * v + bitAt bs p) (p + 1)).2.2.2.2
            refine ⟨fun h3 => by omega, fun _ hc => ?_⟩
            rw [if_neg (by omega)]
        · rw [if_neg hl] at h0; cases h0
      · rw [if_neg hs] at h0; cases h0
/-- A step's two results: of the one row and bound, and of the other. -/
structure Al (m most2 : Nat) (cut : Prop) (p n0 : Nat) (r r2 : Int × Nat × List Int) : Prop where
  up : p ≤ r.2.1 ∧ n0 ≤ r.2.2.length
  same : r.2.1 ≤ 8 * m → r.2.2.length ≤ most2 → r2 = r
  big : r.2.1 ≤ 8 * m → most2 < r.2.2.length → n0 ≤ most2 → r2.1 = 5
  torn : 8 * m < r.2.1 → cut → r.2.2.length ≤ most2 → r2.1 = 4
/-- One step behind the other. -/
theorem Al.next {m most2 : Nat} {cut : Prop} {p n0 : Nat} {r r2 : Int × Nat × List Int} (h : Al m most2 cut p n0 r r2) {f f2 : Nat → List Int → Int × Nat × List Int}
    (hf : r.2.1 ≤ 8 * m → Al m most2 cut r.2.1 r.2.2.length (f r.2.1 r.2.2) (f2 r.2.1 r.2.2)) (hup : r.2.1 ≤ (f r.2.1 r.2.2).2.1 ∧ r.2.2.length ≤ (f r.2.1 r.2.2).2.2.length) (h0 : r.1 = 0) :
    Al m most2 cut p n0 (f r.2.1 r.2.2) (if r2.1 ≠ 0 then r2 else f2 r2.2.1 r2.2.2) := by
  have hu := h.up
  have z : ∀ {α : Type} (a b : α), (if (0 : Int) ≠ 0 then a else b) = b := fun _ _ => if_neg (fun h => h rfl)
  refine ⟨⟨by omega, by omega⟩, fun h1 h2 => ?_, fun h1 h2 h3 => ?_, fun h1 h2 h3 => ?_⟩
  · rw [h.same (by omega) (by omega), h0, z]
    exact (hf (by omega)).same h1 h2
  · by_cases hl : r.2.2.length ≤ most2
    · rw [h.same (by omega) hl, h0, z]
      exact (hf (by omega)).big h1 h2 hl
    · have h5 := h.big (by omega) (by omega) h3
      rw [if_pos (by rw [h5]; decide)]
      exact h5
  · by_cases hl : r.2.1 ≤ 8 * m
    · rw [h.same hl (by omega), h0, z]
      exact (hf hl).torn h1 h2 h3
    · have h5 := h.torn (by omega) h2 (by omega)
      rw [if_pos (by rw [h5]; decide)]
      exact h5
section
variable {bs bs2 : List Int} {m most most2 : Nat}
theorem rawB_up (bs : List Int) (most : Nat) : ∀ (n p : Nat) (out : List Int), (rawB bs most n p out).1 = 0 → (rawB bs most n p out).2.1 = p + 8 * n ∧ (rawB bs most n p out).2.2.length = out.length + n := by
  intro n
  induction n with
  | zero => intro p out _; exact ⟨rfl, rfl⟩
  | succ n ih =>
    intro p out h
    rw [rawB] at h ⊢
    split at h
    · cases h
    · rename_i a
      rw [if_neg a]
      split at h
      · cases h
      · rename_i b
        rw [if_neg b]
        have := ih _ _ h
        rw [List.length_append, List.length_singleton] at this
        omega
theorem Agree.rawB_al (h : Agree bs bs2 m) : ∀ (n p : Nat) (out : List Int), p % 8 = 0 → p ≤ 8 * m → (rawB bs most n p out).1 = 0 → Al m most2 (bs2.length = m) p out.length (rawB bs most n p out) (rawB bs2 most2 n p out) := by
  have h1 := h.l1
  have h2 := h.l2
  intro n
  induction n with
  | zero => intro p out _ hp _; exact ⟨⟨Nat.le_refl _, Nat.le_refl _⟩, fun _ _ => rfl, fun _ h1 h2 => by simp only [rawB] at h1; omega, fun h1 _ _ => by simp only [rawB] at h1; omega⟩
  | succ n ih =>
    intro p out h8 hp h0
    have hu := rawB_up bs most (n + 1) p out h0
    rw [rawB] at h0 hu ⊢
    rw [rawB]
    by_cases a : 8 * bs.length < p + 8
    · rw [if_pos a] at h0; cases h0
    · rw [if_neg a] at h0 hu ⊢
      by_cases b : most ≤ out.length
      · rw [if_pos b] at h0; cases h0
      · rw [if_neg b] at h0 hu ⊢
        by_cases c : p + 8 ≤ 8 * m
        · rw [if_neg (show ¬ 8 * bs2.length < p + 8 by omega), h.at_ (p / 8) (by omega)]
          have hi := ih (p + 8) (out ++ [bs.getD (p / 8) 0]) (by omega) (by omega) h0
          have hlen : (out ++ [bs.getD (p / 8) 0]).length = out.length + 1 := by simp
          rw [hlen] at hi
          by_cases d : most2 ≤ out.length
          · rw [if_pos d]
            exact ⟨⟨by omega, by omega⟩, fun _ _ => by omega, fun _ _ _ => rfl, fun _ _ _ => by omega⟩
          · rw [if_neg d]
            exact ⟨⟨by omega, by omega⟩, hi.same, fun x1 x2 x3 => hi.big x1 x2 (by omega), hi.torn⟩
        · refine ⟨⟨by omega, by omega⟩, fun _ _ => by omega, fun _ _ _ => by omega, fun _ hc _ => ?_⟩
          rw [if_pos (by omega)]
theorem upto8_le (p : Nat) : p ≤ upto8 p ∧ upto8 p ≤ p + 7 ∧ upto8 p % 8 = 0 := by unfold upto8; omega
theorem Agree.stored_al (h : Agree bs bs2 m) (p : Nat) (out : List Int) (hp : p ≤ 8 * m) (h0 : (storedM bs most p out).1 = 0) : Al m most2 (bs2.length = m) p out.length (storedM bs most p out) (storedM bs2 most2 p out) := by
  have h1 := h.l1
  have h2 := h.l2
  have hq := upto8_le p
  unfold storedM at h0 ⊢
  generalize upto8 p = q at *
  by_cases a : 8 * bs.length < q + 32
  · rw [if_pos a] at h0; cases h0
  · rw [if_neg a] at h0 ⊢
    split at h0
    · rename_i b
      rw [if_pos b]
      have hu := rawB_up bs most _ _ out h0
      by_cases c : q + 32 ≤ 8 * m
      · rw [if_neg (show ¬ 8 * bs2.length < q + 32 by omega), h.at_ (q / 8) (by omega), h.at_ (q / 8 + 1) (by omega), h.at_ (q / 8 + 2) (by omega), h.at_ (q / 8 + 3) (by omega), if_pos b]
        have hi := h.rawB_al (most := most) (most2 := most2) _ (q + 32) out (by omega) c h0
        exact ⟨⟨by omega, by omega⟩, hi.same, hi.big, hi.torn⟩
      · refine ⟨⟨by omega, by omega⟩, fun _ _ => by omega, fun _ _ _ => by omega, fun _ hc _ => ?_⟩
        rw [if_pos (by omega)]
    · cases h0
/-- What a length or a distance is in both. -/
theorem Agree.len_both (h : Agree bs bs2 m) {s n : Int} {p q : Nat} (hs : 257 ≤ s ∧ s < 286) (hp : p ≤ 8 * m) (h0 : lenE bs s p = some (n, q)) : (q ≤ 8 * m → lenE bs2 s p = some (n, q)) ∧ (8 * m < q → bs2.length = m → lenE bs2 s p = none) := by
  unfold lenE at h0 ⊢
  split at h0
  · rename_i a
    injection h0 with h0; injection h0 with e1 e2; subst e1; subst e2
    rw [if_pos a]; exact ⟨fun _ => rfl, fun _ _ => by omega⟩
  · rename_i a
    rw [if_neg a]
    split at h0
    · rename_i b
      injection h0 with h0; injection h0 with e1 e2; subst e1; subst e2
      rw [if_pos b]; exact ⟨fun _ => rfl, fun _ _ => by omega⟩
    · rename_i b
      rw [if_neg b]
      generalize ((s - 261) / 4).toNat = k at *
      cases ht : tk bs p k with
      | none => rw [ht] at h0; cases h0
      | some v =>
        rw [ht] at h0
        injection h0 with h0; injection h0 with e1 e2
        subst e2
        exact ⟨fun h3 => by rw [h.tk_same h3, ht, ← e1]; rfl, fun h3 hc => by rw [h.tk_cut hc h3]; rfl⟩
theorem Agree.dist_both (h : Agree bs bs2 m) {s n : Int} {p q : Nat} (hp : p ≤ 8 * m) (h0 : distE bs s p = some (n, q)) : (q ≤ 8 * m → distE bs2 s p = some (n, q)) ∧ (8 * m < q → bs2.length = m → distE bs2 s p = none) := by
  unfold distE at h0 ⊢
  split at h0
  · rename_i a
    injection h0 with h0; injection h0 with e1 e2; subst e1; subst e2
    rw [if_pos a]; exact ⟨fun _ => rfl, fun _ _ => by omega⟩
  · rename_i a
    rw [if_neg a]
    generalize ((s - 2) / 2).toNat = k at *
    cases ht : tk bs p k with
    | none => rw [ht] at h0; cases h0
    | some v =>
      rw [ht] at h0
      injection h0 with h0; injection h0 with e1 e2
      subst e2
      exact ⟨fun h3 => by rw [h.tk_same h3, ht, ← e1]; rfl, fun h3 hc => by rw [h.tk_cut hc h3]; rfl⟩
theorem copyB_al (most most2 far : Nat) : ∀ (n : Nat) (out : List Int), (copyB most far n out).1 = 0 → (out.length + n ≤ most2 → copyB most2 far n out = copyB most far n out) ∧ (most2 < out.length + n → out.length ≤ most2 → (copyB most2 far n out).1 = 5) := by
  intro n
  induction n with
  | zero => intro out _; exact ⟨fun _ => rfl, fun h1 h2 => by omega⟩
  | succ n ih =>
    intro out h0
    rw [copyB] at h0 ⊢
    rw [copyB]
    by_cases a : most ≤ out.length
    · rw [if_pos a] at h0; cases h0
    · rw [if_neg a] at h0 ⊢
      have hi := ih _ h0
      rw [List.length_append, List.length_singleton] at hi
      by_cases b : most2 ≤ out.length
      · rw [if_pos b]
        exact ⟨fun h1 => by omega, fun _ _ => rfl⟩
      · rw [if_neg b]
        exact ⟨fun h1 => hi.1 (by omega), fun h1 _ => hi.2 (by omega) (by omega)⟩
theorem match_ok {dist : List Int} {s : Int} {p : Nat} {out : List Int} (h0 : (matchM bs most dist s p out).1 = 0) :
    ∃ n p1 far p3, lenE bs s p = some (n, p1) ∧ (rd dist bs 15 0 p1).2.1 = 0 ∧ (rd dist bs 15 0 p1).1 < 30 ∧ distE bs (rd dist bs 15 0 p1).1 (rd dist bs 15 0 p1).2.2 = some (far, p3) ∧ ¬ (out.length : Int) < far ∧ (copyB most far.toNat n.toNat out).1 = 0 ∧ matchM bs most dist s p out = (0, p3, (copyB most far.toNat n.toNat out).2) := by
  unfold matchM at h0 ⊢
  cases hl : lenE bs s p with
  | none => rw [hl] at h0; cases h0
  | some r =>
    obtain ⟨n, p1⟩ := r
    rw [hl] at h0
    simp only at h0 ⊢
    by_cases a : (rd dist bs 15 0 p1).2.1 ≠ 0
    · rw [if_pos a] at h0; exact absurd h0 a
    · rw [if_neg a] at h0 ⊢
      by_cases b : 30 ≤ (rd dist bs 15 0 p1).1
      · rw [if_pos b] at h0; cases h0
      · rw [if_neg b] at h0 ⊢
        cases hd : distE bs (rd dist bs 15 0 p1).1 (rd dist bs 15 0 p1).2.2 with
        | none => rw [hd] at h0; cases h0
        | some r =>
          obtain ⟨far, p3⟩ := r
          rw [hd] at h0
          simp only at h0 ⊢
          by_cases c : (out.length : Int) < far
          · rw [if_pos c] at h0; cases h0
          · rw [if_neg c] at h0 ⊢
            simp only at h0
            exact ⟨n, p1, far, p3, rfl, by omega, by omega, hd, c, h0, by rw [h0]⟩
theorem matchM_up {dist : List Int} {s : Int} {p : Nat} {out : List Int} (hs : 257 ≤ s ∧ s < 286) (h0 : (matchM bs most dist s p out).1 = 0) : p ≤ (matchM bs most dist s p out).2.1 ∧ out.length ≤ (matchM bs most dist s p out).2.2.length := by
  obtain ⟨n, p1, far, p3, e1, e2, e3, e4, e5, e6, e7⟩ := match_ok h0
  have a1 := lenE_le hs e1
  have a2 := rd_sym dist bs 15 0 p1
  have a3 := distE_le ⟨a2.1, e3⟩ e4
  have a4 := copyB_len most far.toNat n.toNat out
  rw [e7]
  exact ⟨by simp only; omega, a4⟩
theorem Agree.match_al (h : Agree bs bs2 m) (dist : List Int) (s : Int) (p : Nat) (out : List Int) (hs : 257 ≤ s ∧ s < 286) (hp : p ≤ 8 * m) (h0 : (matchM bs most dist s p out).1 = 0) : Al m most2 (bs2.length = m) p out.length (matchM bs most dist s p out) (matchM bs2 most2 dist s p out) := by
  have hup := matchM_up hs h0
  obtain ⟨n, p1, far, p3, e1, e2, e3, e4, e5, e6, e7⟩ := match_ok h0
  have a1 := lenE_le hs e1
  have a2 := rd_sym dist bs 15 0 p1
  have a3 := distE_le ⟨a2.1, e3⟩ e4
  have a4 := copyB_ok most far.toNat n.toNat out e6
  rw [e7] at hup ⊢
  have hL := h.len_both hs hp e1
  have b0 : ¬ (rd dist bs 15 0 p1).2.1 ≠ 0 := by omega
  by_cases c1 : p1 ≤ 8 * m
  · have hR := h.rd_both dist 15 0 p1 c1 e2
    by_cases c2 : (rd dist bs 15 0 p1).2.2 ≤ 8 * m
    · have hD := h.dist_both c2 e4
      by_cases c3 : p3 ≤ 8 * m
      · have hC := copyB_al most most2 far.toNat n.toNat out e6
        have em : matchM bs2 most2 dist s p out = ((copyB most2 far.toNat n.toNat out).1, p3, (copyB most2 far.toNat n.toNat out).2) := by
          unfold matchM
          rw [hL.1 c1]
          simp only
          rw [hR.1 c2, if_neg b0, if_neg (by omega), hD.1 c3]
          simp only
          rw [if_neg e5]
        rw [em]
        refine ⟨hup, fun _ x2 => ?_, fun _ x2 x3 => ?_, fun x1 _ _ => absurd x1 (by simp only; omega)⟩
        · simp only at x2
          rw [hC.1 (by omega), e6]
        · simp only at x2
          exact hC.2 (by omega) x3
      · refine ⟨hup, fun x1 => absurd x1 (by simp only; omega), fun x1 => absurd x1 (by simp only; omega), fun _ hc _ => ?_⟩
        unfold matchM
        rw [hL.1 c1]
        simp only
        rw [hR.1 c2, if_neg b0, if_neg (by omega), hD.2 (by omega) hc]
    · refine ⟨hup, fun x1 => absurd x1 (by simp only; omega), fun x1 => absurd x1 (by simp only; omega), fun _ hc _ => ?_⟩
      unfold matchM
      rw [hL.1 c1]
      simp only
      rw [hR.2 (by omega) hc, if_pos (by decide)]
  · have : p1 ≤ (rd dist bs 15 0 p1).2.2 := a2.2.2.2.2
    refine ⟨hup, fun x1 => absurd x1 (by simp only; omega), fun x1 => absurd x1 (by simp only; omega), fun _ hc _ => ?_⟩
    unfold matchM
    rw [hL.2 (by omega) hc]
end
end Go.Proofs.Ytoeipgbnjcgbjaa
