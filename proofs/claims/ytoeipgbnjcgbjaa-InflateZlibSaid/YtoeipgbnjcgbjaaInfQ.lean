/- Inflate, plain laws: whole blocks of other bytes that begin alike, with another bound. -/
import Derived.Test.YtoeipgbnjcgbjaaInfP
namespace Go.Proofs.Ytoeipgbnjcgbjaa
open Go.RowKit
set_option linter.unusedVariables false

section
variable {bs bs2 : List Int} {m most most2 : Nat}
theorem codedM_ok {lit dist : List Int} {f p : Nat} {out : List Int} (h0 : (codedM bs most lit dist (f + 1) p out).1 = 0) :
    (rd lit bs 15 0 p).2.1 = 0 ∧ (
      ((rd lit bs 15 0 p).1 < 256 ∧ out.length < most ∧ codedM bs most lit dist (f + 1) p out = codedM bs most lit dist f (rd lit bs 15 0 p).2.2 (out ++ [(rd lit bs 15 0 p).1])) ∨
      ((rd lit bs 15 0 p).1 = 256 ∧ codedM bs most lit dist (f + 1) p out = (0, (rd lit bs 15 0 p).2.2, out)) ∨
      (257 ≤ (rd lit bs 15 0 p).1 ∧ (rd lit bs 15 0 p).1 < 286 ∧ (matchM bs most dist (rd lit bs 15 0 p).1 (rd lit bs 15 0 p).2.2 out).1 = 0 ∧
        codedM bs most lit dist (f + 1) p out = codedM bs most lit dist f (matchM bs most dist (rd lit bs 15 0 p).1 (rd lit bs 15 0 p).2.2 out).2.1 (matchM bs most dist (rd lit bs 15 0 p).1 (rd lit bs 15 0 p).2.2 out).2.2)) := by
  rw [codedM] at h0 ⊢
  by_cases a : (rd lit bs 15 0 p).2.1 ≠ 0
  · rw [if_pos a] at h0; exact absurd h0 a
  · rw [if_neg a] at h0 ⊢
    refine ⟨by omega, ?_⟩
    by_cases b : (rd lit bs 15 0 p).1 < 256
    · rw [if_pos b] at h0 ⊢
      by_cases c : most ≤ out.length
      · rw [if_pos c] at h0; cases h0
      · rw [if_neg c]; exact .inl ⟨b, by omega, rfl⟩
    · rw [if_neg b] at h0 ⊢
      by_cases c : (rd lit bs 15 0 p).1 = 256
      · rw [if_pos c]; exact .inr (.inl ⟨c, rfl⟩)
      · rw [if_neg c] at h0 ⊢
        by_cases d : 286 ≤ (rd lit bs 15 0 p).1
        · rw [if_pos d] at h0; cases h0
        · rw [if_neg d] at h0 ⊢
          by_cases e : (matchM bs most dist (rd lit bs 15 0 p).1 (rd lit bs 15 0 p).2.2 out).1 ≠ 0
          · rw [if_pos e] at h0; exact absurd h0 e
          · rw [if_neg e]
            exact .inr (.inr ⟨by omega, by omega, by omega, rfl⟩)
theorem codedM_up (bs : List Int) (most : Nat) (lit dist : List Int) : ∀ (f p : Nat) (out : List Int), (codedM bs most lit dist f p out).1 = 0 → p ≤ (codedM bs most lit dist f p out).2.1 ∧ out.length ≤ (codedM bs most lit dist f p out).2.2.length := by
  intro f
  induction f with
  | zero => intro p out _; exact ⟨Nat.le_refl _, Nat.le_refl _⟩
  | succ f ih =>
    intro p out h0
    obtain ⟨e1, h⟩ := codedM_ok h0
    have a1 := (rd_sym lit bs 15 0 p).2.2.2.2
    rcases h with ⟨_, _, e⟩ | ⟨_, e⟩ | ⟨b1, b2, b3, e⟩
    · rw [e] at h0 ⊢
      have := ih _ _ h0
      rw [List.length_append] at this
      omega
    · rw [e]; exact ⟨a1, Nat.le_refl _⟩
    · rw [e] at h0 ⊢
      have := ih _ _ h0
      have := matchM_up ⟨b1, b2⟩ b3
      omega
theorem Agree.coded_al (h : Agree bs bs2 m) (lit dist : List Int) : ∀ (f p : Nat) (out : List Int), p ≤ 8 * m → (codedM bs most lit dist f p out).1 = 0 → Al m most2 (bs2.length = m) p out.length (codedM bs most lit dist f p out) (codedM bs2 most2 lit dist f p out) := by
  intro f
  induction f with
  | zero => intro p out hp _; exact ⟨⟨Nat.le_refl _, Nat.le_refl _⟩, fun _ _ => rfl, fun _ h1 h2 => by simp only [codedM] at h1; omega, fun h1 _ _ => by simp only [codedM] at h1; omega⟩
  | succ f ih =>
    intro p out hp h0
    have hup := codedM_up bs most lit dist (f + 1) p out h0
    obtain ⟨e1, hh⟩ := codedM_ok h0
    have a1 := (rd_sym lit bs 15 0 p).2.2.2.2
    have hR := h.rd_both lit 15 0 p hp e1
    have b0 : ¬ (rd lit bs 15 0 p).2.1 ≠ 0 := by omega
    have hle : (rd lit bs 15 0 p).2.2 ≤ (codedM bs most lit dist (f + 1) p out).2.1 := by
      rcases hh with ⟨_, _, e⟩ | ⟨_, e⟩ | ⟨b1, b2, b3, e⟩
      · rw [e] at h0 ⊢; exact (codedM_up bs most lit dist f _ _ h0).1
      · rw [e]; exact Nat.le_refl _
      · rw [e] at h0 ⊢
        have := (codedM_up bs most lit dist f _ _ h0).1
        have := (matchM_up ⟨b1, b2⟩ b3).1
        omega
    by_cases c : (rd lit bs 15 0 p).2.2 ≤ 8 * m
    · have e2 : codedM bs2 most2 lit dist (f + 1) p out = if (rd lit bs 15 0 p).1 < 256 then (if most2 ≤ out.length then (5, p, out) else codedM bs2 most2 lit dist f (rd lit bs 15 0 p).2.2 (out ++ [(rd lit bs 15 0 p).1]))
          else if (rd lit bs 15 0 p).1 = 256 then (0, (rd lit bs 15 0 p).2.2, out)
          else if 286 ≤ (rd lit bs 15 0 p).1 then (3, p, out)
          else if (matchM bs2 most2 dist (rd lit bs 15 0 p).1 (rd lit bs 15 0 p).2.2 out).1 ≠ 0 then matchM bs2 most2 dist (rd lit bs 15 0 p).1 (rd lit bs 15 0 p).2.2 out
          else codedM bs2 most2 lit dist f (matchM bs2 most2 dist (rd lit bs 15 0 p).1 (rd lit bs 15 0 p).2.2 out).2.1 (matchM bs2 most2 dist (rd lit bs 15 0 p).1 (rd lit bs 15 0 p).2.2 out).2.2 := by
        rw [codedM, hR.1 c, if_neg b0]
      rcases hh with ⟨b1, b2, e⟩ | ⟨b1, e⟩ | ⟨b1, b2, b3, e⟩
      · rw [if_pos b1] at e2
        rw [e] at h0 hup ⊢
        rw [e2]
        have hi := ih (rd lit bs 15 0 p).2.2 (out ++ [(rd lit bs 15 0 p).1]) c h0
        have hlen : (out ++ [(rd lit bs 15 0 p).1]).length = out.length + 1 := by simp
        rw [hlen] at hi
        have hiu := hi.up
        by_cases d : most2 ≤ out.length
        · rw [if_pos d]
          exact ⟨hup, fun _ _ => by omega, fun _ _ _ => rfl, fun _ _ _ => by omega⟩
        · rw [if_neg d]
          exact ⟨hup, hi.same, fun x1 x2 x3 => hi.big x1 x2 (by omega), hi.torn⟩
      · rw [if_neg (by omega), if_pos b1] at e2
        rw [e, e2]
        exact ⟨⟨a1, Nat.le_refl _⟩, fun _ _ => rfl, fun _ x2 x3 => absurd x2 (by simp only; omega), fun x1 _ _ => absurd x1 (by simp only; omega)⟩
      · rw [if_neg (by omega), if_neg (by omega), if_neg (by omega)] at e2
        rw [e] at h0 hup ⊢
        rw [e2]
        have hM := h.match_al (most := most) (most2 := most2) dist (rd lit bs 15 0 p).1 (rd lit bs 15 0 p).2.2 out ⟨b1, b2⟩ c b3
        have hN := hM.next (f := fun q o => codedM bs most lit dist f q o) (f2 := fun q o => codedM bs2 most2 lit dist f q o) (fun hq => ih _ _ hq h0) (codedM_up bs most lit dist f _ _ h0) b3
        exact ⟨hup, hN.same, hN.big, hN.torn⟩
    · refine ⟨hup, fun x1 => absurd x1 (by omega), fun x1 => absurd x1 (by omega), fun _ hc _ => ?_⟩
      have := hR.2 (by omega) hc
      rw [codedM, if_pos (by rw [this]; decide)]
      exact this
/-- A dynamic block's lengths. -/
theorem lensM_up (bs own : List Int) (n : Nat) : ∀ (f p : Nat) (out : List Int), p ≤ (lensM bs own n f p out).2.1 := by
  intro f
  induction f with
  | zero => intro p out; exact Nat.le_refl _
  | succ f ih =>
    intro p out
    have a1 := (rd_sym own bs 15 0 p).2.2.2.2
    rw [lensM]
    split
    · exact Nat.le_refl _
    · split
      · exact Nat.le_refl _
      · split
        · exact Nat.le_trans a1 (ih _ _)
        · split
          · exact Nat.le_refl _
          · split
            · exact Nat.le_refl _
            · exact Nat.le_trans (by omega) (ih _ _)
theorem Agree.lens_both (h : Agree bs bs2 m) (own : List Int) (n : Nat) : ∀ (f p : Nat) (out : List Int), p ≤ 8 * m → (lensM bs own n f p out).1 = 0 →
    ((lensM bs own n f p out).2.1 ≤ 8 * m → lensM bs2 own n f p out = lensM bs own n f p out) ∧ (8 * m < (lensM bs own n f p out).2.1 → bs2.length = m → (lensM bs2 own n f p out).1 = 4) := by
  intro f
  induction f with
  | zero => intro p out hp _; exact ⟨fun _ => rfl, fun h1 _ => by simp only [lensM] at h1; omega⟩
  | succ f ih =>
    intro p out hp h0
    have a1 := (rd_sym own bs 15 0 p).2.2.2.2
    rw [lensM] at h0 ⊢
    rw [lensM]
    by_cases a : n ≤ out.length
    · rw [if_pos a]; rw [if_pos a]; exact ⟨fun _ => rfl, fun h1 _ => absurd h1 (by simp only; omega)⟩
    · rw [if_neg a] at h0 ⊢; rw [if_neg a]
      by_cases b : (rd own bs 15 0 p).2.1 ≠ 0
      · rw [if_pos b] at h0; exact absurd h0 b
      · rw [if_neg b] at h0 ⊢
        have hR := h.rd_both own 15 0 p hp (by omega)
        by_cases c : (rd own bs 15 0 p).2.2 ≤ 8 * m
        · rw [hR.1 c, if_neg b]
          by_cases d : (rd own bs 15 0 p).1 < 16
          · rw [if_pos d] at h0 ⊢; rw [if_pos d]
            exact ih _ _ c h0
          · rw [if_neg d] at h0 ⊢; rw [if_neg d]
            generalize rd own bs 15 0 p = r at *
            cases ht : tk bs r.2.2 (repW r.1) with
            | none => rw [ht] at h0; cases h0
            | some v =>
              rw [ht] at h0
              simp only at h0 ⊢
              by_cases e : ((r.1 = 16 ∧ out.length = 0) ∨ n < out.length + repL r.1 + v.toNat)
              · rw [if_pos e] at h0; cases h0
              · rw [if_neg e] at h0 ⊢
                have hup := lensM_up bs own n f (r.2.2 + repW r.1) (out ++ List.replicate (repL r.1 + v.toNat) (repV r.1 out))
                by_cases g : r.2.2 + repW r.1 ≤ 8 * m
                · rw [h.tk_same g, ht]
                  simp only
                  rw [if_neg e]
                  exact ih _ _ g h0
                · refine ⟨fun h1 => by omega, fun _ hc => ?_⟩
                  rw [h.tk_cut hc (by omega)]
        · have hup : (rd own bs 15 0 p).2.2 ≤ (if (rd own bs 15 0 p).1 < 16 then lensM bs own n f (rd own bs 15 0 p).2.2 (out ++ [(rd own bs 15 0 p).1])
              else match tk bs (rd own bs 15 0 p).2.2 (repW (rd own bs 15 0 p).1) with
                | none => (4, p, out)
                | some m => if ((rd own bs 15 0 p).1 = 16 ∧ out.length = 0) ∨ n < out.length + repL (rd own bs 15 0 p).1 + m.toNat then (3, p, out)
                  else lensM bs own n f ((rd own bs 15 0 p).2.2 + repW (rd own bs 15 0 p).1) (out ++ List.replicate (repL (rd own bs 15 0 p).1 + m.toNat) (repV (rd own bs 15 0 p).1 out))).2.1 := by
            split at h0
            · rename_i d; rw [if_pos d]; exact lensM_up bs own n f _ _
            · rename_i d
              rw [if_neg d]
              split at h0
              · cases h0
              · rename_i v hv
                rw [hv]
                simp only at h0 ⊢
                split at h0
                · cases h0
                · rename_i e
                  rw [if_neg e]
                  exact Nat.le_trans (Nat.le_add_right _ _) (lensM_up bs own n f _ _)
          refine ⟨fun h1 => absurd (Nat.le_trans hup h1) c, fun _ hc => ?_⟩
          have := hR.2 (by omega) hc
          rw [if_pos (by rw [this]; decide)]
          exact this
theorem Agree.own_same (h : Agree bs bs2 m) (p : Nat) : ∀ k, p + 3 * k ≤ 8 * m → ownL bs2 p k = ownL bs p k := by
  intro k
  induction k with
  | zero => intro _; rfl
  | succ k ih => intro hp; rw [ownL, ownL, ih (by omega), h.taken 3 (by omega)]
theorem dyn_ok {p : Nat} (h0 : (dynM bs p).1 = 0) : ∃ (a b c : Int) (O : List Int) (L : Int × Nat × List Int), tk bs p 5 = some a ∧ ¬ 286 < a + 257 ∧ tk bs (p + 5) 5 = some b ∧ ¬ 30 < b + 1 ∧ tk bs (p + 10) 4 = some c ∧ ¬ 8 * bs.length < p + 14 + 3 * (c.toNat + 4) ∧
    ownL bs (p + 14) (c.toNat + 4) = O ∧ complete O = true ∧ lensM bs O (a.toNat + 257 + b.toNat + 1) (a.toNat + 257 + b.toNat + 2) (p + 14 + 3 * (c.toNat + 4)) [] = L ∧ L.1 = 0 ∧ L.2.2.getD 256 0 ≠ 0 ∧ wholeB (L.2.2.take (a.toNat + 257)) false = true ∧ wholeB (L.2.2.drop (a.toNat + 257)) true = true ∧ dynM bs p = (0, L.2.1, L.2.2.take (a.toNat + 257), L.2.2.drop (a.toNat + 257)) := by
  unfold dynM at h0 ⊢
  cases h1 : tk bs p 5 with
  | none => rw [h1] at h0; cases h0
  | some a =>
    rw [h1] at h0
    simp only at h0 ⊢
    by_cases c1 : 286 < a + 257
    · rw [if_pos c1] at h0; cases h0
    · rw [if_neg c1] at h0 ⊢
      cases h2 : tk bs (p + 5) 5 with
      | none => rw [h2] at h0; cases h0
      | some b =>
        rw [h2] at h0
        simp only at h0 ⊢
        by_cases c2 : 30 < b + 1
        · rw [if_pos c2] at h0; cases h0
        · rw [if_neg c2] at h0 ⊢
          cases h3 : tk bs (p + 10) 4 with
          | none => rw [h3] at h0; cases h0
          | some c =>
            rw [h3] at h0
            simp only at h0 ⊢
            by_cases c3 : 8 * bs.length < p + 14 + 3 * (c.toNat + 4)
            · rw [if_pos c3] at h0; cases h0
            · rw [if_neg c3] at h0 ⊢
              obtain ⟨O, hO⟩ : ∃ O, ownL bs (p + 14) (c.toNat + 4) = O := ⟨_, rfl⟩
              rw [hO] at h0 ⊢
              by_cases c4 : complete O = false
              · rw [if_pos c4] at h0; cases h0
              · rw [if_neg c4] at h0 ⊢
                obtain ⟨L, hL⟩ : ∃ L, lensM bs O (a.toNat + 257 + b.toNat + 1) (a.toNat + 257 + b.toNat + 2) (p + 14 + 3 * (c.toNat + 4)) [] = L := ⟨_, rfl⟩
                rw [hL] at h0 ⊢
                by_cases c5 : L.1 ≠ 0
                · rw [if_pos c5] at h0; exact absurd h0 c5
                · rw [if_neg c5] at h0 ⊢
                  by_cases c6 : L.2.2.getD 256 0 = 0
                  · rw [if_pos c6] at h0; cases h0
                  · rw [if_neg c6] at h0 ⊢
                    by_cases c7 : wholeB (L.2.2.take (a.toNat + 257)) false = false
                    · rw [if_pos c7] at h0; cases h0
                    · rw [if_neg c7] at h0 ⊢
                      by_cases c8 : wholeB (L.2.2.drop (a.toNat + 257)) true = false
                      · rw [if_pos c8] at h0; cases h0
                      · rw [if_neg c8] at h0 ⊢
                        exact ⟨a, b, c, O, L, rfl, c1, rfl, c2, rfl, c3, hO, by simpa using c4, hL, by omega, c6, by simpa using c7, by simpa using c8, rfl⟩
theorem Agree.dyn_both (h : Agree bs bs2 m) {p : Nat} (hp : p ≤ 8 * m) (h0 : (dynM bs p).1 = 0) : p ≤ (dynM bs p).2.1 ∧ ((dynM bs p).2.1 ≤ 8 * m → dynM bs2 p = dynM bs p) ∧ (8 * m < (dynM bs p).2.1 → bs2.length = m → (dynM bs2 p).1 = 4) := by
  obtain ⟨a, b, c, O, L, e1, c1, e2, c2, e3, c3, hO, c4, hL, c5, c6, c7, c8, e⟩ := dyn_ok h0
  rw [e]
  simp only
  have hup := lensM_up bs O (a.toNat + 257 + b.toNat + 1) (a.toNat + 257 + b.toNat + 2) (p + 14 + 3 * (c.toNat + 4)) []
  rw [hL] at hup
  have l2 := h.l2
  refine ⟨by omega, ?_⟩
  by_cases d1 : p + 5 ≤ 8 * m
  · by_cases d2 : p + 10 ≤ 8 * m
    · by_cases d3 : p + 14 ≤ 8 * m
      · by_cases d4 : p + 14 + 3 * (c.toNat + 4) ≤ 8 * m
        · have hb := h.lens_both O (a.toNat + 257 + b.toNat + 1) (a.toNat + 257 + b.toNat + 2) (p + 14 + 3 * (c.toNat + 4)) [] d4 (by rw [hL]; exact c5)
          rw [hL] at hb
          have ed : dynM bs2 p = if (lensM bs2 O (a.toNat + 257 + b.toNat + 1) (a.toNat + 257 + b.toNat + 2) (p + 14 + 3 * (c.toNat + 4)) []).1 ≠ 0 then ((lensM bs2 O (a.toNat + 257 + b.toNat + 1) (a.toNat + 257 + b.toNat + 2) (p + 14 + 3 * (c.toNat + 4)) []).1, p, [], [])
              else if (lensM bs2 O (a.toNat + 257 + b.toNat + 1) (a.toNat + 257 + b.toNat + 2) (p + 14 + 3 * (c.toNat + 4)) []).2.2.getD 256 0 = 0 then (3, p, [], [])
              else if wholeB ((lensM bs2 O (a.toNat + 257 + b.toNat + 1) (a.toNat + 257 + b.toNat + 2) (p + 14 + 3 * (c.toNat + 4)) []).2.2.take (a.toNat + 257)) false = false then (3, p, [], [])
              else if wholeB ((lensM bs2 O (a.toNat + 257 + b.toNat + 1) (a.toNat + 257 + b.toNat + 2) (p + 14 + 3 * (c.toNat + 4)) []).2.2.drop (a.toNat + 257)) true = false then (3, p, [], [])
              else (0, (lensM bs2 O (a.toNat + 257 + b.toNat + 1) (a.toNat + 257 + b.toNat + 2) (p + 14 + 3 * (c.toNat + 4)) []).2.1, (lensM bs2 O (a.toNat + 257 + b.toNat + 1) (a.toNat + 257 + b.toNat + 2) (p + 14 + 3 * (c.toNat + 4)) []).2.2.take (a.toNat + 257), (lensM bs2 O (a.toNat + 257 + b.toNat + 1) (a.toNat + 257 + b.toNat + 2) (p + 14 + 3 * (c.toNat + 4)) []).2.2.drop (a.toNat + 257)) := by
            unfold dynM
            rw [h.tk_same d1, e1]
            simp only
            rw [if_neg c1, h.tk_same (p := p + 5) (n := 5) (by omega), e2]
            simp only
            rw [if_neg c2, h.tk_same (p := p + 10) (n := 4) (by omega), e3]
            simp only
            rw [if_neg (show ¬ 8 * bs2.length < p + 14 + 3 * (c.toNat + 4) by omega), h.own_same (p + 14) _ d4, hO, if_neg (by rw [c4]; decide)]
          rw [ed]
          refine ⟨fun h1 => ?_, fun h1 hc => ?_⟩
          · rw [hb.1 h1, if_neg (by omega), if_neg c6, if_neg (by rw [c7]; decide), if_neg (by rw [c8]; decide)]
          · have := hb.2 h1 hc
            rw [if_pos (by rw [this]; decide)]
            exact this
        · refine ⟨fun h1 => by omega, fun _ hc => ?_⟩
          unfold dynM
          rw [h.tk_same d1, e1]
          simp only
          rw [if_neg c1, h.tk_same (p := p + 5) (n := 5) (by omega), e2]
          simp only
          rw [if_neg c2, h.tk_same (p := p + 10) (n := 4) (by omega), e3]
          simp only
          rw [if_pos (by omega)]
      · refine ⟨fun h1 => by omega, fun _ hc => ?_⟩
        unfold dynM
        rw [h.tk_same d1, e1]
        simp only
        rw [if_neg c1, h.tk_same (p := p + 5) (n := 5) (by omega), e2]
        simp only
        rw [if_neg c2, h.tk_cut (p := p + 10) (n := 4) hc (by omega)]
    · refine ⟨fun h1 => by omega, fun _ hc => ?_⟩
      unfold dynM
      rw [h.tk_same d1, e1]
      simp only
      rw [if_neg c1, h.tk_cut (p := p + 5) (n := 5) hc (by omega)]
  · refine ⟨fun h1 => by omega, fun _ hc => ?_⟩
    unfold dynM
    rw [h.tk_cut hc (by omega)]
theorem Agree.block_al (h : Agree bs bs2 m) (F : Nat) (k : Int) (p : Nat) (out : List Int) (hp : p ≤ 8 * m) (h0 : (blockM F bs most k p out).1 = 0) : Al m most2 (bs2.length = m) p out.length (blockM F bs most k p out) (blockM F bs2 most2 k p out) := by
  unfold blockM at h0 ⊢
  by_cases a : k = 0
  · rw [if_pos a] at h0 ⊢; rw [if_pos a]
    exact h.stored_al p out hp h0
  · rw [if_neg a] at h0 ⊢; rw [if_neg a]
    by_cases b : k = 1
    · rw [if_pos b] at h0 ⊢; rw [if_pos b]
      exact h.coded_al fixLit fixDist F p out hp h0
    · rw [if_neg b] at h0 ⊢; rw [if_neg b]
      by_cases c : (dynM bs p).1 ≠ 0
      · rw [if_pos c] at h0; exact absurd h0 c
      · rw [if_neg c] at h0 ⊢
        obtain ⟨u, hs, ht⟩ := h.dyn_both hp (by omega)
        have hup := codedM_up bs most _ _ F _ _ h0
        by_cases d : (dynM bs p).2.1 ≤ 8 * m
        · rw [hs d, if_neg c]
          have hi := h.coded_al (most := most) (most2 := most2) (dynM bs p).2.2.1 (dynM bs p).2.2.2 F _ out d h0
          exact ⟨⟨by omega, hup.2⟩, hi.same, hi.big, hi.torn⟩
        · refine ⟨⟨by omega, hup.2⟩, fun h1 => by omega, fun h1 => by omega, fun _ hc _ => ?_⟩
          have := ht (by omega) hc
          rw [if_pos (by rw [this]; decide)]
          exact this
theorem rawM_ok {F f p : Nat} {out : List Int} (h0 : (rawM F bs most (f + 1) p out).1 = 0) : ¬ 8 * bs.length < p + 3 ∧ ¬ takeN bs (p + 1) 2 = 3 ∧ (blockM F bs most (takeN bs (p + 1) 2) (p + 3) out).1 = 0 ∧
    rawM F bs most (f + 1) p out = if takeN bs p 1 = 1 then blockM F bs most (takeN bs (p + 1) 2) (p + 3) out else rawM F bs most f (blockM F bs most (takeN bs (p + 1) 2) (p + 3) out).2.1 (blockM F bs most (takeN bs (p + 1) 2) (p + 3) out).2.2 := by
  rw [rawM] at h0 ⊢
  by_cases a : 8 * bs.length < p + 3
  · rw [if_pos a] at h0; cases h0
  · rw [if_neg a] at h0 ⊢
    by_cases b : takeN bs (p + 1) 2 = 3
    · rw [if_pos b] at h0; cases h0
    · rw [if_neg b] at h0 ⊢
      by_cases c : (blockM F bs most (takeN bs (p + 1) 2) (p + 3) out).1 ≠ 0
      · rw [if_pos c] at h0; exact absurd h0 c
      · rw [if_neg c]
        exact ⟨a, b, by omega, rfl⟩
theorem Agree.refl (bs : List Int) : Agree bs bs bs.length := ⟨fun _ _ => rfl, Nat.le_refl _, Nat.le_refl _⟩
theorem block_up (F : Nat) (k : Int) (p : Nat) (out : List Int) (hp : p ≤ 8 * bs.length) (h0 : (blockM F bs most k p out).1 = 0) : p ≤ (blockM F bs most k p out).2.1 ∧ out.length ≤ (blockM F bs most k p out).2.2.length :=
  ((Agree.refl bs).block_al (most2 := most) F k p out hp h0).up
theorem rawM_up (bs : List Int) (most F : Nat) : ∀ (f p : Nat) (out : List Int), (rawM F bs most f p out).1 = 0 → p ≤ (rawM F bs most f p out).2.1 ∧ out.length ≤ (rawM F bs most f p out).2.2.length := by
  intro f
  induction f with
  | zero => intro p out _; exact ⟨Nat.le_refl _, Nat.le_refl _⟩
  | succ f ih =>
    intro p out h0
    obtain ⟨a, b, c, e⟩ := rawM_ok h0
    have hu := block_up F _ (p + 3) out (by omega) c
    rw [e] at h0 ⊢
    split at h0
    · rename_i d
      rw [if_pos d]
      omega
    · rename_i d
      rw [if_neg d]
      have := ih _ _ h0
      omega
theorem Agree.raw_al (h : Agree bs bs2 m) (F : Nat) : ∀ (f p : Nat) (out : List Int), p ≤ 8 * m → (rawM F bs most f p out).1 = 0 → Al m most2 (bs2.length = m) p out.length (rawM F bs most f p out) (rawM F bs2 most2 f p out) := by
  have l2 := h.l2
  intro f
  induction f with
  | zero => intro p out hp _; exact ⟨⟨Nat.le_refl _, Nat.le_refl _⟩, fun _ _ => rfl, fun _ h1 h2 => by simp only [rawM] at h1; omega, fun h1 _ _ => by simp only [rawM] at h1; omega⟩
  | succ f ih =>
    intro p out hp h0
    have hup := rawM_up bs most F (f + 1) p out h0
    obtain ⟨a, b, c, e⟩ := rawM_ok h0
    have hu := block_up F _ (p + 3) out (by omega) c
    by_cases d : p + 3 ≤ 8 * m
    · have e2 : rawM F bs2 most2 (f + 1) p out = if (blockM F bs2 most2 (takeN bs (p + 1) 2) (p + 3) out).1 ≠ 0 then blockM F bs2 most2 (takeN bs (p + 1) 2) (p + 3) out
          else if takeN bs p 1 = 1 then blockM F bs2 most2 (takeN bs (p + 1) 2) (p + 3) out
          else rawM F bs2 most2 f (blockM F bs2 most2 (takeN bs (p + 1) 2) (p + 3) out).2.1 (blockM F bs2 most2 (takeN bs (p + 1) 2) (p + 3) out).2.2 := by
        rw [rawM, if_neg (by omega), h.taken (p := p + 1) 2 (by omega), h.taken (p := p) 1 (by omega), if_neg b]
      have hB := h.block_al (most := most) (most2 := most2) F (takeN bs (p + 1) 2) (p + 3) out d c
      rw [e] at h0 hup ⊢
      rw [e2]
      by_cases g : takeN bs p 1 = 1
      · rw [if_pos g] at h0 hup ⊢
        rw [if_pos g]
        have e3 : (if (blockM F bs2 most2 (takeN bs (p + 1) 2) (p + 3) out).1 ≠ 0 then blockM F bs2 most2 (takeN bs (p + 1) 2) (p + 3) out else blockM F bs2 most2 (takeN bs (p + 1) 2) (p + 3) out) = blockM F bs2 most2 (takeN bs (p + 1) 2) (p + 3) out := by split <;> rfl
        rw [e3]
        exact ⟨hup, hB.same, hB.big, hB.torn⟩
      · rw [if_neg g] at h0 hup ⊢
        rw [if_neg g]
        have hN := hB.next (f := fun q o => rawM F bs most f q o) (f2 := fun q o => rawM F bs2 most2 f q o) (fun hq => ih _ _ hq h0) (rawM_up bs most F f _ _ h0) c
        exact ⟨hup, hN.same, hN.big, hN.torn⟩
    · have hpl : p + 3 ≤ (rawM F bs most (f + 1) p out).2.1 := by
        rw [e] at h0 ⊢
        split at h0
        · rename_i g; rw [if_pos g]; exact hu.1
        · rename_i g; rw [if_neg g]; exact Nat.le_trans hu.1 (rawM_up bs most F f _ _ h0).1
      refine ⟨hup, fun h1 => by omega, fun h1 => by omega, fun _ hc _ => ?_⟩
      rw [rawM, if_pos (by omega)]
/-- All: what other bytes that begin alike make, with another bound. -/
theorem inf_same {F n : Nat} {out : List Int} (h0 : infM F bs most = (0, n, out)) (h : Agree bs bs2 n) (hm : out.length ≤ most2) : infM F bs2 most2 = (0, n, out) := by
  unfold infM at h0 ⊢
  by_cases a : (rawM F bs most F 0 []).1 ≠ 0
  · rw [if_pos a] at h0
    injection h0 with h1 _
    exact absurd h1 a
  · rw [if_neg a] at h0
    have hA := h.raw_al (most := most) (most2 := most2) F F 0 [] (by omega) (by omega)
    injection h0 with _ h1
    injection h1 with h1 h2
    rw [hA.same (by omega) (by rw [h2]; exact hm), if_neg a, h1, h2]
theorem inf_big {F n : Nat} {out : List Int} (h0 : infM F bs most = (0, n, out)) (hn : n ≤ bs.length) (hm : most2 < out.length) : infM F bs most2 = (5, 0, []) := by
  unfold infM at h0 ⊢
  by_cases a : (rawM F bs most F 0 []).1 ≠ 0
  · rw [if_pos a] at h0
    injection h0 with h1 _
    exact absurd h1 a
  · rw [if_neg a] at h0
    have hA := (Agree.refl bs).raw_al (most := most) (most2 := most2) F F 0 [] (by omega) (by omega)
    injection h0 with _ h1
    injection h1 with h1 h2
    have h5 := hA.big (by omega) (by rw [h2]; exact hm) (by simp)
    rw [h5, if_pos (by decide)]
theorem inf_torn {F n : Nat} {out : List Int} (h0 : infM F bs most = (0, n, out)) (hn : n ≤ bs.length) (h1 : 0 < n) (hm : out.length ≤ most) : infM F (bs.take (n - 1)) most = (4, 0, []) := by
  have hl : (bs.take (n - 1)).length = n - 1 := by rw [List.length_take]; omega
  have hG : Agree bs (bs.take (n - 1)) (n - 1) := ⟨fun j hj => by rw [List.getD_eq_getElem?_getD, List.getD_eq_getElem?_getD, List.getElem?_take, if_pos hj], by omega, by omega⟩
  unfold infM at h0 ⊢
  by_cases a : (rawM F bs most F 0 []).1 ≠ 0
  · rw [if_pos a] at h0
    injection h0 with h1 _
    exact absurd h1 a
  · rw [if_neg a] at h0
    have hA := hG.raw_al (most := most) (most2 := most) F F 0 [] (by omega) (by omega)
    injection h0 with _ h2
    injection h2 with h2 h3
    have h5 := hA.torn (by omega) hl (by rw [h3]; exact hm)
    rw [h5, if_pos (by decide)]
end
end Go.Proofs.Ytoeipgbnjcgbjaa
