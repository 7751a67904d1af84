/- Plain laws on reading codes: the codes of one length follow one another; which symbol is hit; whether a longer code begins so. -/
import Derived.Test.YtoeipgbnjcgbjaaHuffNew
namespace Go.Proofs.Ytoeipgbnjcgbjaa
open Go.RowKit
set_option linter.unusedVariables false

theorem symsAt_eq (xs : List Int) (k l : Nat) (h : xs.getD k 0 = (l : Int)) (hl : 0 < l) : symsAt xs (k + 1) l = symsAt xs k l ++ [(k : Int)] := by rw [symsAt, if_pos ⟨h, hl⟩]
theorem symsAt_ne (xs : List Int) (k l : Nat) (h : xs.getD k 0 ≠ (l : Int)) : symsAt xs (k + 1) l = symsAt xs k l := by rw [symsAt, if_neg (fun h' => h h'.1)]
theorem symsAt_zero (xs : List Int) (k : Nat) : symsAt xs k 0 = [] := by
  induction k with
  | zero => rfl
  | succ k ih => rw [symsAt, if_neg (by omega), ih]
theorem symsAt_pos (xs : List Int) (l : Nat) (hl : 0 < l) : ∀ (k i : Nat), i < k → xs.getD i 0 = (l : Int) → (symsAt xs k l)[(symsAt xs i l).length]? = some (i : Int) := by
  intro k
  induction k with
  | zero => intro i hi; omega
  | succ k ih =>
    intro i hi hx
    by_cases e : i = k
    · subst e; rw [symsAt_eq xs i l hx hl]; simp
    · have h := ih i (by omega) hx
      by_cases hk : xs.getD k 0 = (l : Int)
      · rw [symsAt_eq xs k l hk hl, List.getElem?_append_left (List.getElem?_eq_some_iff.1 h).1, h]
      · rw [symsAt_ne xs k l hk, h]
theorem symsAt_mem (xs : List Int) (l : Nat) : ∀ (k j : Nat) (x : Int), (symsAt xs k l)[j]? = some x → ∃ i : Nat, x = (i : Int) ∧ i < k ∧ xs.getD i 0 = (l : Int) ∧ 0 < l ∧ (symsAt xs i l).length = j := by
  intro k
  induction k with
  | zero => intro j x h; simp [symsAt] at h
  | succ k ih =>
    intro j x h
    rw [symsAt] at h
    split at h
    · rename_i hc
      rcases Nat.lt_or_ge j (symsAt xs k l).length with hj | hj
      · rw [List.getElem?_append_left hj] at h
        obtain ⟨i, h1, h2, h3⟩ := ih j x h
        exact ⟨i, h1, by omega, h3⟩
      · rw [List.getElem?_append_right hj] at h
        have h0 := (List.getElem?_eq_some_iff.1 h).1
        simp at h0
        have e : j - (symsAt xs k l).length = 0 := by omega
        rw [e] at h
        simp at h
        exact ⟨k, h.symm, by omega, hc.1, hc.2, by omega⟩
    · obtain ⟨i, h1, h2, h3⟩ := ih j x h
      exact ⟨i, h1, by omega, h3⟩

theorem inn_next (xs : List Int) (m : Nat) (st : List Int × Int) (h0 : 0 ≤ st.2) (hM : st.2 + xs.length < 4294967296) : ∀ k, k ≤ xs.length → (inn ((m : Int) + 1) xs st k).2 = st.2 + (symsAt xs k (m + 1)).length := by
  intro k
  induction k with
  | zero => intro _; simp [inn, symsAt]
  | succ k ih =>
    intro hk
    have h := ih (by omega)
    have hl := symsAt_len xs k (m + 1)
    rw [inn, inStep]
    by_cases hx : xs.getD k 0 = (m : Int) + 1
    · rw [if_pos hx, symsAt_eq xs k (m + 1) (by rw [hx]; rfl) (by omega), List.length_append]
      simp only [h, List.length_singleton]
      omega
    · rw [if_neg hx, symsAt_ne xs k (m + 1) (by intro h'; exact hx (by rw [h']; rfl)), h]
theorem getD_set_ne' (l : List Int) (i k : Nat) (v : Int) (h : k ≠ i) : (l.set k v).getD i 0 = l.getD i 0 := by
  simp [List.getD_eq_getElem?_getD, List.getElem?_set_ne h]
theorem inn_code (xs : List Int) (m : Nat) (st : List Int × Int) (hlen : st.1.length = xs.length) (h0 : 0 ≤ st.2) (hM : st.2 + xs.length < 4294967296) (i : Nat) (hx : xs.getD i 0 = (m : Int) + 1) :
    ∀ k, k ≤ xs.length → i < k → (inn ((m : Int) + 1) xs st k).1.getD i 0 = st.2 + (symsAt xs i (m + 1)).length := by
  intro k
  induction k with
  | zero => intro _ h; omega
  | succ k ih =>
    intro hk hi
    have hl := inn_len ((m : Int) + 1) xs st k
    have hn := inn_next xs m st h0 hM k (by omega)
    rw [inn, inStep]
    by_cases e : i = k
    · subst e
      rw [if_pos hx]
      simp only
      rw [hn]
      simp [List.getD_eq_getElem?_getD, show i < (inn ((m : Int) + 1) xs st i).1.length by rw [hl, hlen]; omega]
    · have h := ih (by omega) (by omega)
      split
      · simp only; rw [getD_set_ne' _ _ _ _ (by omega)]; exact h
      · exact h
theorem inn_keep (xs : List Int) (l : Int) (st : List Int × Int) (i : Nat) (hx : xs.getD i 0 ≠ l) : ∀ k, (inn l xs st k).1.getD i 0 = st.1.getD i 0 := by
  intro k
  induction k with
  | zero => rfl
  | succ k ih =>
    rw [inn, inStep]
    split
    · rename_i h
      simp only
      rw [getD_set_ne' _ _ _ _ (by rintro rfl; exact hx h)]; exact ih
    · exact ih
theorem outr_next (xs : List Int) (hn : xs.length ≤ 400) : ∀ l, l ≤ 15 → 0 ≤ (outr xs l).2 ∧ (outr xs l).2 + 400 ≤ ((400 * 2 ^ l : Nat) : Int) := by
  intro l
  induction l with
  | zero => intro _; simp [outr]
  | succ l ih =>
    intro hl
    obtain ⟨h0, h1⟩ := ih (by omega)
    have hp : 2 ^ l ≤ 2 ^ 14 := Nat.pow_le_pow_right (by decide) (by omega)
    have hs : sh1 (outr xs l).2 = (outr xs l).2 * 2 := by unfold sh1; omega
    have hc := symsAt_len xs xs.length (l + 1)
    rw [outr, inn_next xs l _ (by simp only; rw [hs]; omega) (by simp only; rw [hs]; omega) xs.length (Nat.le_refl _)]
    simp only
    rw [hs, Nat.pow_succ]
    omega
/-- The first code of length m + 1. -/
def start (xs : List Int) (m : Nat) : Int := sh1 (outr xs m).2
theorem start_le (xs : List Int) (hn : xs.length ≤ 400) (m : Nat) (hm : m ≤ 14) : 0 ≤ start xs m ∧ start xs m ≤ 13107200 := by
  obtain ⟨h0, h1⟩ := outr_next xs hn m (by omega)
  have hp : 2 ^ m ≤ 2 ^ 14 := Nat.pow_le_pow_right (by decide) (by omega)
  unfold start sh1
  omega
theorem code_at (xs : List Int) (hn : xs.length ≤ 400) (i m : Nat) (hm : m ≤ 14) (hi : i < xs.length) (hx : xs.getD i 0 = (m : Int) + 1) : (codesL xs).getD i 0 = start xs m + (symsAt xs i (m + 1)).length := by
  have hs := start_le xs hn m hm
  have key : ∀ d, m + 1 + d ≤ 15 → (outr xs (m + 1 + d)).1.getD i 0 = start xs m + (symsAt xs i (m + 1)).length := by
    intro d
    induction d with
    | zero =>
      intro _
      rw [Nat.add_zero, outr]
      exact inn_code xs m _ (by simp only; exact outr_len xs m) hs.1 (by simp only; unfold start at hs; omega) i hx xs.length (Nat.le_refl _) hi
    | succ d ih =>
      intro hd
      rw [show m + 1 + (d + 1) = (m + 1 + d) + 1 by omega, outr, inn_keep xs _ _ i (by omega)]
      exact ih (by omega)
  have := key (14 - m) (by omega)
  rw [show m + 1 + (14 - m) = 15 by omega] at this
  exact this
theorem firstAt_eq (xs : List Int) (hn : xs.length ≤ 400) (m : Nat) (hm : m ≤ 14) : ∀ k, k ≤ xs.length → firstAt xs k (m + 1) = if (symsAt xs k (m + 1)).length = 0 then 0 else start xs m := by
  intro k
  induction k with
  | zero => intro _; simp [firstAt, symsAt]
  | succ k ih =>
    intro hk
    have h := ih (by omega)
    rw [firstAt]
    by_cases hx : xs.getD k 0 = ((m + 1 : Nat) : Int)
    · rw [symsAt_eq xs k (m + 1) hx (by omega), List.length_append]
      by_cases h0 : (symsAt xs k (m + 1)).length = 0
      · rw [if_pos ⟨hx, by omega, h0⟩, if_neg (by simp), code_at xs hn k m hm (by omega) (by rw [hx]; rfl), h0]; simp
      · rw [if_neg (fun h' => h0 h'.2.2), h, if_neg h0, if_neg (by simp)]
    · rw [if_neg (fun h' => hx h'.1), symsAt_ne xs k (m + 1) hx, h]
theorem firstAt_le (xs : List Int) (hn : xs.length ≤ 400) (l : Nat) (hl : l ≤ 15) (k : Nat) (hk : k ≤ xs.length) : 0 ≤ firstAt xs k l ∧ firstAt xs k l ≤ 13107200 := by
  cases l with
  | zero =>
    have : firstAt xs k 0 = 0 := by
      clear hk
      induction k with
      | zero => rfl
      | succ k ih => rw [firstAt, if_neg (by omega), ih]
    omega
  | succ m =>
    rw [firstAt_eq xs hn m (by omega) k hk]
    have := start_le xs hn m (by omega)
    split <;> omega

/-- The first symbol of length n, among the first k, whose code is v. -/
def hit (xs : List Int) (n : Nat) (v : Int) : Nat → Option Nat
  | 0 => none
  | k + 1 => match hit xs n v k with
    | some i => some i
    | none => if xs.getD k 0 = (n : Int) ∧ 0 < n ∧ (codesL xs).getD k 0 = v then some k else none
theorem hit_some (xs : List Int) (n : Nat) (v : Int) : ∀ (k i : Nat), hit xs n v k = some i → i < k ∧ xs.getD i 0 = (n : Int) ∧ 0 < n ∧ (codesL xs).getD i 0 = v := by
  intro k
  induction k with
  | zero => intro i h; cases h
  | succ k ih =>
    intro i h
    rw [hit] at h
    cases hk : hit xs n v k with
    | some j =>
      rw [hk] at h
      injection h with h
      subst h
      obtain ⟨h1, h2⟩ := ih j hk
      exact ⟨by omega, h2⟩
    | none =>
      rw [hk] at h
      simp only at h
      split at h
      · rename_i hc
        injection h with h
        subst h
        exact ⟨by omega, hc⟩
      · cases h
theorem hit_none (xs : List Int) (n : Nat) (v : Int) : ∀ (k : Nat), hit xs n v k = none → ∀ i, i < k → ¬ (xs.getD i 0 = (n : Int) ∧ 0 < n ∧ (codesL xs).getD i 0 = v) := by
  intro k
  induction k with
  | zero => intro _ i h; omega
  | succ k ih =>
    intro h i hi
    rw [hit] at h
    cases hk : hit xs n v k with
    | some j => rw [hk] at h; cases h
    | none =>
      rw [hk] at h
      simp only at h
      split at h
      · cases h
      · rename_i hc
        by_cases e : i = k
        · subst e; exact hc
        · exact ih hk i (by omega)
/-- What the program tests. -/
def hitsB (xs : List Int) (n : Nat) (v : Int) : Bool := decide (0 < n ∧ firstAt xs xs.length n ≤ v ∧ v - firstAt xs xs.length n < (symsAt xs xs.length n).length)
theorem hit_yes (xs : List Int) (hn : xs.length ≤ 400) (n : Nat) (hn15 : n ≤ 15) (v : Int) (h : hitsB xs n v = true) :
    hit xs n v xs.length = some ((symsAt xs xs.length n).getD (v - firstAt xs xs.length n).toNat 0).toNat ∧ 0 ≤ (symsAt xs xs.length n).getD (v - firstAt xs xs.length n).toNat 0 := by
  obtain ⟨h0, h1, h2⟩ := of_decide_eq_true h
  obtain ⟨m, rfl⟩ : ∃ m, n = m + 1 := ⟨n - 1, by omega⟩
  have hf := firstAt_eq xs hn m (by omega) xs.length (Nat.le_refl _)
  rw [if_neg (by omega)] at hf
  obtain ⟨j, hj⟩ : ∃ j, j = (v - firstAt xs xs.length (m + 1)).toNat := ⟨_, rfl⟩
  have hjl : j < (symsAt xs xs.length (m + 1)).length := by omega
  have he := List.getElem?_eq_getElem hjl
  obtain ⟨i, hi1, hi2, hi3, _, hi5⟩ := symsAt_mem xs (m + 1) xs.length j _ he
  have hc := code_at xs hn i m (by omega) hi2 (by rw [hi3]; rfl)
  have hcv : (codesL xs).getD i 0 = v := by rw [hc, hi5]; omega
  have hg : (symsAt xs xs.length (m + 1)).getD j 0 = (i : Int) := by rw [List.getD_eq_getElem?_getD, he]; simpa using hi1
  rw [← hj, hg]
  refine ⟨?_, Int.natCast_nonneg i⟩
  cases hh : hit xs (m + 1) v xs.length with
  | none => exact absurd ⟨hi3, by omega, hcv⟩ (hit_none xs (m + 1) v xs.length hh i hi2)
  | some i' =>
    obtain ⟨a1, a2, a3, a4⟩ := hit_some xs (m + 1) v xs.length i' hh
    have hc' := code_at xs hn i' m (by omega) a1 (by rw [a2]; rfl)
    have hp := symsAt_pos xs (m + 1) (by omega) xs.length i' a1 a2
    rw [show (symsAt xs i' (m + 1)).length = j by omega, he] at hp
    have e : (i' : Int) = i := by rw [← hi1]; exact (Option.some.inj hp).symm
    rw [Int.toNat_natCast, show i' = i by omega]
theorem hit_no (xs : List Int) (hn : xs.length ≤ 400) (n : Nat) (hn15 : n ≤ 15) (v : Int) (h : hitsB xs n v = false) : hit xs n v xs.length = none := by
  have h := of_decide_eq_false h
  cases hh : hit xs n v xs.length with
  | none => rfl
  | some i =>
    exfalso
    obtain ⟨a1, a2, a3, a4⟩ := hit_some xs n v xs.length i hh
    obtain ⟨m, rfl⟩ : ∃ m, n = m + 1 := ⟨n - 1, by omega⟩
    have hc' := code_at xs hn i m (by omega) a1 (by rw [a2]; rfl)
    have hp := symsAt_pos xs (m + 1) (by omega) xs.length i a1 a2
    have hlt := (List.getElem?_eq_some_iff.1 hp).1
    have hf := firstAt_eq xs hn m (by omega) xs.length (Nat.le_refl _)
    rw [if_neg (by omega)] at hf
    apply h
    omega

/-- Does the code of one of the first k symbols, longer than n, begin with v? -/
def someB (xs : List Int) (n : Nat) (v : Int) : Nat → Bool
  | 0 => false
  | k + 1 => someB xs n v k || decide ((n : Int) < xs.getD k 0 ∧ (codesL xs).getD k 0 / 2 ^ (xs.getD k 0 - n).toNat = v)
theorem someB_iff (xs : List Int) (n : Nat) (v : Int) (k : Nat) : someB xs n v k = true ↔ ∃ i, i < k ∧ (n : Int) < xs.getD i 0 ∧ (codesL xs).getD i 0 / 2 ^ (xs.getD i 0 - n).toNat = v := by
  induction k with
  | zero => simp [someB]
  | succ k ih =>
    rw [someB, Bool.or_eq_true, ih, decide_eq_true_eq]
    constructor
    · rintro (⟨i, h1, h2⟩ | h)
      · exact ⟨i, by omega, h2⟩
      · exact ⟨k, by omega, h⟩
    · rintro ⟨i, h1, h2⟩
      by_cases e : i = k
      · subst e; exact .inr h2
      · exact .inl ⟨i, by omega, h2⟩
theorem someB_15 (xs : List Int) (v : Int) (k : Nat) (hall : ∀ i, i < k → xs.getD i 0 ≤ 15) : someB xs 15 v k = false := by
  cases h : someB xs 15 v k with
  | false => rfl
  | true =>
    obtain ⟨i, h1, h2, _⟩ := (someB_iff xs 15 v k).1 h
    have := hall i h1
    omega
/-- What the program's 'more' tests at one length, and at the first j lengths behind n. -/
def moreAt (f : Nat → Int) (s : Nat → List Int) (v : Int) (n j : Nat) : Bool := decide (0 < (s (n + 1 + j)).length ∧ f (n + 1 + j) < (v + 1) * 2 ^ (j + 1) ∧ v * 2 ^ (j + 1) < f (n + 1 + j) + (s (n + 1 + j)).length)
def moreTo (f : Nat → Int) (s : Nat → List Int) (v : Int) (n : Nat) : Nat → Bool
  | 0 => false
  | j + 1 => moreTo f s v n j || moreAt f s v n j
theorem moreTo_iff (f : Nat → Int) (s : Nat → List Int) (v : Int) (n k : Nat) : moreTo f s v n k = true ↔ ∃ j, j < k ∧ moreAt f s v n j = true := by
  induction k with
  | zero => simp [moreTo]
  | succ k ih =>
    rw [moreTo, Bool.or_eq_true, ih]
    constructor
    · rintro (⟨i, h1, h2⟩ | h)
      · exact ⟨i, by omega, h2⟩
      · exact ⟨k, by omega, h⟩
    · rintro ⟨i, h1, h2⟩
      by_cases e : i = k
      · subst e; exact .inr h2
      · exact .inl ⟨i, by omega, h2⟩
theorem deepAt_ge (xs : List Int) : ∀ k i, i < k → xs.getD i 0 ≤ deepAt xs k := by
  have h0 : ∀ k, 0 ≤ deepAt xs k := by
    intro k
    induction k with
    | zero => exact Int.le_refl _
    | succ k ih => rw [deepAt]; split <;> omega
  intro k
  induction k with
  | zero => intro i h; omega
  | succ k ih =>
    intro i hi
    rw [deepAt]
    have := h0 k
    by_cases e : i = k
    · subst e; split <;> omega
    · have := ih i (by omega); split <;> omega
theorem deepAt_le (xs : List Int) (hall : ∀ i, i < xs.length → xs.getD i 0 ≤ 15) : ∀ k, k ≤ xs.length → 0 ≤ deepAt xs k ∧ deepAt xs k ≤ 15 := by
  intro k
  induction k with
  | zero => intro _; simp [deepAt]
  | succ k ih =>
    intro hk
    have := ih (by omega)
    have := hall k (by omega)
    rw [deepAt]; split <;> omega
theorem more_some (xs : List Int) (hn : xs.length ≤ 400) (hall : ∀ i, i < xs.length → xs.getD i 0 ≤ 15) (n : Nat) (v : Int) (h0 : 0 ≤ v) :
    moreTo (firstAt xs xs.length) (symsAt xs xs.length) v n ((deepAt xs xs.length).toNat - n) = someB xs n v xs.length := by
  rw [Bool.eq_iff_iff, moreTo_iff, someB_iff]
  constructor
  · rintro ⟨j, hj, h⟩
    obtain ⟨h1, h2, h3⟩ := of_decide_eq_true h
    have hd := deepAt_le xs hall xs.length (Nat.le_refl _)
    rw [show n + 1 + j = (n + j) + 1 by omega] at h1 h2 h3
    have hm : n + j ≤ 14 := by omega
    have hf := firstAt_eq xs hn (n + j) hm xs.length (Nat.le_refl _)
    rw [if_neg (by omega)] at hf
    rw [hf] at h2 h3
    have hs := start_le xs hn (n + j) hm
    obtain ⟨p, hp⟩ : ∃ p : Int, p = 2 ^ (j + 1) := ⟨_, rfl⟩
    have hp0 : 0 < p := by rw [hp]; exact Int.pow_pos (by decide)
    rw [← hp] at h2 h3
    -- the place of the code
    obtain ⟨c, hc1, hc2, hc3, hc4⟩ : ∃ c : Nat, start xs (n + j) ≤ c ∧ (c : Int) < start xs (n + j) + (symsAt xs xs.length (n + j + 1)).length ∧ v * p ≤ c ∧ (c : Int) < (v + 1) * p := by
      have hvp : 0 ≤ v * p := Int.mul_nonneg h0 (Int.le_of_lt hp0)
      have he : (v + 1) * p = v * p + p := by rw [Int.add_mul, Int.one_mul]
      refine ⟨(max (start xs (n + j)) (v * p)).toNat, ?_, ?_, ?_, ?_⟩ <;> omega
    have hk : (c - start xs (n + j)).toNat < (symsAt xs xs.length (n + j + 1)).length := by omega
    obtain ⟨i, hi1, hi2, hi3, _, hi5⟩ := symsAt_mem xs (n + j + 1) xs.length _ _ (List.getElem?_eq_getElem hk)
    have hcode := code_at xs hn i (n + j) hm hi2 (by rw [hi3]; rfl)
    refine ⟨i, hi2, by rw [hi3]; omega, ?_⟩
    rw [hcode, hi5, hi3, show ((((n + j + 1 : Nat) : Int)) - n).toNat = j + 1 by omega, ← hp]
    rw [show start xs (n + j) + (((c : Int) - start xs (n + j)).toNat : Int) = c by omega]
    exact Int.le_antisymm (Int.lt_add_one_iff.1 ((Int.ediv_lt_iff_lt_mul hp0).2 hc4)) ((Int.le_ediv_iff_mul_le hp0).2 hc3)
  · rintro ⟨i, hi, h1, h2⟩
    have h15 := hall i hi
    have hd := deepAt_ge xs xs.length i hi
    obtain ⟨j, hj⟩ : ∃ j : Nat, xs.getD i 0 = ((n + j : Nat) : Int) + 1 := ⟨(xs.getD i 0 - n - 1).toNat, by omega⟩
    have hm : n + j ≤ 14 := by omega
    have hcode := code_at xs hn i (n + j) hm hi hj
    have hpos := symsAt_pos xs (n + j + 1) (by omega) xs.length i hi (by rw [hj]; rfl)
    have hlt := (List.getElem?_eq_some_iff.1 hpos).1
    have hf := firstAt_eq xs hn (n + j) hm xs.length (Nat.le_refl _)
    rw [if_neg (by omega)] at hf
    refine ⟨j, by omega, decide_eq_true ?_⟩
    rw [show n + 1 + j = (n + j) + 1 by omega, hf]
    rw [hj, show ((((n + j : Nat) : Int) + 1) - n).toNat = j + 1 by omega, hcode] at h2
    obtain ⟨p, hp⟩ : ∃ p : Int, p = 2 ^ (j + 1) := ⟨_, rfl⟩
    have hp0 : 0 < p := by rw [hp]; exact Int.pow_pos (by decide)
    rw [← hp] at h2 ⊢
    have a1 := (Int.ediv_lt_iff_lt_mul (a := start xs (n + j) + (symsAt xs i (n + j + 1)).length) (b := v + 1) hp0).1 (by omega)
    have a2 := (Int.le_ediv_iff_mul_le (a := v) (b := start xs (n + j) + (symsAt xs i (n + j + 1)).length) hp0).1 (by omega)
    refine ⟨by omega, by omega, by omega⟩

/-- The bit at place p of bytes, the lowest of each byte first. -/
def bitAt (bs : List Int) (p : Nat) : Int := bs.getD (p / 8) 0 / 2 ^ (p % 8) % 2
theorem bitAt_le (bs : List Int) (p : Nat) : 0 ≤ bitAt bs p ∧ bitAt bs p ≤ 1 := by unfold bitAt; omega
/-- What is read, r bits of a code being left, v what was read of it, p the place: symbol, error, place. -/
def rd (xs bs : List Int) : Nat → Int → Nat → Int × Int × Nat
  | 0, v, p => match hit xs 15 v xs.length with
    | some i => ((i : Int), 0, p)
    | none => (0, 3, p)
  | r + 1, v, p => match hit xs (14 - r) v xs.length with
    | some i => ((i : Int), 0, p)
    | none => if someB xs (14 - r) v xs.length = true then (if p < 8 * bs.length then rd xs bs r (2 * v + bitAt bs p) (p + 1) else (0, 4, p)) else (0, 3, p)
theorem rd_hit (xs bs : List Int) (n : Nat) (v : Int) (p i : Nat) (hn : n ≤ 15) (h : hit xs n v xs.length = some i) : rd xs bs (15 - n) v p = ((i : Int), 0, p) := by
  by_cases e : n = 15
  · subst e; rw [Nat.sub_self, rd, h]
  · rw [show 15 - n = (14 - n) + 1 by omega, rd, show 14 - (14 - n) = n by omega, h]
theorem rd_form (xs bs : List Int) (n : Nat) (v : Int) (p : Nat) (hn : n ≤ 15) (h : hit xs n v xs.length = none) (hs : n = 15 ∨ someB xs n v xs.length = false) : rd xs bs (15 - n) v p = (0, 3, p) := by
  by_cases e : n = 15
  · subst e; rw [Nat.sub_self, rd, h]
  · rw [show 15 - n = (14 - n) + 1 by omega, rd, show 14 - (14 - n) = n by omega, h]
    simp only
    rw [if_neg]
    rcases hs with hs | hs
    · omega
    · rw [hs]; simp
theorem rd_torn (xs bs : List Int) (n : Nat) (v : Int) (p : Nat) (hn : n < 15) (h : hit xs n v xs.length = none) (hs : someB xs n v xs.length = true) (hp : 8 * bs.length ≤ p) : rd xs bs (15 - n) v p = (0, 4, p) := by
  rw [show 15 - n = (14 - n) + 1 by omega, rd, show 14 - (14 - n) = n by omega, h]
  simp only
  rw [if_pos hs, if_neg (by omega)]
theorem rd_next (xs bs : List Int) (n : Nat) (v : Int) (p : Nat) (hn : n < 15) (h : hit xs n v xs.length = none) (hs : someB xs n v xs.length = true) (hp : p < 8 * bs.length) : rd xs bs (15 - n) v p = rd xs bs (15 - (n + 1)) (2 * v + bitAt bs p) (p + 1) := by
  rw [show 15 - n = (14 - n) + 1 by omega, rd, show 14 - (14 - n) = n by omega, h]
  simp only
  rw [if_pos hs, if_pos hp, show 15 - (n + 1) = 14 - n by omega]
theorem rd_place (xs bs : List Int) : ∀ (r : Nat) (v : Int) (p : Nat), p ≤ 8 * bs.length → (rd xs bs r v p).2.2 ≤ 8 * bs.length := by
  intro r
  induction r with
  | zero => intro v p hp; rw [rd]; split <;> exact hp
  | succ r ih =>
    intro v p hp
    rw [rd]
    split
    · exact hp
    · split
      · split
        · exact ih _ _ (by omega)
        · exact hp
      · exact hp
end Go.Proofs.Ytoeipgbnjcgbjaa
