/- The lengths of huff, in plain words: none, some, alike; and that they are a whole code. -/
import Derived.Test.YtdmggpngmlhboaaHufG
namespace Go.Proofs.Ytdmggpngmlhboaa
open Go.RowKit
set_option linter.unusedVariables false

theorem lens_zero (xs : List Int) (most : Nat) {i : Nat} (hi : i < xs.length) (h0 : ¬ 0 < xs.getD i 0) : (lensL xs most)[i]? = some 0 := by
  unfold lensL
  rw [List.getElem?_map, List.getElem?_range hi]
  simp only [Option.map_some]
  by_cases h2 : (bs xs xs.length).length < 2
  · rw [if_pos h2, if_neg h0]
  · rw [if_neg h2]
    congr 1
    have : ((((Huf.row (Srt.isort Huf.ltC (bs xs xs.length)) (most - 1)).take (2 * (bs xs xs.length).length - 2)).flatMap (·.2)).count i) = 0 := by
      refine List.count_eq_zero.2 (fun hm => ?_)
      obtain ⟨c, hc, hic⟩ := List.mem_flatMap.1 hm
      have := row_all (P := fun j => 0 < xs.getD j 0) (L := Srt.isort Huf.ltC (bs xs xs.length)) (fun c hc j hj => by
        obtain ⟨q, _, hq, rfl⟩ := bs_mem (Srt.mem_isort.1 hc)
        rw [List.mem_singleton.1 hj]; exact hq) (most - 1) c (List.mem_of_mem_take hc) i hic
      exact h0 this
    rw [this]; rfl
theorem lens_small (xs : List Int) (most : Nat) (h : (bs xs xs.length).length < 2) {i : Nat} (hi : i < xs.length) (h0 : 0 < xs.getD i 0) : (lensL xs most)[i]? = some 1 := by
  unfold lensL
  rw [List.getElem?_map, List.getElem?_range hi]
  simp only [Option.map_some]
  rw [if_pos h, if_pos h0]
theorem pos_sorted (xs : List Int) : Huf.Pos (Srt.isort Huf.ltC (bs xs xs.length)) := fun c hc => by
  obtain ⟨j, _, hj, rfl⟩ := bs_mem (Srt.mem_isort.1 hc)
  exact hj
theorem lens_some (xs : List Int) (most : Nat) (h1 : 1 ≤ most) (hp : (bs xs xs.length).length ≤ 2 ^ most) {i : Nat} (hi : i < xs.length) (h0 : 0 < xs.getD i 0) : ∃ l : Nat, (lensL xs most)[i]? = some (l : Int) ∧ 1 ≤ l ∧ l ≤ most := by
  rcases Nat.lt_or_ge (bs xs xs.length).length 2 with h | h
  · exact ⟨1, lens_small xs most h hi h0, Nat.le_refl _, h1⟩
  · obtain ⟨t, ht, hl⟩ := lens_at xs most h1 h hp hi h0
    have htl := (List.getElem?_eq_some_iff.1 ht).1
    have hL := (Huf.lengths (Srt.isort_sorted Huf.swo (bs xs xs.length)) (pos_sorted xs) (by rw [Srt.isort_length]; exact h) (most - 1) (by rw [Srt.isort_length, show most - 1 + 1 = most by omega]; exact hp)).1 t htl
    rw [Srt.isort_length] at hL
    exact ⟨_, hl, hL.1, by omega⟩
theorem lens_flat (xs : List Int) (most : Nat) (h1 : 1 ≤ most) (hp : (bs xs xs.length).length ≤ 2 ^ most) (w : Int) (hw : ∀ i, i < xs.length → 0 < xs.getD i 0 → xs.getD i 0 = w) : ∃ J : Nat, ∀ i, i < xs.length → 0 < xs.getD i 0 → (lensL xs most)[i]? = some ((J : Nat) : Int) ∨ (lensL xs most)[i]? = some ((J + 1 : Nat) : Int) := by
  rcases Nat.lt_or_ge (bs xs xs.length).length 2 with h | h
  · exact ⟨1, fun i hi h0 => .inl (lens_small xs most h hi h0)⟩
  · have hge := Huf.row_ge (Srt.isort Huf.ltC (bs xs xs.length)) (by rw [Srt.isort_length]; exact h) (most - 1) (by rw [Srt.isort_length, show most - 1 + 1 = most by omega]; exact hp)
    obtain ⟨J, hJ⟩ := Huf.flat_lengths (Srt.isort_sorted Huf.swo (bs xs xs.length)) (pos_sorted xs) w (fun c hc => by
      obtain ⟨j, hj, hj0, rfl⟩ := bs_mem (Srt.mem_isort.1 hc)
      exact hw j hj hj0) (most - 1) _ hge
    refine ⟨J, fun i hi h0 => ?_⟩
    obtain ⟨t, ht, hl⟩ := lens_at xs most h1 h hp hi h0
    have htl := (List.getElem?_eq_some_iff.1 ht).1
    rw [Srt.isort_length] at hJ
    rw [hl]
    rcases hJ t (by rw [← Srt.isort_length (lt := Huf.ltC)]; exact htl) with h2 | h2
    · exact .inl (by rw [h2])
    · exact .inr (by rw [h2])
theorem sumTo_ge (f : Nat → Nat) (a : Nat) : ∀ n, (∀ t, t < n → a ≤ f t) → n * a ≤ Huf.sumTo f n
  | 0, _ => by simp [Huf.sumTo]
  | n + 1, h => by
    rw [Huf.sumTo, Nat.succ_mul]
    have h1 := sumTo_ge f a n (fun t ht => h t (by omega))
    have h2 := h n (by omega)
    omega
/-- There is room for all of them. -/
theorem lens_room (xs : List Int) (most hi : Nat) (h1 : 1 ≤ most) (hp : (bs xs xs.length).length ≤ 2 ^ most) (hh : ∀ i l : Nat, i < xs.length → 0 < xs.getD i 0 → (lensL xs most)[i]? = some (l : Int) → l ≤ hi) : (bs xs xs.length).length ≤ 2 ^ hi := by
  have hp0 : 1 ≤ 2 ^ hi := Nat.one_le_two_pow
  rcases Nat.lt_or_ge (bs xs xs.length).length 2 with h | h
  · omega
  · rcases Nat.lt_or_ge hi most with hm | hm
    · have hl : (Srt.isort Huf.ltC (bs xs xs.length)).length = (bs xs xs.length).length := Srt.isort_length _
      have hL := (Huf.lengths (Srt.isort_sorted Huf.swo (bs xs xs.length)) (pos_sorted xs) (by rw [hl]; exact h) (most - 1) (by rw [hl, show most - 1 + 1 = most by omega]; exact hp)).2.2
      have hge := sumTo_ge (fun t => 2 ^ (most - 1 + 1 - Huf.len (Huf.cs (Srt.isort Huf.ltC (bs xs xs.length)) (most - 1) (2 * (Srt.isort Huf.ltC (bs xs xs.length)).length - 2)) t)) (2 ^ (most - hi)) (Srt.isort Huf.ltC (bs xs xs.length)).length (fun t ht => by
        obtain ⟨c, hc⟩ : ∃ c, (Srt.isort Huf.ltC (bs xs xs.length))[t]? = some c := ⟨_, List.getElem?_eq_getElem ht⟩
        obtain ⟨j, hj, hj0, rfl⟩ := bs_mem (Srt.mem_isort.1 (List.mem_of_getElem? hc))
        have h3 := lens_at' xs most h1 h hp hj hc
        have h4 := hh j _ hj hj0 h3
        rw [hl]
        exact Nat.pow_le_pow_right (by decide) (by omega))
      rw [hL, hl, show most - 1 + 1 = most by omega] at hge
      have e : 2 ^ most = 2 ^ hi * 2 ^ (most - hi) := by rw [← Nat.pow_add]; congr 1; omega
      rw [e] at hge
      exact Nat.le_of_mul_le_mul_right hge (Nat.pos_of_ne_zero (by have : 0 < 2 ^ (most - hi) := Nat.two_pow_pos _; omega))
    · exact Nat.le_trans hp (Nat.pow_le_pow_right (by decide) hm)
/-- The least and the greatest length so far. -/
def Seen (xs L : List Int) (J j : Nat) (lo hi : Int) : Prop :=
  (lo = 99 ∧ hi = 0 ∧ ∀ t, t < j → ¬ 0 < xs.getD t 0) ∨
  ∃ a b : Nat, lo = (a : Int) ∧ hi = (b : Int) ∧ 1 ≤ a ∧ a ≤ b ∧ b ≤ 15 ∧ J ≤ a ∧ b ≤ J + 1 ∧ (∃ t, t < j ∧ 0 < xs.getD t 0 ∧ L.getD t 0 = (b : Int)) ∧ ∀ t, t < j → 0 < xs.getD t 0 → L.getD t 0 ≤ (b : Int)
theorem Seen.skip {xs L : List Int} {J j : Nat} {lo hi : Int} (h : Seen xs L J j lo hi) (h0 : ¬ 0 < xs.getD j 0) : Seen xs L J (j + 1) lo hi := by
  have key : ∀ t, t < j + 1 → 0 < xs.getD t 0 → t < j := fun t ht hp => by
    rcases Nat.lt_or_ge t j with h1 | h1
    · exact h1
    · obtain rfl : t = j := by omega
      exact absurd hp h0
  rcases h with ⟨h1, h2, h3⟩ | ⟨a, b, h1, h2, h3, h4, h5, h6, h7, ⟨t, ht, h8, h9⟩, h10⟩
  · exact .inl ⟨h1, h2, fun t ht hp => h3 t (key t ht hp) hp⟩
  · exact .inr ⟨a, b, h1, h2, h3, h4, h5, h6, h7, ⟨t, by omega, h8, h9⟩, fun t ht hp => h10 t (key t ht hp) hp⟩
theorem Seen.add {xs L : List Int} {J j l : Nat} {lo hi : Int} (h : Seen xs L J j lo hi) (h0 : 0 < xs.getD j 0) (hl : L.getD j 0 = (l : Int)) (l1 : 1 ≤ l) (l2 : l ≤ 15) (l3 : J ≤ l) (l4 : l ≤ J + 1) : Seen xs L J (j + 1) (min lo l) (max hi l) := by
  rcases h with ⟨rfl, rfl, h3⟩ | ⟨a, b, rfl, rfl, h3, h4, h5, h6, h7, ⟨t, ht, h8, h9⟩, h10⟩
  · refine .inr ⟨l, l, by omega, by omega, l1, Nat.le_refl _, l2, l3, l4, ⟨j, by omega, h0, hl⟩, fun t ht hp => ?_⟩
    rcases Nat.lt_or_ge t j with h1 | h1
    · exact absurd hp (h3 t h1)
    · obtain rfl : t = j := by omega
      omega
  · refine .inr ⟨min a l, max b l, by omega, by omega, by omega, by omega, by omega, by omega, by omega, ?_, fun t' ht' hp => ?_⟩
    · rcases Nat.lt_or_ge b l with h1 | h1
      · exact ⟨j, by omega, h0, by rw [hl]; omega⟩
      · exact ⟨t, by omega, h8, by rw [h9]; omega⟩
    · rcases Nat.lt_or_ge t' j with h1 | h1
      · have := h10 t' h1 hp
        omega
      · obtain rfl : t' = j := by omega
        rw [hl]; omega
end Go.Proofs.Ytdmggpngmlhboaa
