/- Huff's coins out of counts; a sorted row of coins in memory. -/
import Derived.Test.YtdmggpngmlhboaaHufD
import Derived.Test.YtdmggpngmlhboaaSrtF
namespace Go.Proofs.Ytdmggpngmlhboaa
open Go.RowKit
set_option linter.unusedVariables false

/-- The coins of the first k counts. -/
def bs (xs : List Int) (k : Nat) : List Huf.Coin := ((List.range k).filter fun i => decide (0 < xs.getD i 0)).map fun i => (xs.getD i 0, [i])
theorem bs_succ (xs : List Int) (k : Nat) : bs xs (k + 1) = bs xs k ++ (if 0 < xs.getD k 0 then [(xs.getD k 0, [k])] else []) := by
  unfold bs
  rw [List.range_succ, List.filter_append, List.map_append]
  congr 1
  by_cases h : 0 < xs.getD k 0
  · rw [if_pos h, List.filter_cons_of_pos (p := fun i => decide (0 < xs.getD i 0)) (decide_eq_true h)]; rfl
  · rw [if_neg h, List.filter_cons_of_neg (p := fun i => decide (0 < xs.getD i 0)) (by show ¬ decide _ = true; rw [decide_eq_false h]; decide)]; rfl
theorem bs_length (xs : List Int) (k : Nat) : (bs xs k).length ≤ k := by
  unfold bs
  rw [List.length_map]
  exact Nat.le_trans (List.length_filter_le _ _) (by rw [List.length_range]; exact Nat.le_refl _)
theorem bs_mem {xs : List Int} {k : Nat} {c : Huf.Coin} (h : c ∈ bs xs k) : ∃ i, i < k ∧ 0 < xs.getD i 0 ∧ c = (xs.getD i 0, [i]) := by
  unfold bs at h
  obtain ⟨i, hi, rfl⟩ := List.mem_map.1 h
  rw [List.mem_filter] at hi
  exact ⟨i, List.mem_range.1 hi.1, by simpa using hi.2, rfl⟩
/-- Sorting goes along with what lies in memory. -/
theorem ltE_at {w : World} {B : Nat} {e e' : El} {c c' : Huf.Coin} (h : CoinAt w B e c) (h' : CoinAt w B e' c') : ltE e e' = Huf.ltC c c' := by
  unfold ltE Huf.ltC
  rw [h.w, h'.w]
theorem CoinsAt.ins {w : World} {B : Nat} {e : El} {c : Huf.Coin} (h : CoinAt w B e c) : ∀ {L : List El} {C : List Huf.Coin}, CoinsAt w B L C → CoinsAt w B (Srt.ins ltE e L) (Srt.ins Huf.ltC c C)
  | [], [], _ => ⟨h, trivial⟩
  | e' :: L, c' :: C, hc => by
    unfold Srt.ins
    rw [ltE_at h hc.1]
    split
    · exact ⟨h, hc⟩
    · exact ⟨hc.1, CoinsAt.ins h hc.2⟩
  | [], _ :: _, hc => hc.elim
  | _ :: _, [], hc => hc.elim
theorem CoinsAt.isortA {w : World} {B : Nat} : ∀ {L : List El} {C : List Huf.Coin} {M : List El} {D : List Huf.Coin}, CoinsAt w B L C → CoinsAt w B M D → CoinsAt w B (Srt.isortA ltE M L) (Srt.isortA Huf.ltC D C)
  | [], [], _, _, _, h => h
  | e :: L, c :: C, M, D, hc, h => show CoinsAt w B (Srt.isortA ltE (Srt.ins ltE e M) L) (Srt.isortA Huf.ltC (Srt.ins Huf.ltC c D) C) from CoinsAt.isortA hc.2 (CoinsAt.ins hc.1 h)
  | [], _ :: _, _, _, hc, _ => hc.elim
  | _ :: _, [], _, _, hc, _ => hc.elim
theorem CoinsAt.isort {w : World} {B : Nat} {L : List El} {C : List Huf.Coin} (h : CoinsAt w B L C) : CoinsAt w B (Srt.isort ltE L) (Srt.isort Huf.ltC C) := CoinsAt.isortA h trivial
/-- What is sorted stays as it is. -/
theorem isort_of_sorted {α : Type} {lt : α → α → Bool} (h : Srt.Swo lt) (l : List α) (hs : Srt.Sorted lt l) : Srt.isort lt l = l := by
  induction l using Srt.snoc_induct with
  | h0 => rfl
  | h1 l x ih =>
    rw [Srt.isort_snoc, ih (Srt.Sorted.left hs)]
    have := Srt.ins_at (lt := lt) x l [] (fun y hy => (List.pairwise_append.1 hs).2.2 y hy x (by simp)) (fun y t h => by cases h)
    simpa using this
/-- The next row: the coins and the packages, sorted. -/
theorem row_next {L : List Huf.Coin} (h : Srt.Sorted Huf.ltC L) (k : Nat) : Srt.isort Huf.ltC (L ++ Huf.pk (Huf.row L k)) = Huf.row L (k + 1) := by
  rw [Srt.isort_append Huf.swo, isort_of_sorted Huf.swo _ h, isort_of_sorted Huf.swo _ (Huf.pk_sorted _ (Huf.row_sorted h k))]; rfl
/-- How much a coin of a row is worth at most, and how many ids it has. -/
theorem pk_bd {b m : Nat} : ∀ (R : List Huf.Coin), (∀ c ∈ R, 0 < c.1 ∧ c.1 ≤ (b : Int) ∧ c.2.length ≤ m) → ∀ c ∈ Huf.pk R, 0 < c.1 ∧ c.1 ≤ ((2 * b : Nat) : Int) ∧ c.2.length ≤ 2 * m
  | [], _, c, h => by cases h
  | [_], _, c, h => by cases h
  | x :: y :: R, hR, c, h => by
    rw [Huf.pk] at h
    rcases List.mem_cons.1 h with rfl | h
    · have h1 := hR x (by simp)
      have h2 := hR y (by simp)
      refine ⟨?_, ?_, ?_⟩
      · show 0 < x.1 + y.1; omega
      · show x.1 + y.1 ≤ _; omega
      · show (x.2 ++ y.2).length ≤ _; rw [List.length_append]; omega
    · exact pk_bd R (fun c hc => hR c (by simp [hc])) c h
theorem row_bd {L : List Huf.Coin} {b : Nat} (hL : ∀ c ∈ L, 0 < c.1 ∧ c.1 ≤ (b : Int) ∧ c.2.length ≤ 1) : ∀ k, ∀ c ∈ Huf.row L k, 0 < c.1 ∧ c.1 ≤ ((2 ^ k * b : Nat) : Int) ∧ c.2.length ≤ 2 ^ k
  | 0, c, h => by
    have := hL c h
    rw [Nat.pow_zero, Nat.one_mul]; exact this
  | k + 1, c, h => by
    rcases List.mem_append.1 ((Srt.mrg_perm _ _).mem_iff.1 h) with h | h
    · have h1 := hL c h
      have h2 : 1 * b ≤ 2 ^ (k + 1) * b := Nat.mul_le_mul_right _ (Nat.one_le_two_pow)
      have h3 : 1 ≤ 2 ^ (k + 1) := Nat.one_le_two_pow
      exact ⟨h1.1, by omega, by omega⟩
    · have h1 := pk_bd _ (row_bd hL k) c h
      rw [Nat.pow_succ]
      refine ⟨h1.1, ?_, by omega⟩
      have : 2 * (2 ^ k * b) = 2 ^ k * 2 * b := by rw [Nat.mul_comm 2 (2 ^ k * b), Nat.mul_assoc, Nat.mul_comm b 2, Nat.mul_assoc]
      rw [← this]; exact h1.2.1
theorem Src.rowE {P : Program} {w : World} {base n c : Nat} {A : Option Addr} {L : List El} (h : OwnS w base 76 2 (.slice A n c) n (L.flatMap encE)) : Src P w 2 (.slice A n c) n (L.flatMap encE) := by
  refine Src.vals h.1 ?_ (fun hl => ?_)
  · intro u hu
    obtain ⟨x, _, hx⟩ := List.mem_flatMap.1 hu
    unfold encE at hx
    rcases List.mem_cons.1 hx with rfl | hx
    · rfl
    · rw [List.mem_singleton.1 hx]; rfl
  · obtain ⟨g, off, c', hv, _, _, hc⟩ := h.cells hl
    injection hv with hA
    refine ⟨⟨g, off, none⟩, hA, fun j u hj => ?_⟩
    rw [Addr.add_lit, hc j (List.getElem?_eq_some_iff.1 hj).1, hj]
theorem SrcAll.rowE {w : World} {base n c : Nat} {A : Option Addr} {L : List El} (h : OwnS w base 76 2 (.slice A n c) n (L.flatMap encE)) : SrcAll_Coin w (.slice A n c) n (L.flatMap encE) :=
  ⟨⟨_, _, rfl⟩, fun w' hb => Src.rowE (h.chg (S := fun _ => False) (Chg.of_below hb) (fun _ _ h => h))⟩
theorem Src.coin2 {P : Program} {w : World} (o : Obj) (e : El) : Src P ((w.alloc o).alloc (.cells #[.int .i64 e.w, .slice e.A e.n e.c] 76)) 2 (.slice (some ⟨w.heap.size + 1, 0, none⟩) 1 1) 1 (encE e) := by
  have := Src.coin (P := P) (w := w.alloc o) e
  rwa [show (w.alloc o).heap.size = w.heap.size + 1 by simp] at this
/-- A row as a place in memory. -/
theorem SRow.of_own {w : World} {base n : Nat} {v : Value} {L : List El} (h : OwnS w base 76 2 v n (L.flatMap encE)) (h0 : 0 < n) : ∃ g off c, v = .slice (some ⟨g, off, none⟩) n c ∧ L.length = n ∧ base ≤ g ∧ SRow w 76 2 encE g off c L := by
  have hl : L.length = n := by
    have h1 := h.1
    rw [flat_length encE_len] at h1
    omega
  rcases h.2 with ⟨_, hn⟩ | ⟨g, off, cap, cur, rfl, hb, _⟩
  · omega
  · refine ⟨g, off, cap, rfl, hl, hb, ⟨?_, encE_len⟩⟩
    have := h.base_ (Nat.zero_le _)
    rw [hl]
    exact this
end Go.Proofs.Ytdmggpngmlhboaa
