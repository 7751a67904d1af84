/- The lengths of huff, in plain words: how long each symbol's is. -/
import Derived.Test.YtdmggpngmlhboaaHufF
namespace Go.Proofs.Ytdmggpngmlhboaa
open Go.RowKit
set_option linter.unusedVariables false

/-- Each coin of the first row is one symbol. -/
theorem flat_take : ∀ (C : List Huf.Coin), (∀ c ∈ C, c.2.length = 1) → ∀ k, (C.take k).flatMap (·.2) = (C.flatMap (·.2)).take k
  | [], _, k => by simp
  | c :: C, h, 0 => by simp
  | c :: C, h, k + 1 => by
    have h1 := h c (by simp)
    obtain ⟨x, t, hx, ht⟩ := cons_of (l := c.2) h1 (by omega)
    obtain rfl : t = [] := List.eq_nil_of_length_eq_zero ht
    rw [List.take_succ_cons, List.flatMap_cons, List.flatMap_cons, hx, flat_take C (fun c hc => h c (by simp [hc])) k]
    rfl
theorem flat_get : ∀ (C : List Huf.Coin), (∀ c ∈ C, c.2.length = 1) → ∀ (t : Nat) (c : Huf.Coin) (i : Nat), C[t]? = some c → c.2 = [i] → (C.flatMap (·.2))[t]? = some i
  | [], _, t, c, i, h, _ => by simp at h
  | c' :: C, h, 0, c, i, hc, hi => by
    simp at hc
    subst hc
    rw [List.flatMap_cons, hi]; rfl
  | c' :: C, h, t + 1, c, i, hc, hi => by
    have h1 := h c' (by simp)
    obtain ⟨x, u, hx, hu⟩ := cons_of (l := c'.2) h1 (by omega)
    obtain rfl : u = [] := List.eq_nil_of_length_eq_zero hu
    rw [List.flatMap_cons, hx]
    simpa using flat_get C (fun c hc => h c (by simp [hc])) t c i (by simpa using hc) hi
theorem count_take {l : List Nat} (hn : l.Nodup) {t i : Nat} (h : l[t]? = some i) (c : Nat) : (l.take c).count i = if t < c then 1 else 0 := by
  have hm : (l.take c).Nodup := hn.sublist (List.take_sublist _ _)
  by_cases hc : t < c
  · rw [if_pos hc]
    have : i ∈ l.take c := List.mem_of_getElem? (i := t) (by rw [List.getElem?_take, if_pos hc]; exact h)
    have h1 := List.nodup_iff_count.1 hm i
    have h2 := List.count_pos_iff.2 this
    omega
  · rw [if_neg hc]
    refine List.count_eq_zero.2 (fun hm2 => ?_)
    obtain ⟨s, hs⟩ := List.mem_iff_getElem?.1 hm2
    rw [List.getElem?_take] at hs
    split at hs
    · rename_i hsc
      have hsl := (List.getElem?_eq_some_iff.1 hs).1
      have := (List.getElem?_inj hsl hn).1 (hs.trans h.symm)
      omega
    · cases hs
theorem count_flat {l : List Nat} (hn : l.Nodup) {t i : Nat} (h : l[t]? = some i) : ∀ (cs : List Nat), (cs.flatMap fun c => l.take c).count i = Huf.len cs t
  | [] => rfl
  | c :: cs => by
    rw [List.flatMap_cons, List.count_append, count_take hn h, count_flat hn h cs, Huf.len_cons]
theorem bs_ids (xs : List Int) (k : Nat) : (bs xs k).flatMap (·.2) = (List.range k).filter fun i => decide (0 < xs.getD i 0) := by
  unfold bs
  induction ((List.range k).filter fun i => decide (0 < xs.getD i 0)) with
  | nil => rfl
  | cons a l ih => rw [List.map_cons, List.flatMap_cons, ih]; rfl
/-- Where a symbol stands among the sorted coins, and what its length is. -/
theorem lens_at' (xs : List Int) (most : Nat) (h1 : 1 ≤ most) (h2 : 2 ≤ (bs xs xs.length).length) (hp : (bs xs xs.length).length ≤ 2 ^ most) {i : Nat} (hi : i < xs.length) {t : Nat} (ht : (Srt.isort Huf.ltC (bs xs xs.length))[t]? = some (xs.getD i 0, [i])) :
    (lensL xs most)[i]? = some ((Huf.len (Huf.cs (Srt.isort Huf.ltC (bs xs xs.length)) (most - 1) (2 * (bs xs xs.length).length - 2)) t : Nat) : Int) := by
  have hperm := Srt.isort_perm (lt := Huf.ltC) (bs xs xs.length)
  have hone : ∀ c ∈ Srt.isort Huf.ltC (bs xs xs.length), c.2.length = 1 := fun c hc => by
    obtain ⟨j, _, _, rfl⟩ := bs_mem (Srt.mem_isort.1 hc)
    rfl
  have hlen : (Srt.isort Huf.ltC (bs xs xs.length)).length = (bs xs xs.length).length := Srt.isort_length _
  have hnod : ((Srt.isort Huf.ltC (bs xs xs.length)).flatMap (·.2)).Nodup := by
    refine ((hperm.flatMap_right (·.2)).nodup_iff).2 ?_
    rw [bs_ids]
    exact (List.nodup_range).sublist List.filter_sublist
  have hti := flat_get _ hone t _ i ht rfl
  have hge := Huf.row_ge (Srt.isort Huf.ltC (bs xs xs.length)) (by rw [hlen]; exact h2) (most - 1) (by rw [hlen, show most - 1 + 1 = most by omega]; exact hp)
  rw [hlen] at hge
  have hids := Huf.ids_perm (L := Srt.isort Huf.ltC (bs xs xs.length)) (most - 1) _ hge
  unfold lensL
  rw [List.getElem?_map, List.getElem?_range hi]
  simp only [Option.map_some]
  rw [if_neg (by omega), hids.count_eq]
  have he : (fun c => ((Srt.isort Huf.ltC (bs xs xs.length)).take c).flatMap (·.2)) = fun c => ((Srt.isort Huf.ltC (bs xs xs.length)).flatMap (·.2)).take c := funext fun c => flat_take _ hone c
  rw [he, count_flat hnod hti]
theorem lens_at (xs : List Int) (most : Nat) (h1 : 1 ≤ most) (h2 : 2 ≤ (bs xs xs.length).length) (hp : (bs xs xs.length).length ≤ 2 ^ most) {i : Nat} (hi : i < xs.length) (h0 : 0 < xs.getD i 0) :
    ∃ t, (Srt.isort Huf.ltC (bs xs xs.length))[t]? = some (xs.getD i 0, [i]) ∧ (lensL xs most)[i]? = some ((Huf.len (Huf.cs (Srt.isort Huf.ltC (bs xs xs.length)) (most - 1) (2 * (bs xs xs.length).length - 2)) t : Nat) : Int) := by
  obtain ⟨t, ht⟩ := List.mem_iff_getElem?.1 (Srt.mem_isort (lt := Huf.ltC).2 (mem_bs (xs := xs) hi h0))
  exact ⟨t, ht, lens_at' xs most h1 h2 hp hi ht⟩
theorem lensL_length (xs : List Int) (most : Nat) : (lensL xs most).length = xs.length := by simp [lensL]
/-- Who comes more often has no longer a code. -/
theorem lens_often (xs : List Int) (most : Nat) (h1 : 1 ≤ most) (hp : (bs xs xs.length).length ≤ 2 ^ most) {i k : Nat} (hi : i < xs.length) (hk : k < xs.length) (h0 : 0 < xs.getD k 0) (hik : xs.getD k 0 < xs.getD i 0) :
    (lensL xs most).getD i 0 ≤ (lensL xs most).getD k 0 := by
  have hm1 := mem_bs (xs := xs) hi (by omega)
  have hm2 := mem_bs (xs := xs) hk h0
  have h2 : 2 ≤ (bs xs xs.length).length := by
    rcases Nat.lt_or_ge (bs xs xs.length).length 2 with h | h
    · exfalso
      cases hc : bs xs xs.length with
      | nil => rw [hc] at hm1; cases hm1
      | cons c l =>
        rw [hc] at h hm1 hm2
        simp only [List.length_cons] at h
        obtain rfl : l = [] := List.eq_nil_of_length_eq_zero (by omega)
        have e1 := List.mem_singleton.1 hm1
        have e2 := List.mem_singleton.1 hm2
        rw [← e1] at e2
        have e3 : xs.getD k 0 = xs.getD i 0 := congrArg Prod.fst e2
        omega
    · exact h
  obtain ⟨t, ht, hl⟩ := lens_at xs most h1 h2 hp hi (by omega)
  obtain ⟨s, hs, hls⟩ := lens_at xs most h1 h2 hp hk h0
  rw [List.getD_eq_getElem?_getD, List.getD_eq_getElem?_getD, hl, hls]
  simp only [Option.getD_some]
  have hso := Srt.isort_sorted Huf.swo (bs xs xs.length)
  have hst : s ≤ t := by
    rcases Nat.lt_or_ge t s with h | h
    · exfalso
      have hsl := (List.getElem?_eq_some_iff.1 hs).1
      have htl := (List.getElem?_eq_some_iff.1 ht).1
      have := List.pairwise_iff_getElem.1 hso t s htl hsl h
      rw [(List.getElem?_eq_some_iff.1 hs).2, (List.getElem?_eq_some_iff.1 ht).2] at this
      have h9 : ¬ (xs.getD k 0 < xs.getD i 0) := of_decide_eq_false this
      omega
    · exact h
  have hpos : Huf.Pos (Srt.isort Huf.ltC (bs xs xs.length)) := fun c hc => by
    obtain ⟨j, _, hj, rfl⟩ := bs_mem (Srt.mem_isort.1 hc)
    exact hj
  have hL := (Huf.lengths hso hpos (by rw [Srt.isort_length]; exact h2) (most - 1) (by rw [Srt.isort_length, show most - 1 + 1 = most by omega]; exact hp)).2.1 s t hst
  rw [Srt.isort_length] at hL
  exact Int.ofNat_le.2 hL
end Go.Proofs.Ytdmggpngmlhboaa
