/- The lengths of huff are a whole code; what the sum of the products is made of. -/
import Derived.Test.YtdmggpngmlhboaaHufH
import Derived.Test.YtdmggpngmlhboaaHcCost
namespace Go.Proofs.Ytdmggpngmlhboaa
open Go.RowKit
set_option linter.unusedVariables false

theorem perm_sum {l l' : List Int} (h : l.Perm l') : l.sum = l'.sum := by
  induction h with
  | nil => rfl
  | cons x _ ih => rw [List.sum_cons, List.sum_cons, ih]
  | swap x y l => rw [List.sum_cons, List.sum_cons, List.sum_cons, List.sum_cons]; omega
  | trans _ _ h1 h2 => exact h1.trans h2
theorem sum_filter {p : Nat → Bool} {f : Nat → Int} : ∀ (l : List Nat), (∀ i ∈ l, p i = false → f i = 0) → (l.map f).sum = ((l.filter p).map f).sum
  | [], _ => rfl
  | i :: l, h => by
    have ih := sum_filter (p := p) (f := f) l (fun j hj => h j (by simp [hj]))
    cases hp : p i
    · rw [List.filter_cons_of_neg (by simp [hp]), List.map_cons, List.sum_cons, h i (by simp) hp, ih]; omega
    · rw [List.filter_cons_of_pos hp, List.map_cons, List.map_cons, List.sum_cons, List.sum_cons, ih]
theorem sum_to {f : Nat → Int} {g : Nat → Nat} (l : List Nat) : (∀ t i, l[t]? = some i → f i = (g t : Int)) → (l.map f).sum = ((Huf.sumTo g l.length : Nat) : Int) := by
  induction l using Srt.snoc_induct with
  | h0 => intro _; rfl
  | h1 l x ih =>
    intro h
    rw [List.map_append, List.sum_append, ih (fun t i ht => h t i (by rw [List.getElem?_append_left (List.getElem?_eq_some_iff.1 ht).1]; exact ht)), List.length_append]
    have := h l.length x (by simp)
    simp [Huf.sumTo, this]
theorem sumTo_mul (a : Nat) (f : Nat → Nat) : ∀ n, Huf.sumTo (fun t => a * f t) n = a * Huf.sumTo f n
  | 0 => rfl
  | n + 1 => by rw [Huf.sumTo, Huf.sumTo, sumTo_mul a f n, Nat.mul_add]
theorem range_getD (L : List Int) : (List.range L.length).map (fun i => L.getD i 0) = L := by
  apply List.ext_getElem
  · simp
  · intro i h1 h2
    simp [List.getD_eq_getElem?_getD, h2]
theorem lens_costs (xs : List Int) (most : Nat) (h1 : 1 ≤ most) (h15 : most ≤ 15) (h2 : 2 ≤ (bs xs xs.length).length) (hp : (bs xs xs.length).length ≤ 2 ^ most) : costs (lensL xs most) = 32768 := by
  have hone : ∀ c ∈ Srt.isort Huf.ltC (bs xs xs.length), c.2.length = 1 := fun c hc => by
    obtain ⟨j, _, _, rfl⟩ := bs_mem (Srt.mem_isort.1 hc)
    rfl
  have hlen : (Srt.isort Huf.ltC (bs xs xs.length)).length = (bs xs xs.length).length := Srt.isort_length _
  have e1 : costs (lensL xs most) = ((List.range xs.length).map (fun i => costOf ((lensL xs most).getD i 0))).sum := by
    unfold costs
    conv => lhs; rw [← range_getD (lensL xs most), lensL_length, List.map_map]
    rfl
  rw [e1, sum_filter (p := fun i => decide (0 < xs.getD i 0)) _ (fun i hi hpi => by
    have h0 : ¬ 0 < xs.getD i 0 := of_decide_eq_false hpi
    rw [List.getD_eq_getElem?_getD, lens_zero xs most (List.mem_range.1 hi) h0]
    rfl), ← bs_ids, perm_sum ((((Srt.isort_perm (lt := Huf.ltC) (bs xs xs.length)).flatMap_right (·.2)).map _).symm)]
  have hL := Huf.lengths (Srt.isort_sorted Huf.swo (bs xs xs.length)) (pos_sorted xs) (by rw [hlen]; exact h2) (most - 1) (by rw [hlen, show most - 1 + 1 = most by omega]; exact hp)
  rw [hlen] at hL
  have hids : ∀ (t i : Nat), ((Srt.isort Huf.ltC (bs xs xs.length)).flatMap (·.2))[t]? = some i → t < (bs xs xs.length).length → i < xs.length ∧ (Srt.isort Huf.ltC (bs xs xs.length))[t]? = some (xs.getD i 0, [i]) := fun t i ht hlt => by
    obtain ⟨c, hc⟩ : ∃ c, (Srt.isort Huf.ltC (bs xs xs.length))[t]? = some c := ⟨_, List.getElem?_eq_getElem (by rw [hlen]; exact hlt)⟩
    obtain ⟨j, hj, hj0, rfl⟩ := bs_mem (Srt.mem_isort.1 (List.mem_of_getElem? hc))
    have h3 := flat_get _ hone t _ j hc rfl
    rw [ht] at h3
    injection h3 with h3
    subst h3
    exact ⟨hj, hc⟩
  have hll : ((Srt.isort Huf.ltC (bs xs xs.length)).flatMap (·.2)).length = (bs xs xs.length).length := by
    rw [← hlen]
    generalize Srt.isort Huf.ltC (bs xs xs.length) = C at hone
    induction C with
    | nil => rfl
    | cons c C ih => rw [List.flatMap_cons, List.length_append, hone c (by simp), ih (fun x hx => hone x (by simp [hx])), List.length_cons]; omega
  rw [sum_to (g := fun t => 2 ^ (15 - most) * 2 ^ (most - 1 + 1 - Huf.len (Huf.cs (Srt.isort Huf.ltC (bs xs xs.length)) (most - 1) (2 * (bs xs xs.length).length - 2)) t)) _ (fun t i ht => by
    have htl : t < (bs xs xs.length).length := by rw [← hll]; exact (List.getElem?_eq_some_iff.1 ht).1
    obtain ⟨hi, hc⟩ := hids t i ht htl
    have h3 := lens_at' xs most h1 h2 hp hi hc
    have h4 := hL.1 t htl
    rw [List.getD_eq_getElem?_getD, h3]
    simp only [Option.getD_some]
    generalize Huf.len (Huf.cs (Srt.isort Huf.ltC (bs xs xs.length)) (most - 1) (2 * (bs xs xs.length).length - 2)) t = l at h4
    unfold costOf
    rw [if_pos (by omega), ← Nat.pow_add, show 15 - most + (most - 1 + 1 - l) = (15 - (l : Int)).toNat by omega]
    simp), hll, sumTo_mul, hL.2.2, ← Nat.pow_add, show 15 - most + (most - 1 + 1) = 15 by omega]
  rfl
theorem lens_whole (xs : List Int) (most : Nat) (h1 : 1 ≤ most) (h15 : most ≤ 15) (h2 : 2 ≤ (bs xs xs.length).length) (hp : (bs xs xs.length).length ≤ 2 ^ most) : complete (lensL xs most) = true := by
  unfold complete
  rw [lens_costs xs most h1 h15 h2 hp]
  simp only [BEq.rfl, Bool.and_true]
  unfold cntB
  rw [List.all_eq_true]
  intro l hl
  obtain ⟨i, hi⟩ := List.mem_iff_getElem?.1 hl
  have hil : i < xs.length := by rw [← lensL_length xs most]; exact (List.getElem?_eq_some_iff.1 hi).1
  unfold okLen
  by_cases h0 : 0 < xs.getD i 0
  · obtain ⟨k, hk, hk1, hk2⟩ := lens_some xs most h1 hp hil h0
    rw [hi] at hk
    injection hk with hk
    rw [hk, decide_eq_true (by omega), decide_eq_true (by omega)]; rfl
  · have hk := lens_zero xs most hil h0
    rw [hi] at hk
    injection hk with hk
    rw [hk]; rfl
theorem costTo_congr {xs ys zs : List Int} : ∀ (k : Nat), (∀ i, i < k → xs.getD i 0 * ys.getD i 0 = xs.getD i 0 * zs.getD i 0) → costTo xs ys k = costTo xs zs k
  | 0, _ => rfl
  | k + 1, h => by rw [costTo, costTo, costTo_congr k (fun i hi => h i (by omega)), h k (by omega)]
/-- Where less than two symbols come, one bit for each costs the same. -/
theorem cost_ones (xs : List Int) (most : Nat) (hok : okX xs) (h2 : (bs xs xs.length).length < 2) : costTo xs (List.replicate xs.length 1) xs.length = costTo xs (lensL xs most) xs.length := by
  refine costTo_congr _ (fun i hi => ?_)
  have h1 := hok i hi
  rw [List.getD_eq_getElem?_getD (l := List.replicate _ _), List.getElem?_replicate, if_pos hi]
  simp only [Option.getD_some]
  by_cases h0 : 0 < xs.getD i 0
  · rw [List.getD_eq_getElem?_getD (l := lensL xs most), lens_small xs most h2 hi h0]; rfl
  · rw [show xs.getD i 0 = 0 by omega]; simp
end Go.Proofs.Ytdmggpngmlhboaa
