/- Coins put together two by two and merged, in plain lists: the lengths that come of it. -/
import Derived.Test.YtdmggpngmlhboaaSrtP
set_option linter.unusedVariables false
namespace Go.Proofs.Ytdmggpngmlhboaa.Huf
open Srt
abbrev Coin := Int × List Nat
def ltC (a b : Coin) : Bool := decide (a.1 < b.1)
theorem swo : Swo ltC := ⟨fun a => by simp [ltC], fun a b c h1 h2 => by simp [ltC] at *; omega, fun a b c h1 h2 => by simp [ltC] at *; omega⟩
def pk : List Coin → List Coin
  | a :: b :: l => (a.1 + b.1, a.2 ++ b.2) :: pk l
  | _ => []
def row (L : List Coin) : Nat → List Coin
  | 0 => L
  | k + 1 => mrg ltC L (pk (row L k))
def Pos (l : List Coin) : Prop := ∀ x ∈ l, 0 < x.1
theorem pk_length : ∀ l : List Coin, (pk l).length = l.length / 2
  | [] => rfl
  | [_] => by simp [pk]
  | a :: b :: l => by rw [pk, List.length_cons, pk_length l, List.length_cons, List.length_cons]; omega
theorem pk_pos : ∀ l : List Coin, Pos l → Pos (pk l)
  | [], _ => fun x h => by cases h
  | [_], _ => fun x h => by cases h
  | a :: b :: l, h => by
    intro x hx
    rw [pk] at hx
    rcases List.mem_cons.1 hx with rfl | hx
    · have h1 := h a (by simp); have h2 := h b (by simp); show 0 < a.1 + b.1; omega
    · exact pk_pos l (fun y hy => h y (by simp [hy])) x hx
/-- The packages of a sorted row are sorted. -/
theorem pk_sorted : ∀ l : List Coin, Sorted ltC l → Sorted ltC (pk l)
  | [], _ => List.Pairwise.nil
  | [_], _ => List.Pairwise.nil
  | a :: b :: l, h => by
    have h0 := List.pairwise_cons.1 h
    have h1 := List.pairwise_cons.1 h0.2
    have key : ∀ (m : List Coin) (x : Coin), (∀ y ∈ m, ltC y a = false ∧ ltC y b = false) → x ∈ pk m → a.1 + b.1 ≤ x.1 := by
      intro m
      induction m using pk.induct with
      | case1 c d m ih =>
        intro x hy hx
        rw [pk] at hx
        rcases List.mem_cons.1 hx with rfl | hx
        · have e1 := hy c (by simp); have e2 := hy d (by simp)
          simp [ltC] at e1 e2
          show a.1 + b.1 ≤ c.1 + d.1; omega
        · exact ih x (fun y h => hy y (by simp [h])) hx
      | case2 m hm => intro x _ hx; unfold pk at hx; split at hx <;> first | (exact absurd rfl (hm _ _ _)) | (cases hx)
    rw [pk]
    refine List.pairwise_cons.2 ⟨fun x hx => ?_, pk_sorted l h1.2⟩
    have := key l x (fun y hy => ⟨h0.1 y (by simp [hy]), h1.1 y hy⟩) hx
    simp [ltC]; omega
theorem row_pos {L : List Coin} (h : Pos L) : ∀ k, Pos (row L k)
  | 0 => h
  | k + 1 => fun x hx => by
    rcases List.mem_append.1 ((mrg_perm _ _).mem_iff.1 hx) with hx | hx
    · exact h x hx
    · exact pk_pos _ (row_pos h k) x hx
theorem row_sorted {L : List Coin} (h : Sorted ltC L) : ∀ k, Sorted ltC (row L k)
  | 0 => h
  | k + 1 => mrg_sorted swo _ _ h (pk_sorted _ (row_sorted h k))
theorem row_length (L : List Coin) (k : Nat) : (row L (k + 1)).length = L.length + (row L k).length / 2 := by rw [row, mrg_length, pk_length]
theorem row_le (L : List Coin) (h : 0 < L.length) : ∀ k, (row L k).length ≤ 2 * L.length - 1
  | 0 => by show L.length ≤ _; omega
  | k + 1 => by rw [row_length]; have := row_le L h k; omega
/-- With room for all of them, the last row has what is taken. -/
theorem row_ge (L : List Coin) (h : 2 ≤ L.length) : ∀ k, L.length ≤ 2 ^ (k + 1) → 2 * L.length - 2 ≤ (row L k).length := by
  suffices ∀ k, 2 ^ k * (2 * L.length - (row L k).length) < L.length + 2 ^ k by
    intro k hk
    have h1 := this k
    have h2 := row_le L (by omega) k
    rcases Nat.lt_or_ge (row L k).length (2 * L.length - 2) with h3 | h3
    · exfalso
      have h4 : 3 ≤ 2 * L.length - (row L k).length := by omega
      have h5 : 2 ^ k * 3 ≤ 2 ^ k * (2 * L.length - (row L k).length) := Nat.mul_le_mul_left _ h4
      rw [Nat.pow_succ] at hk
      omega
    · exact h3
  intro k
  induction k with
  | zero => show 2 ^ 0 * (2 * L.length - L.length) < _; simp; omega
  | succ k ih =>
    rw [row_length, Nat.pow_succ]
    have h2 := row_le L (by omega) k
    -- 2n - n - a/2 = ceil ((2n - a) / 2)
    have e : 2 * (2 * L.length - (L.length + (row L k).length / 2)) ≤ 2 * L.length - (row L k).length + 1 := by omega
    have e2 : 2 ^ k * (2 * (2 * L.length - (L.length + (row L k).length / 2))) ≤ 2 ^ k * (2 * L.length - (row L k).length + 1) := Nat.mul_le_mul_left _ e
    rw [Nat.mul_assoc]
    rw [Nat.mul_add] at e2
    omega
/-- How many of each row are among the first m of their merge. -/
def spl : List Coin → List Coin → Nat → Nat × Nat
  | _, _, 0 => (0, 0)
  | [], _, m + 1 => (0, m + 1)
  | _ :: _, [], m + 1 => (m + 1, 0)
  | a :: u, b :: v, m + 1 => if ltC b a = true then ((spl (a :: u) v m).1, (spl (a :: u) v m).2 + 1) else ((spl u (b :: v) m).1 + 1, (spl u (b :: v) m).2)
theorem spl_facts : ∀ (u v : List Coin) (m : Nat), m ≤ u.length + v.length →
    (spl u v m).1 + (spl u v m).2 = m ∧ (spl u v m).1 ≤ u.length ∧ (spl u v m).2 ≤ v.length ∧ ((mrg ltC u v).take m).Perm (u.take (spl u v m).1 ++ v.take (spl u v m).2)
  | u, v, 0, _ => by simp [spl]
  | [], v, m + 1, h => by simp at h; simp [spl]; omega
  | a :: u, [], m + 1, h => by simp at h; simp [spl]; omega
  | a :: u, b :: v, m + 1, h => by
    rw [spl, mrg_cons]
    by_cases hc : ltC b a = true
    · rw [if_pos hc, if_pos hc]
      obtain ⟨h1, h2, h3, h4⟩ := spl_facts (a :: u) v m (by simp at h ⊢; omega)
      refine ⟨by simp only []; omega, h2, by simp only [List.length_cons]; omega, ?_⟩
      rw [List.take_succ_cons]
      simp only [List.take_succ_cons]
      exact (h4.cons b).trans List.perm_middle.symm
    · rw [if_neg hc, if_neg hc]
      obtain ⟨h1, h2, h3, h4⟩ := spl_facts u (b :: v) m (by simp at h ⊢; omega)
      refine ⟨by simp only []; omega, by simp only [List.length_cons]; omega, h3, ?_⟩
      rw [List.take_succ_cons]
      simp only [List.take_succ_cons, List.cons_append]
      exact h4.cons a
/-- A coin that is worth no more than a package that was taken was taken too. -/
theorem spl_coin : ∀ (u v : List Coin) (m : Nat), Sorted ltC u → Sorted ltC v → ∀ (t q : Nat) (x y : Coin), u[t]? = some x → v[q]? = some y → q < (spl u v m).2 → x.1 ≤ y.1 → t < (spl u v m).1
  | u, v, 0, _, _, t, q, x, y, _, _, hq, _ => by simp [spl] at hq
  | [], v, m + 1, _, _, t, q, x, y, ht, _, _, _ => by simp at ht
  | a :: u, [], m + 1, _, _, t, q, x, y, _, hv, _, _ => by simp at hv
  | a :: u, b :: v, m + 1, hu, hv, t, q, x, y, ht, hqv, hq, hxy => by
    rw [spl] at hq ⊢
    have h1 := List.pairwise_cons.1 hu
    have h2 := List.pairwise_cons.1 hv
    by_cases hc : ltC b a = true
    · rw [if_pos hc] at hq ⊢
      simp only at hq ⊢
      cases q with
      | zero =>
        exfalso
        simp at hqv
        subst hqv
        have hax : a.1 ≤ x.1 := by
          cases t with
          | zero => simp at ht; subst ht; exact Int.le_refl _
          | succ t =>
            have := h1.1 x (List.mem_of_getElem? (by simpa using ht))
            simp [ltC] at this; omega
        simp [ltC] at hc; omega
      | succ q => exact spl_coin (a :: u) v m hu h2.2 t q x y ht (by simpa using hqv) (by omega) hxy
    · rw [if_neg hc] at hq ⊢
      simp only at hq ⊢
      cases t with
      | zero => omega
      | succ t =>
        have := spl_coin u (b :: v) m h1.2 hv t q x y (by simpa using ht) hqv hq hxy
        omega
/-- How many coins of L are taken out of each row, the last row's first. -/
def cs (L : List Coin) : Nat → Nat → List Nat
  | 0, m => [m]
  | k + 1, m => (spl L (pk (row L k)) m).1 :: cs L k (2 * (spl L (pk (row L k)) m).2)
theorem cs_length (L : List Coin) : ∀ k m, (cs L k m).length = k + 1
  | 0, _ => rfl
  | k + 1, m => by rw [cs, List.length_cons, cs_length L k]
/-- The packages' ids are those of the row. -/
theorem pk_ids : ∀ (R : List Coin) (p : Nat), 2 * p ≤ R.length → ((pk R).take p).flatMap (·.2) = (R.take (2 * p)).flatMap (·.2)
  | _, 0, _ => by simp
  | [], p + 1, h => by simp at h
  | [_], p + 1, h => by simp at h; omega
  | a :: b :: R, p + 1, h => by
    rw [pk, List.take_succ_cons, show 2 * (p + 1) = 2 * p + 1 + 1 by omega, List.take_succ_cons, List.take_succ_cons, List.flatMap_cons, List.flatMap_cons, List.flatMap_cons, pk_ids R p (by simp at h; omega), List.append_assoc]
theorem spl_le {L : List Coin} {k m : Nat} (h : m ≤ (row L (k + 1)).length) : m ≤ L.length + (pk (row L k)).length := by rw [row_length] at h; rw [pk_length]; exact h
theorem spl_two {L : List Coin} {k m : Nat} (h : m ≤ (row L (k + 1)).length) : 2 * (spl L (pk (row L k)) m).2 ≤ (row L k).length := by
  have h1 := (spl_facts L (pk (row L k)) m (spl_le h)).2.2.1
  rw [pk_length] at h1
  omega
theorem ids_perm {L : List Coin} : ∀ (k m : Nat), m ≤ (row L k).length → (((row L k).take m).flatMap (·.2)).Perm ((cs L k m).flatMap fun c => (L.take c).flatMap (·.2))
  | 0, m, h => by simp [cs, row]
  | k + 1, m, h => by
    have h1 := (spl_facts L (pk (row L k)) m (spl_le h)).2.2.2
    rw [row, cs, List.flatMap_cons]
    refine (h1.flatMap_right _).trans ?_
    rw [List.flatMap_append, pk_ids _ _ (spl_two h)]
    exact (ids_perm k _ (spl_two h)).append_left _
theorem pk_item : ∀ (R : List Coin), Pos R → ∀ (i p : Nat) (x : Coin), R[i]? = some x → i < 2 * p → 2 * p ≤ R.length → ∃ y, (pk R)[i / 2]? = some y ∧ x.1 ≤ y.1
  | [], _, i, p, x, h, _, _ => by simp at h
  | [_], _, i, p, x, h, hi, hp => by simp at h hp; omega
  | a :: b :: R, hP, 0, p, x, h, _, _ => by
    simp at h; subst h
    refine ⟨(a.1 + b.1, a.2 ++ b.2), by simp [pk], ?_⟩
    have := hP b (by simp)
    show a.1 ≤ a.1 + b.1; omega
  | a :: b :: R, hP, 1, p, x, h, _, _ => by
    simp at h; subst h
    refine ⟨(a.1 + b.1, a.2 ++ b.2), by simp [pk], ?_⟩
    have := hP a (by simp)
    show b.1 ≤ a.1 + b.1; omega
  | a :: b :: R, hP, i + 2, p, x, h, hi, hp => by
    obtain ⟨y, h1, h2⟩ := pk_item R (fun z hz => hP z (by simp [hz])) i (p - 1) x (by simpa using h) (by omega) (by simp at hp; omega)
    refine ⟨y, ?_, h2⟩
    rw [pk, show (i + 2) / 2 = i / 2 + 1 by omega, List.getElem?_cons_succ]
    exact h1
/-- Of each row the coins of L that are counted are taken. -/
theorem head_in {L : List Coin} (k m : Nat) (h : m ≤ (row L k).length) (t : Nat) (x : Coin) (ht : L[t]? = some x) (hc : t < (cs L k m).headD 0) : x ∈ (row L k).take m := by
  cases k with
  | zero => exact List.mem_of_getElem? (i := t) (by rw [show row L 0 = L from rfl, List.getElem?_take, if_pos (by simpa [cs] using hc)]; exact ht)
  | succ k =>
    have h1 := (spl_facts L (pk (row L k)) m (spl_le h)).2.2.2
    rw [row]
    refine h1.mem_iff.2 (List.mem_append_left _ (List.mem_of_getElem? (i := t) ?_))
    rw [List.getElem?_take, if_pos (by simpa [cs] using hc)]; exact ht
theorem head_le {L : List Coin} (k m : Nat) (h : m ≤ (row L k).length) : (cs L k m).headD 0 ≤ L.length := by
  cases k with
  | zero => exact h
  | succ k => exact (spl_facts L (pk (row L k)) m (spl_le h)).2.1
/-- What is taken of a row is taken of the one behind it. -/
theorem head_down {L : List Coin} (hS : Sorted ltC L) (hP : Pos L) (k m : Nat) (h : m ≤ (row L (k + 1)).length) : (cs L k (2 * (spl L (pk (row L k)) m).2)).headD 0 ≤ (spl L (pk (row L k)) m).1 := by
  rcases Nat.lt_or_ge (spl L (pk (row L k)) m).1 ((cs L k (2 * (spl L (pk (row L k)) m).2)).headD 0) with hlt | hge
  · exfalso
    have h1 := head_le k _ (spl_two h)
    have hx : L[(spl L (pk (row L k)) m).1]? = some (L[(spl L (pk (row L k)) m).1]'(by omega)) := List.getElem?_eq_getElem (by omega)
    have h2 := head_in k _ (spl_two h) _ _ hx hlt
    obtain ⟨i, hi⟩ := List.mem_iff_getElem?.1 h2
    rw [List.getElem?_take] at hi
    split at hi
    · rename_i hi2
      obtain ⟨y, hy, hxy⟩ := pk_item _ (row_pos hP k) i _ _ hi hi2 (spl_two h)
      have := spl_coin L (pk (row L k)) m hS (pk_sorted _ (row_sorted hS k)) _ _ _ _ hx hy (by omega) hxy
      omega
    · cases hi
  · exact hge
def Anti (l : List Nat) : Prop := l.Pairwise fun a b => b ≤ a
theorem cs_anti {L : List Coin} (hS : Sorted ltC L) (hP : Pos L) : ∀ (k m : Nat), m ≤ (row L k).length → Anti (cs L k m)
  | 0, m, _ => by simp [cs, Anti]
  | k + 1, m, h => by
    have ih := cs_anti hS hP k _ (spl_two h)
    have hd := head_down hS hP k m h
    rw [cs]
    refine List.pairwise_cons.2 ⟨fun b hb => ?_, ih⟩
    cases hc : cs L k (2 * (spl L (pk (row L k)) m).2) with
    | nil => rw [hc] at hb; cases hb
    | cons d l =>
      rw [hc] at hd hb ih
      simp only [List.headD_cons] at hd
      rcases List.mem_cons.1 hb with rfl | hb
      · exact hd
      · exact Nat.le_trans ((List.pairwise_cons.1 ih).1 b hb) hd
/-- The lengths: in how many rows place t is taken. -/
def len (l : List Nat) (t : Nat) : Nat := (l.filter fun c => decide (t < c)).length
def ws : List Nat → Nat
  | [] => 0
  | c :: l => c * 2 ^ l.length + ws l
theorem cs_ws {L : List Coin} : ∀ (k m : Nat), m ≤ (row L k).length → ws (cs L k m) = m * 2 ^ k
  | 0, m, _ => by simp [cs, ws]
  | k + 1, m, h => by
    have h1 := (spl_facts L (pk (row L k)) m (spl_le h)).1
    rw [cs, ws, cs_ws k _ (spl_two h), cs_length]
    have e : m * 2 ^ (k + 1) = ((spl L (pk (row L k)) m).1 + (spl L (pk (row L k)) m).2) * 2 ^ (k + 1) := by rw [h1]
    rw [e, Nat.add_mul, Nat.pow_succ, Nat.mul_comm 2 (spl L (pk (row L k)) m).2, Nat.mul_assoc _ 2, Nat.mul_comm 2]
def wt : List Nat → Nat → Nat
  | [], _ => 0
  | c :: l, t => (if t < c then 2 ^ l.length else 0) + wt l t
theorem len_le (l : List Nat) (t : Nat) : len l t ≤ l.length := List.length_filter_le _ _
theorem len_cons (c : Nat) (l : List Nat) (t : Nat) : len (c :: l) t = (if t < c then 1 else 0) + len l t := by
  unfold len
  by_cases h : t < c
  · rw [List.filter_cons_of_pos (by simpa using h), if_pos h, List.length_cons]; omega
  · rw [List.filter_cons_of_neg (by simpa using h), if_neg h]; omega
theorem wt_len : ∀ (l : List Nat) (t : Nat), Anti l → wt l t + 2 ^ (l.length - len l t) = 2 ^ l.length
  | [], t, _ => by simp [wt, len]
  | c :: l, t, h => by
    have h0 := List.pairwise_cons.1 h
    have ih := wt_len l t h0.2
    rw [wt, len_cons]
    by_cases hc : t < c
    · rw [if_pos hc, if_pos hc, List.length_cons, show l.length + 1 - (1 + len l t) = l.length - len l t by omega, Nat.pow_succ]
      omega
    · rw [if_neg hc, if_neg hc]
      have hz : ∀ (l : List Nat), (∀ b ∈ l, b ≤ t) → wt l t = 0 ∧ len l t = 0 := by
        intro l
        induction l with
        | nil => intro _; exact ⟨rfl, rfl⟩
        | cons b l ih =>
          intro hb
          have h1 := hb b (by simp)
          obtain ⟨i1, i2⟩ := ih (fun x hx => hb x (by simp [hx]))
          rw [wt, len_cons, if_neg (by omega), if_neg (by omega), i1, i2]
          exact ⟨rfl, rfl⟩
      obtain ⟨i1, i2⟩ := hz l (fun b hb => by have := h0.1 b hb; omega)
      rw [i1, i2]
      simp
def sumTo (f : Nat → Nat) : Nat → Nat
  | 0 => 0
  | n + 1 => sumTo f n + f n
theorem sumTo_congr {f g : Nat → Nat} : ∀ (n : Nat), (∀ t, t < n → f t = g t) → sumTo f n = sumTo g n
  | 0, _ => rfl
  | n + 1, h => by rw [sumTo, sumTo, sumTo_congr n (fun t ht => h t (by omega)), h n (by omega)]
theorem sumTo_add (f g : Nat → Nat) : ∀ n, sumTo (fun t => f t + g t) n = sumTo f n + sumTo g n
  | 0 => rfl
  | n + 1 => by rw [sumTo, sumTo, sumTo, sumTo_add f g n]; omega
theorem sumTo_const (c : Nat) : ∀ n, sumTo (fun _ => c) n = n * c
  | 0 => by simp [sumTo]
  | n + 1 => by rw [sumTo, sumTo_const c n, Nat.succ_mul]
theorem sumTo_if (c a : Nat) : ∀ n, c ≤ n → sumTo (fun t => if t < c then a else 0) n = c * a
  | 0, h => by obtain rfl : c = 0 := by omega
               simp [sumTo]
  | n + 1, h => by
    rw [sumTo]
    rcases Nat.lt_or_ge n c with h1 | h1
    · obtain rfl : c = n + 1 := by omega
      rw [if_pos (by omega), sumTo_congr (g := fun _ => a) n (fun t ht => if_pos (by omega)), sumTo_const, Nat.succ_mul]
    · rw [if_neg (by omega), sumTo_if c a n h1]; omega
theorem sum_wt (n : Nat) : ∀ (l : List Nat), (∀ c ∈ l, c ≤ n) → sumTo (wt l) n = ws l
  | [], _ => by
    rw [show ws ([] : List Nat) = 0 from rfl, sumTo_congr (f := wt []) (g := fun _ => 0) n (fun _ _ => rfl), sumTo_const]; rfl
  | c :: l, h => by
    rw [ws, sumTo_congr (f := wt (c :: l)) (g := fun t => (if t < c then 2 ^ l.length else 0) + wt l t) n (fun _ _ => rfl), sumTo_add, sumTo_if _ _ n (h c (by simp)), sum_wt n l (fun x hx => h x (by simp [hx]))]
theorem cs_all_le {L : List Coin} (hS : Sorted ltC L) (hP : Pos L) (k m : Nat) (h : m ≤ (row L k).length) : ∀ c ∈ cs L k m, c ≤ L.length := by
  intro c hc
  have h1 := cs_anti hS hP k m h
  have h2 := head_le k m h
  cases hcs : cs L k m with
  | nil => rw [hcs] at hc; cases hc
  | cons d l =>
    rw [hcs] at hc h1 h2
    simp only [List.headD_cons] at h2
    rcases List.mem_cons.1 hc with rfl | hc
    · exact h2
    · exact Nat.le_trans ((List.pairwise_cons.1 h1).1 c hc) h2
/-- Of the last row all coins are taken. -/
theorem head_all {L : List Coin} (hS : Sorted ltC L) (hP : Pos L) (h2 : 2 ≤ L.length) : ∀ k, 2 * L.length - 2 ≤ (row L k).length → (cs L k (2 * L.length - 2)).headD 0 = L.length
  | 0, h => by
    have h : 2 * L.length - 2 ≤ L.length := h
    show 2 * L.length - 2 = L.length
    omega
  | k + 1, h => by
    obtain ⟨h1, h3, h4, _⟩ := spl_facts L (pk (row L k)) _ (spl_le h)
    have hle := row_le L (by omega) k
    rw [pk_length] at h4
    show (spl L (pk (row L k)) (2 * L.length - 2)).1 = L.length
    rcases Nat.lt_or_ge (spl L (pk (row L k)) (2 * L.length - 2)).1 L.length with hlt | hge
    · exfalso
      have hR : 2 * L.length - 2 ≤ (row L k).length := by omega
      have ih := head_all hS hP h2 k hR
      have hx : L[L.length - 1]? = some (L[L.length - 1]'(by omega)) := List.getElem?_eq_getElem (by omega)
      have hin := head_in k _ hR _ _ hx (by omega)
      obtain ⟨i, hi⟩ := List.mem_iff_getElem?.1 hin
      rw [List.getElem?_take] at hi
      split at hi
      · rename_i hi2
        obtain ⟨y, hy, hxy⟩ := pk_item _ (row_pos hP k) i (L.length - 1) _ hi (by omega) (by omega)
        have := spl_coin L (pk (row L k)) (2 * L.length - 2) hS (pk_sorted _ (row_sorted hS k)) _ _ _ _ hx hy (by omega) hxy
        omega
      · cases hi
    · omega
/-- All that is asked of the lengths. -/
theorem lengths {L : List Coin} (hS : Sorted ltC L) (hP : Pos L) (h2 : 2 ≤ L.length) (k : Nat) (hk : L.length ≤ 2 ^ (k + 1)) :
    (∀ t, t < L.length → 1 ≤ len (cs L k (2 * L.length - 2)) t ∧ len (cs L k (2 * L.length - 2)) t ≤ k + 1) ∧
    (∀ t t', t ≤ t' → len (cs L k (2 * L.length - 2)) t' ≤ len (cs L k (2 * L.length - 2)) t) ∧
    sumTo (fun t => 2 ^ (k + 1 - len (cs L k (2 * L.length - 2)) t)) L.length = 2 ^ (k + 1) := by
  have hr := row_ge L h2 k hk
  have ha := head_all hS hP h2 k hr
  have hA := cs_anti hS hP k _ hr
  have hl := cs_length L k (2 * L.length - 2)
  refine ⟨fun t ht => ⟨?_, by have := len_le (cs L k (2 * L.length - 2)) t; omega⟩, fun t t' h => ?_, ?_⟩
  · cases hc : cs L k (2 * L.length - 2) with
    | nil => rw [hc] at hl; simp at hl
    | cons c l =>
      rw [hc] at ha
      simp only [List.headD_cons] at ha
      rw [len_cons, if_pos (by omega)]; omega
  · generalize cs L k (2 * L.length - 2) = l
    induction l with
    | nil => exact Nat.le_refl _
    | cons c l ih =>
      rw [len_cons, len_cons]
      split <;> split <;> omega
  · have h3 := sum_wt L.length _ (cs_all_le hS hP k _ hr)
    rw [cs_ws k _ hr] at h3
    have h4 : sumTo (fun t => wt (cs L k (2 * L.length - 2)) t + 2 ^ (k + 1 - len (cs L k (2 * L.length - 2)) t)) L.length = L.length * 2 ^ (k + 1) := by
      rw [sumTo_congr (g := fun _ => 2 ^ (k + 1)) _ (fun t _ => by have := wt_len (cs L k (2 * L.length - 2)) t hA; rw [hl] at this; exact this), sumTo_const]
    rw [sumTo_add, h3] at h4
    rw [Nat.pow_succ] at h4 ⊢
    have e : L.length * (2 ^ k * 2) = (2 * L.length - 2) * 2 ^ k + 2 ^ k * 2 := by
      rw [Nat.mul_comm (2 ^ k) 2, ← Nat.mul_assoc, ← Nat.add_mul]
      congr 1
      omega
    omega
/-- Coins of one worth: lengths that differ by one at most. -/
theorem flat_lengths {L : List Coin} (hS : Sorted ltC L) (hP : Pos L) (w : Int) (hw : ∀ x ∈ L, x.1 = w) : ∀ (k m : Nat), m ≤ (row L k).length → ∃ J, ∀ t, t < L.length → len (cs L k m) t = J ∨ len (cs L k m) t = J + 1
  | 0, m, _ => ⟨0, fun t _ => by rw [cs, len_cons]; show _ ∨ _; have : len ([] : List Nat) t = 0 := rfl; rw [this]; split <;> simp⟩
  | k + 1, m, h => by
    obtain ⟨J, hJ⟩ := flat_lengths hS hP w hw k _ (spl_two h)
    rw [cs]
    rcases Nat.lt_or_ge (spl L (pk (row L k)) m).1 L.length with hlt | hge
    · have hp0 : (spl L (pk (row L k)) m).2 = 0 := by
        rcases Nat.eq_zero_or_pos (spl L (pk (row L k)) m).2 with h0 | h0
        · exact h0
        · exfalso
          have h4 := (spl_facts L (pk (row L k)) m (spl_le h)).2.2.1
          have hR : 2 ≤ (row L k).length := by rw [pk_length] at h4; omega
          have hx : L[(spl L (pk (row L k)) m).1]? = some (L[(spl L (pk (row L k)) m).1]'(by omega)) := List.getElem?_eq_getElem (by omega)
          have hall : ∀ k, ∀ x ∈ row L k, w ≤ x.1 := by
            intro k
            induction k with
            | zero => intro x hx; rw [hw x hx]; exact Int.le_refl _
            | succ k ih =>
              intro x hx
              rcases List.mem_append.1 ((mrg_perm _ _).mem_iff.1 hx) with hx | hx
              · rw [hw x hx]; exact Int.le_refl _
              · obtain ⟨i, hi⟩ := List.mem_iff_getElem?.1 hx
                have hil : i < (pk (row L k)).length := (List.getElem?_eq_some_iff.1 hi).1
                rw [pk_length] at hil
                have hz : (row L k)[2 * i]? = some ((row L k)[2 * i]'(by omega)) := List.getElem?_eq_getElem (by omega)
                obtain ⟨y, hy, hzy⟩ := pk_item _ (row_pos hP k) (2 * i) (i + 1) _ hz (by omega) (by omega)
                rw [show 2 * i / 2 = i by omega, hi] at hy
                injection hy with hy
                subst hy
                exact Int.le_trans (ih _ (List.getElem_mem _)) hzy
          have hz : (row L k)[0]? = some ((row L k)[0]'(by omega)) := List.getElem?_eq_getElem (by omega)
          obtain ⟨y, hy, hzy⟩ := pk_item _ (row_pos hP k) 0 1 _ hz (by omega) (by omega)
          have := spl_coin L (pk (row L k)) m hS (pk_sorted _ (row_sorted hS k)) _ _ _ _ hx hy (by omega) (by
            rw [hw _ (List.getElem_mem _)]
            exact Int.le_trans (hall k _ (List.getElem_mem _)) hzy)
          omega
      refine ⟨0, fun t ht => ?_⟩
      rw [len_cons, hp0]
      have hz : ∀ k, len (cs L k 0) t = 0 := by
        intro k
        induction k with
        | zero => rw [cs, len_cons, if_neg (by omega)]; rfl
        | succ k ih => rw [cs, len_cons, show spl L (pk (row L k)) 0 = (0, 0) by rw [spl], if_neg (by simp), show 2 * ((0, 0) : Nat × Nat).2 = 0 from rfl, ih]
      rw [Nat.mul_zero, hz]
      split <;> simp
    · refine ⟨J + 1, fun t ht => ?_⟩
      rw [len_cons, if_pos (by omega)]
      rcases hJ t ht with h1 | h1 <;> omega
end Go.Proofs.Ytdmggpngmlhboaa.Huf
