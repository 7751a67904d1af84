/- Codes are read back; bits as bytes: the plain parts of the text HufU. -/
import Derived.Test.YtoeipgbnjcgbjaaInfN
import Derived.Test.YtoeipgbnjcgbjaaReadMath
namespace Go.Proofs.Ytoeipgbnjcgbjaa.Huf
def sumTo (f : Nat → Nat) : Nat → Nat
  | 0 => 0
  | n + 1 => sumTo f n + f n
theorem sumTo_congr {f g : Nat → Nat} : ∀ (n : Nat), (∀ t, t < n → f t = g t) → sumTo f n = sumTo g n
  | 0, _ => rfl
  | n + 1, h => by rw [sumTo, sumTo, sumTo_congr n (fun t ht => h t (by omega)), h n (by omega)]
theorem sumTo_add (f g : Nat → Nat) : ∀ n, sumTo (fun t => f t + g t) n = sumTo f n + sumTo g n
  | 0 => rfl
  | n + 1 => by rw [sumTo, sumTo, sumTo, sumTo_add f g n]; omega
theorem sumTo_const (c : Nat) : ∀ n, sumTo (fun _ => c) n = n * c
  | 0 => by simp [sumTo]
  | n + 1 => by rw [sumTo, sumTo_const c n, Nat.succ_mul]
theorem sumTo_if (c a : Nat) : ∀ n, c ≤ n → sumTo (fun t => if t < c then a else 0) n = c * a
  | 0, h => by obtain rfl : c = 0 := by omega
               simp [sumTo]
  | n + 1, h => by
    rw [sumTo]
    rcases Nat.lt_or_ge n c with h1 | h1
    · obtain rfl : c = n + 1 := by omega
      rw [if_pos (by omega), sumTo_congr (g := fun _ => a) n (fun t ht => if_pos (by omega)), sumTo_const, Nat.succ_mul]
    · rw [if_neg (by omega), sumTo_if c a n h1]; omega
end Go.Proofs.Ytoeipgbnjcgbjaa.Huf
namespace Go.Proofs.Ytoeipgbnjcgbjaa
open Go.RowKit
set_option linter.unusedVariables false

/-- The first code behind those of length m. -/
def NN (xs : List Int) : Nat → Nat
  | 0 => 0
  | m + 1 => 2 * NN xs m + (symsAt xs xs.length (m + 1)).length
theorem outr_NN (xs : List Int) (hn : xs.length ≤ 400) : ∀ m, m ≤ 15 → (outr xs m).2 = (NN xs m : Int)
  | 0, _ => rfl
  | m + 1, h => by
    obtain ⟨h0, h1⟩ := outr_next xs hn m (by omega)
    have hp : 2 ^ m ≤ 2 ^ 14 := Nat.pow_le_pow_right (by decide) (by omega)
    have hs : sh1 (outr xs m).2 = (outr xs m).2 * 2 := by unfold sh1; omega
    rw [outr, inn_next xs m _ (by simp only; rw [hs]; omega) (by simp only; rw [hs]; omega) xs.length (Nat.le_refl _)]
    simp only
    rw [hs, outr_NN xs hn m (by omega), NN]
    omega
theorem start_NN (xs : List Int) (hn : xs.length ≤ 400) (m : Nat) (hm : m ≤ 14) : start xs m = ((2 * NN xs m : Nat) : Int) := by
  obtain ⟨h0, h1⟩ := outr_next xs hn m (by omega)
  have hp : 2 ^ m ≤ 2 ^ 14 := Nat.pow_le_pow_right (by decide) (by omega)
  have h2 := outr_NN xs hn m (by omega)
  unfold start sh1
  omega
def kraft (xs : List Int) (k m : Nat) : Nat := Huf.sumTo (fun l => (symsAt xs k (l + 1)).length * 2 ^ (14 - l)) m
theorem kraft_step (xs : List Int) (k : Nat) : ∀ m, m ≤ 15 → kraft xs (k + 1) m = kraft xs k m + (if 1 ≤ xs.getD k 0 ∧ xs.getD k 0 ≤ (m : Int) then 2 ^ (15 - xs.getD k 0).toNat else 0)
  | 0, _ => by unfold kraft; rw [if_neg (by omega)]; rfl
  | m + 1, h => by
    have ih := kraft_step xs k m (by omega)
    unfold kraft at ih ⊢
    rw [Huf.sumTo, Huf.sumTo, ih]
    by_cases hx : xs.getD k 0 = (m : Int) + 1
    · rw [symsAt_eq xs k (m + 1) (by rw [hx]; rfl) (by omega), List.length_append, List.length_singleton, hx, if_neg (by omega), if_pos (by omega), show (15 - ((m : Int) + 1)).toNat = 14 - m by omega, Nat.add_mul]
      omega
    · rw [symsAt_ne xs k (m + 1) (by intro h'; exact hx (by rw [h']; rfl))]
      by_cases h2 : 1 ≤ xs.getD k 0 ∧ xs.getD k 0 ≤ (m : Int)
      · rw [if_pos h2, if_pos (by omega)]; omega
      · rw [if_neg h2, if_neg (by omega)]; omega
theorem kraft_le (xs : List Int) (m : Nat) (hm : m ≤ 15) : ∀ k, k ≤ xs.length → ((kraft xs k m : Nat) : Int) ≤ costs (xs.take k)
  | 0, _ => by
    have : kraft xs 0 m = 0 := by
      unfold kraft
      rw [Huf.sumTo_congr (g := fun _ => 0) m (fun t _ => by rw [show symsAt xs 0 (t + 1) = [] from rfl]; simp), Huf.sumTo_const]; simp
    rw [this]; simp [costs]
  | k + 1, h => by
    have ih := kraft_le xs m hm k (by omega)
    rw [kraft_step xs k m hm, costs_snoc xs k (by omega)]
    have h1 : ((if 1 ≤ xs.getD k 0 ∧ xs.getD k 0 ≤ (m : Int) then 2 ^ (15 - xs.getD k 0).toNat else 0 : Nat) : Int) ≤ costOf (xs.getD k 0) := by
      by_cases h2 : 1 ≤ xs.getD k 0 ∧ xs.getD k 0 ≤ (m : Int)
      · rw [if_pos h2]
        unfold costOf
        rw [if_pos (by omega)]
        simp
      · rw [if_neg h2]
        exact (costOf_le _).1
    omega
theorem NN_kraft (xs : List Int) : ∀ m, m ≤ 15 → NN xs m * 2 ^ (15 - m) = kraft xs xs.length m
  | 0, _ => by simp [NN, kraft, Huf.sumTo]
  | m + 1, h => by
    have ih := NN_kraft xs m (by omega)
    unfold kraft at ih ⊢
    rw [Huf.sumTo, ← ih, NN, Nat.add_mul, show 15 - m = (14 - m) + 1 by omega, show 15 - (m + 1) = 14 - m by omega, Nat.pow_succ]
    congr 1
    rw [Nat.mul_comm 2 (NN xs m), Nat.mul_assoc, Nat.mul_comm 2]
theorem NN_le (xs : List Int) (hc : costs xs ≤ 32768) (m : Nat) (hm : m ≤ 15) : NN xs m ≤ 2 ^ m := by
  have h1 := kraft_le xs m hm xs.length (Nat.le_refl _)
  rw [List.take_length, ← NN_kraft xs m hm] at h1
  have h2 : NN xs m * 2 ^ (15 - m) ≤ 2 ^ m * 2 ^ (15 - m) := by
    rw [← Nat.pow_add, show m + (15 - m) = 15 by omega]
    show _ ≤ 32768
    omega
  exact Nat.le_of_mul_le_mul_right h2 (Nat.two_pow_pos _)
theorem NN_up (xs : List Int) (n : Nat) : ∀ d, 2 ^ d * NN xs n ≤ NN xs (n + d)
  | 0 => by simp
  | d + 1 => by
    have ih := NN_up xs n d
    rw [show n + (d + 1) = n + d + 1 by omega, NN, Nat.pow_succ, Nat.mul_comm (2 ^ d) 2, Nat.mul_assoc]
    omega
/-- What is asked of lengths: none beyond 15, room for all. -/
structure Whole (xs : List Int) : Prop where
  n : xs.length ≤ 400
  all : ∀ i, i < xs.length → 0 ≤ xs.getD i 0 ∧ xs.getD i 0 ≤ 15
  room : costs xs ≤ 32768
/-- A symbol's code, as a number. -/
theorem code_nat {xs : List Int} (h : Whole xs) {i l : Nat} (hi : i < xs.length) (hx : xs.getD i 0 = (l : Int)) (hl : 1 ≤ l) :
    (codesL xs).getD i 0 = ((2 * NN xs (l - 1) + (symsAt xs i l).length : Nat) : Int) ∧ 2 * NN xs (l - 1) + (symsAt xs i l).length < NN xs l ∧ l ≤ 15 := by
  have h15 := (h.all i hi).2
  obtain ⟨m, rfl⟩ : ∃ m, l = m + 1 := ⟨l - 1, by omega⟩
  have h1 := code_at xs h.n i m (by omega) hi (by rw [hx]; rfl)
  rw [start_NN xs h.n m (by omega)] at h1
  have h2 := (List.getElem?_eq_some_iff.1 (symsAt_pos xs (m + 1) (by omega) xs.length i hi hx)).1
  refine ⟨by rw [h1, show m + 1 - 1 = m by omega]; omega, ?_, by omega⟩
  rw [show m + 1 - 1 = m by omega, NN]; omega
theorem symsAt_lt {xs : List Int} {l i j : Nat} (hij : i < j) (hx : xs.getD i 0 = (l : Int)) (hl : 0 < l) : (symsAt xs i l).length < (symsAt xs j l).length :=
  (List.getElem?_eq_some_iff.1 (symsAt_pos xs l hl j i hij hx)).1
/-- The code of a symbol. -/
def codeN (xs : List Int) (i : Nat) : Nat := ((codesL xs).getD i 0).toNat
theorem codeN_lt {xs : List Int} (h : Whole xs) {i l : Nat} (hi : i < xs.length) (hx : xs.getD i 0 = (l : Int)) (hl : 1 ≤ l) : codeN xs i < 2 ^ l := by
  obtain ⟨h1, h2, h3⟩ := code_nat h hi hx hl
  have := NN_le xs h.room l h3
  unfold codeN
  rw [h1]; omega
theorem hit_code {xs : List Int} (h : Whole xs) {i l : Nat} (hi : i < xs.length) (hx : xs.getD i 0 = (l : Int)) (hl : 1 ≤ l) : hit xs l (codeN xs i : Int) xs.length = some i := by
  obtain ⟨h1, h2, h3⟩ := code_nat h hi hx hl
  have hc : ((codeN xs i : Nat) : Int) = (codesL xs).getD i 0 := by unfold codeN; rw [h1]; omega
  cases hh : hit xs l (codeN xs i : Int) xs.length with
  | none => exact absurd ⟨hx, by omega, hc.symm⟩ (hit_none xs l _ xs.length hh i hi)
  | some j =>
    obtain ⟨g1, g2, g3, g4⟩ := hit_some xs l _ xs.length j hh
    obtain ⟨k1, k2, k3⟩ := code_nat h g1 g2 hl
    rw [hc, h1, k1] at g4
    rcases Nat.lt_trichotomy i j with hij | hij | hij
    · have := symsAt_lt hij hx (by omega); omega
    · rw [hij]
    · have := symsAt_lt hij g2 (by omega); omega
theorem hit_early {xs : List Int} (h : Whole xs) {i l n : Nat} (hi : i < xs.length) (hx : xs.getD i 0 = (l : Int)) (hn : n < l) : hit xs n ((codeN xs i / 2 ^ (l - n) : Nat) : Int) xs.length = none := by
  obtain ⟨h1, h2, h3⟩ := code_nat h hi hx (by omega)
  cases hh : hit xs n ((codeN xs i / 2 ^ (l - n) : Nat) : Int) xs.length with
  | none => rfl
  | some j =>
    exfalso
    obtain ⟨g1, g2, g3, g4⟩ := hit_some xs n _ xs.length j hh
    obtain ⟨k1, k2, k3⟩ := code_nat h g1 g2 (by omega)
    have hc : codeN xs i = 2 * NN xs (l - 1) + (symsAt xs i l).length := by unfold codeN; rw [h1]; omega
    have h4 := NN_up xs n (l - 1 - n)
    rw [show n + (l - 1 - n) = l - 1 by omega] at h4
    have h5 : NN xs n ≤ codeN xs i / 2 ^ (l - n) := by
      rw [Nat.le_div_iff_mul_le (Nat.two_pow_pos _), show l - n = (l - 1 - n) + 1 by omega, Nat.pow_succ, Nat.mul_comm, Nat.mul_comm (2 ^ _) 2, Nat.mul_assoc]
      omega
    rw [k1] at g4
    omega
theorem some_early {xs : List Int} (h : Whole xs) {i l n : Nat} (hi : i < xs.length) (hx : xs.getD i 0 = (l : Int)) (hn : n < l) : someB xs n ((codeN xs i / 2 ^ (l - n) : Nat) : Int) xs.length = true := by
  obtain ⟨h1, h2, h3⟩ := code_nat h hi hx (by omega)
  refine (someB_iff xs n _ _).2 ⟨i, hi, by rw [hx]; omega, ?_⟩
  have hc : (codesL xs).getD i 0 = ((codeN xs i : Nat) : Int) := by unfold codeN; rw [h1]; omega
  rw [hc, hx, show ((l : Int) - (n : Int)).toNat = l - n by omega]
  simp
/-- What stands behind one another is read as it was put. -/
theorem rd_code {xs bs : List Int} (h : Whole xs) {i l p : Nat} (hi : i < xs.length) (hx : xs.getD i 0 = (l : Int)) (hl : 1 ≤ l) (hp : p + l ≤ 8 * bs.length) (hb : ∀ j, j < l → bitAt bs (p + j) = ((codeN xs i / 2 ^ (l - 1 - j) % 2 : Nat) : Int)) :
    rd xs bs 15 0 p = ((i : Int), 0, p + l) := by
  have hlt := codeN_lt h hi hx hl
  obtain ⟨_, _, h15⟩ := code_nat h hi hx hl
  suffices ∀ d n, n + d = l → rd xs bs (15 - n) ((codeN xs i / 2 ^ (l - n) : Nat) : Int) (p + n) = ((i : Int), 0, p + l) by
    have h0 := this l 0 (by omega)
    rw [Nat.sub_zero, Nat.sub_zero, Nat.div_eq_of_lt hlt] at h0
    exact h0
  intro d
  induction d with
  | zero =>
    intro n hn
    obtain rfl : n = l := by omega
    rw [Nat.sub_self, Nat.pow_zero, Nat.div_one]
    exact rd_hit xs bs n _ _ i h15 (hit_code h hi hx hl)
  | succ d ih =>
    intro n hn
    rw [rd_next xs bs n _ _ (by omega) (hit_early h hi hx (by omega)) (some_early h hi hx (by omega)) (by omega), hb n (by omega)]
    have e : 2 * ((codeN xs i / 2 ^ (l - n) : Nat) : Int) + ((codeN xs i / 2 ^ (l - 1 - n) % 2 : Nat) : Int) = ((codeN xs i / 2 ^ (l - (n + 1)) : Nat) : Int) := by
      rw [show l - n = (l - 1 - n) + 1 by omega, show l - (n + 1) = l - 1 - n by omega, Nat.pow_succ, ← Nat.div_div_eq_div_mul]
      omega
    rw [e]
    exact ih (n + 1) (by omega)
/-- Bits as a number, the lowest first. -/
def valB : List Nat → Nat
  | [] => 0
  | b :: l => b + 2 * valB l
def Bits01 (l : List Nat) : Prop := ∀ b ∈ l, b ≤ 1
theorem valB_lt : ∀ (l : List Nat), Bits01 l → valB l < 2 ^ l.length
  | [], _ => by decide
  | b :: l, h => by
    have h1 := h b (by simp)
    have h2 := valB_lt l (fun x hx => h x (by simp [hx]))
    rw [valB, List.length_cons, Nat.pow_succ]; omega
theorem valB_snoc : ∀ (l : List Nat) (b : Nat), valB (l ++ [b]) = valB l + b * 2 ^ l.length
  | [], b => by simp [valB]
  | a :: l, b => by
    rw [List.cons_append, valB, valB, valB_snoc l b, List.length_cons, Nat.pow_succ, Nat.mul_add, ← Nat.mul_assoc b, Nat.mul_comm 2 (b * 2 ^ l.length)]
    omega
theorem valB_at : ∀ (l : List Nat), Bits01 l → ∀ j, valB l / 2 ^ j % 2 = l.getD j 0
  | [], _, j => by simp [valB]
  | b :: l, h, 0 => by
    have h1 := h b (by simp)
    rw [valB, Nat.pow_zero, Nat.div_one, List.getD_cons_zero]; omega
  | b :: l, h, j + 1 => by
    have h1 := h b (by simp)
    rw [valB, List.getD_cons_succ, ← valB_at l (fun x hx => h x (by simp [hx])) j, Nat.pow_succ, Nat.mul_comm (2 ^ j) 2, ← Nat.div_div_eq_div_mul, show (b + 2 * valB l) / 2 = valB l by omega]
/-- Bytes B and bits r that are no byte yet hold the bits ws. -/
structure Holds (B : List Nat) (r ws : List Nat) : Prop where
  len : ws.length = 8 * B.length + r.length
  r8 : r.length < 8
  r01 : Bits01 r
  b256 : ∀ x ∈ B, x < 256
  lo : ∀ p, p < 8 * B.length → B.getD (p / 8) 0 / 2 ^ (p % 8) % 2 = ws.getD p 0
  hi : ∀ j, j < r.length → r.getD j 0 = ws.getD (8 * B.length + j) 0
theorem Holds.nil : Holds [] [] [] := ⟨rfl, by decide, (fun _ h => by cases h), (fun _ h => by cases h), (fun p h => absurd h (Nat.not_lt_zero _)), (fun j h => absurd h (Nat.not_lt_zero _))⟩
theorem getD_left {l : List Nat} (m : List Nat) {p : Nat} (h : p < l.length) : (l ++ m).getD p 0 = l.getD p 0 := by rw [List.getD_eq_getElem?_getD, List.getD_eq_getElem?_getD, List.getElem?_append_left h]
theorem Holds.short {B r ws : List Nat} (h : Holds B r ws) {b : Nat} (hb : b ≤ 1) (h7 : r.length < 7) : Holds B (r ++ [b]) (ws ++ [b]) := by
  have hl := h.len
  refine ⟨by simp; omega, by simp; omega, ?_, h.b256, ?_, ?_⟩
  · intro x hx
    rcases List.mem_append.1 hx with hx | hx
    · exact h.r01 x hx
    · rw [List.mem_singleton.1 hx]; exact hb
  · intro p hp
    rw [getD_left _ (by omega)]; exact h.lo p hp
  · intro j hj
    simp only [List.length_append, List.length_singleton] at hj
    rcases Nat.lt_or_ge j r.length with hj2 | hj2
    · rw [getD_left _ hj2, getD_left _ (by omega)]; exact h.hi j hj2
    · obtain rfl : j = r.length := by omega
      rw [← hl]; simp
theorem Holds.full {B r ws : List Nat} (h : Holds B r ws) {b : Nat} (hb : b ≤ 1) (h7 : r.length = 7) : Holds (B ++ [valB (r ++ [b])]) [] (ws ++ [b]) := by
  have hl := h.len
  have h01 : Bits01 (r ++ [b]) := by
    intro x hx
    rcases List.mem_append.1 hx with hx | hx
    · exact h.r01 x hx
    · rw [List.mem_singleton.1 hx]; exact hb
  have hv := valB_lt _ h01
  rw [List.length_append, h7] at hv
  refine ⟨by simp; omega, by decide, (fun _ h => by cases h), ?_, ?_, (fun j h => absurd h (Nat.not_lt_zero _))⟩
  · intro x hx
    rcases List.mem_append.1 hx with hx | hx
    · exact h.b256 x hx
    · rw [List.mem_singleton.1 hx]; exact hv
  · intro p hp
    simp only [List.length_append, List.length_singleton] at hp
    rcases Nat.lt_or_ge p (8 * B.length) with hp2 | hp2
    · rw [getD_left _ (by omega), getD_left _ (by omega)]; exact h.lo p hp2
    · have e : p / 8 = B.length := by omega
      have e2 : (B ++ [valB (r ++ [b])]).getD (p / 8) 0 = valB (r ++ [b]) := by rw [e]; simp
      rw [e2, valB_at _ h01]
      rcases Nat.lt_or_ge (p % 8) 7 with h8 | h8
      · rw [getD_left _ (by omega), getD_left _ (by omega), h.hi _ (by omega)]
        congr 1; omega
      · have e3 : p % 8 = r.length := by omega
        have e4 : p = ws.length := by omega
        rw [e3, e4]; simp
/-- All bytes at last. -/
def bytesB (B r : List Nat) : List Nat := if r = [] then B else B ++ [valB r]
theorem Holds.at_ {B r ws : List Nat} (h : Holds B r ws) : ws.length ≤ 8 * (bytesB B r).length ∧ (∀ x ∈ bytesB B r, x < 256) ∧ ∀ p, p < ws.length → (bytesB B r).getD (p / 8) 0 / 2 ^ (p % 8) % 2 = ws.getD p 0 := by
  have hl := h.len
  have h8 := h.r8
  unfold bytesB
  by_cases hr : r = []
  · subst hr
    rw [if_pos rfl]
    simp only [List.length_nil] at hl
    exact ⟨by omega, h.b256, fun p hp => h.lo p (by omega)⟩
  · rw [if_neg hr]
    have hv := valB_lt r h.r01
    have hp8 : 2 ^ r.length ≤ 2 ^ 8 := Nat.pow_le_pow_right (by decide) (by omega)
    refine ⟨by simp; omega, ?_, ?_⟩
    · intro x hx
      rcases List.mem_append.1 hx with hx | hx
      · exact h.b256 x hx
      · rw [List.mem_singleton.1 hx]; omega
    · intro p hp
      rcases Nat.lt_or_ge p (8 * B.length) with hp2 | hp2
      · rw [getD_left _ (by omega)]; exact h.lo p hp2
      · have e : p / 8 = B.length := by omega
        have e2 : (B ++ [valB r]).getD (p / 8) 0 = valB r := by rw [e]; simp
        rw [e2, valB_at _ h.r01, h.hi _ (by omega)]
        congr 1; omega
theorem bitAt_nat (l : List Nat) (p : Nat) : bitAt (l.map fun (x : Nat) => (x : Int)) p = ((l.getD (p / 8) 0 / 2 ^ (p % 8) % 2 : Nat) : Int) := by
  unfold bitAt
  have : (l.map fun (x : Nat) => (x : Int)).getD (p / 8) 0 = ((l.getD (p / 8) 0 : Nat) : Int) := by
    rw [List.getD_eq_getElem?_getD, List.getD_eq_getElem?_getD, List.getElem?_map]
    cases l[p / 8]? <;> rfl
  rw [this]
  simp
/-- The bits of a number, the highest first. -/
def hiBits (v n : Nat) : List Nat := (List.range n).map fun j => v / 2 ^ (n - 1 - j) % 2
theorem hiBits_length (v n : Nat) : (hiBits v n).length = n := by simp [hiBits]
theorem hiBits_at {v n j : Nat} (h : j < n) : (hiBits v n).getD j 0 = v / 2 ^ (n - 1 - j) % 2 := by
  unfold hiBits
  rw [List.getD_eq_getElem?_getD, List.getElem?_map, List.getElem?_range h]; rfl
/-- The bits of symbols that are put behind one another. -/
def textBits (xs : List Int) (put : List Nat) : List Nat := put.flatMap fun i => hiBits (codeN xs i) (xs.getD i 0).toNat
theorem textBits_snoc (xs : List Int) (put : List Nat) (i : Nat) : textBits xs (put ++ [i]) = textBits xs put ++ hiBits (codeN xs i) (xs.getD i 0).toNat := by unfold textBits; rw [List.flatMap_append]; simp
/-- The k-th symbol is read. -/
theorem rd_text {xs : List Int} (h : Whole xs) {put : List Nat} (hput : ∀ i ∈ put, i < xs.length ∧ 1 ≤ xs.getD i 0) {bs : List Nat} (hlen : (textBits xs put).length ≤ 8 * bs.length) (hbits : ∀ p, p < (textBits xs put).length → bs.getD (p / 8) 0 / 2 ^ (p % 8) % 2 = (textBits xs put).getD p 0) {k i : Nat} (hk : put[k]? = some i) :
    rd xs (bs.map fun (x : Nat) => (x : Int)) 15 0 (textBits xs (put.take k)).length = ((i : Int), 0, (textBits xs (put.take (k + 1))).length) := by
  obtain ⟨hi, h1⟩ := hput i (List.mem_of_getElem? hk)
  obtain ⟨l, hl⟩ : ∃ l : Nat, xs.getD i 0 = (l : Int) := ⟨(xs.getD i 0).toNat, by omega⟩
  have hkl := (List.getElem?_eq_some_iff.1 hk).1
  have e1 : textBits xs (put.take (k + 1)) = textBits xs (put.take k) ++ hiBits (codeN xs i) l := by
    rw [List.take_add_one, hk, Option.toList_some, textBits_snoc, hl]; rfl
  have e2 : textBits xs put = textBits xs (put.take (k + 1)) ++ textBits xs (put.drop (k + 1)) := by
    unfold textBits
    rw [← List.flatMap_append, List.take_append_drop]
  have e3 : (textBits xs (put.take (k + 1))).length = (textBits xs (put.take k)).length + l := by rw [e1, List.length_append, hiBits_length]
  rw [e3]
  have hle : (textBits xs (put.take k)).length + l ≤ (textBits xs put).length := by rw [e2, List.length_append, e3]; omega
  refine rd_code h hi hl (by omega) (by rw [List.length_map]; omega) (fun j hj => ?_)
  rw [bitAt_nat, hbits _ (by omega)]
  congr 1
  rw [e2, getD_left _ (by omega), e1, List.getD_eq_getElem?_getD, List.getElem?_append_right (by omega), Nat.add_sub_cancel_left, ← List.getD_eq_getElem?_getD, hiBits_at hj]
end Go.Proofs.Ytoeipgbnjcgbjaa
