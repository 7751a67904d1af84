/- The document's writer of bits: one, Put, Code. -/
import Derived.Test.YtoeipgbnjcgbjaaInfN
import Derived.Test.YtoeipgbnjcgbjaaReadMath
import Derived.Test.YtoeipgbnjcgbjaaPh
import Derived.Test.YtoeipgbnjcgbjaaChg
namespace Go.Proofs.Ytoeipgbnjcgbjaa.Huf
def sumTo (f : Nat → Nat) : Nat → Nat
  | 0 => 0
  | n + 1 => sumTo f n + f n
theorem sumTo_congr {f g : Nat → Nat} : ∀ (n : Nat), (∀ t, t < n → f t = g t) → sumTo f n = sumTo g n
  | 0, _ => rfl
  | n + 1, h => by rw [sumTo, sumTo, sumTo_congr n (fun t ht => h t (by omega)), h n (by omega)]
theorem sumTo_add (f g : Nat → Nat) : ∀ n, sumTo (fun t => f t + g t) n = sumTo f n + sumTo g n
  | 0 => rfl
  | n + 1 => by rw [sumTo, sumTo, sumTo, sumTo_add f g n]; omega
theorem sumTo_const (c : Nat) : ∀ n, sumTo (fun _ => c) n = n * c
  | 0 => by simp [sumTo]
  | n + 1 => by rw [sumTo, sumTo_const c n, Nat.succ_mul]
theorem sumTo_if (c a : Nat) : ∀ n, c ≤ n → sumTo (fun t => if t < c then a else 0) n = c * a
  | 0, h => by obtain rfl : c = 0 := by omega
               simp [sumTo]
  | n + 1, h => by
    rw [sumTo]
    rcases Nat.lt_or_ge n c with h1 | h1
    · obtain rfl : c = n + 1 := by omega
      rw [if_pos (by omega), sumTo_congr (g := fun _ => a) n (fun t ht => if_pos (by omega)), sumTo_const, Nat.succ_mul]
    · rw [if_neg (by omega), sumTo_if c a n h1]; omega
end Go.Proofs.Ytoeipgbnjcgbjaa.Huf
namespace Go.Proofs.Ytoeipgbnjcgbjaa
open Go.RowKit
set_option linter.unusedVariables false

/-- The first code behind those of length m. -/
def NN (xs : List Int) : Nat → Nat
  | 0 => 0
  | m + 1 => 2 * NN xs m + (symsAt xs xs.length (m + 1)).length
theorem outr_NN (xs : List Int) (hn : xs.length ≤ 400) : ∀ m, m ≤ 15 → (outr xs m).2 = (NN xs m : Int)
  | 0, _ => rfl
  | m + 1, h => by
    obtain ⟨h0, h1⟩ := outr_next xs hn m (by omega)
    have hp : 2 ^ m ≤ 2 ^ 14 := Nat.pow_le_pow_right (by decide) (by omega)
    have hs : sh1 (outr xs m).2 = (outr xs m).2 * 2 := by unfold sh1; omega
    rw [outr, inn_next xs m _ (by simp only; rw [hs]; omega) (by simp only; rw [hs]; omega) xs.length (Nat.le_refl _)]
    simp only
    rw [hs, outr_NN xs hn m (by omega), NN]
    omega
theorem start_NN (xs : List Int) (hn : xs.length ≤ 400) (m : Nat) (hm : m ≤ 14) : start xs m = ((2 * NN xs m : Nat) : Int) := by
  obtain ⟨h0, h1⟩ := outr_next xs hn m (by omega)
  have hp : 2 ^ m ≤ 2 ^ 14 := Nat.pow_le_pow_right (by decide) (by omega)
  have h2 := outr_NN xs hn m (by omega)
  unfold start sh1
  omega
def kraft (xs : List Int) (k m : Nat) : Nat := Huf.sumTo (fun l => (symsAt xs k (l + 1)).length * 2 ^ (14 - l)) m
theorem kraft_step (xs : List Int) (k : Nat) : ∀ m, m ≤ 15 → kraft xs (k + 1) m = kraft xs k m + (if 1 ≤ xs.getD k 0 ∧ xs.getD k 0 ≤ (m : Int) then 2 ^ (15 - xs.getD k 0).toNat else 0)
  | 0, _ => by unfold kraft; rw [if_neg (by omega)]; rfl
  | m + 1, h => by
    have ih := kraft_step xs k m (by omega)
    unfold kraft at ih ⊢
    rw [Huf.sumTo, Huf.sumTo, ih]
    by_cases hx : xs.getD k 0 = (m : Int) + 1
    · rw [symsAt_eq xs k (m + 1) (by rw [hx]; rfl) (by omega), List.length_append, List.length_singleton, hx, if_neg (by omega), if_pos (by omega), show (15 - ((m : Int) + 1)).toNat = 14 - m by omega, Nat.add_mul]
      omega
    · rw [symsAt_ne xs k (m + 1) (by intro h'; exact hx (by rw [h']; rfl))]
      by_cases h2 : 1 ≤ xs.getD k 0 ∧ xs.getD k 0 ≤ (m : Int)
      · rw [if_pos h2, if_pos (by omega)]; omega
      · rw [if_neg h2, if_neg (by omega)]; omega
theorem kraft_le (xs : List Int) (m : Nat) (hm : m ≤ 15) : ∀ k, k ≤ xs.length → ((kraft xs k m : Nat) : Int) ≤ costs (xs.take k)
  | 0, _ => by
    have : kraft xs 0 m = 0 := by
      unfold kraft
      rw [Huf.sumTo_congr (g := fun _ => 0) m (fun t _ => by rw [show symsAt xs 0 (t + 1) = [] from rfl]; simp), Huf.sumTo_const]; simp
    rw [this]; simp [costs]
  | k + 1, h => by
    have ih := kraft_le xs m hm k (by omega)
    rw [kraft_step xs k m hm, costs_snoc xs k (by omega)]
    have h1 : ((if 1 ≤ xs.getD k 0 ∧ xs.getD k 0 ≤ (m : Int) then 2 ^ (15 - xs.getD k 0).toNat else 0 : Nat) : Int) ≤ costOf (xs.getD k 0) := by
      by_cases h2 : 1 ≤ xs.getD k 0 ∧ xs.getD k 0 ≤ (m : Int)
      · rw [if_pos h2]
        unfold costOf
        rw [if_pos (by omega)]
        simp
      · rw [if_neg h2]
        exact (costOf_le _).1
    omega
theorem NN_kraft (xs : List Int) : ∀ m, m ≤ 15 → NN xs m * 2 ^ (15 - m) = kraft xs xs.length m
  | 0, _ => by simp [NN, kraft, Huf.sumTo]
  | m + 1, h => by
    have ih := NN_kraft xs m (by omega)
    unfold kraft at ih ⊢
    rw [Huf.sumTo, ← ih, NN, Nat.add_mul, show 15 - m = (14 - m) + 1 by omega, show 15 - (m + 1) = 14 - m by omega, Nat.pow_succ]
    congr 1
    rw [Nat.mul_comm 2 (NN xs m), Nat.mul_assoc, Nat.mul_comm 2]
theorem NN_le (xs : List Int) (hc : costs xs ≤ 32768) (m : Nat) (hm : m ≤ 15) : NN xs m ≤ 2 ^ m := by
  have h1 := kraft_le xs m hm xs.length (Nat.le_refl _)
  rw [List.take_length, ← NN_kraft xs m hm] at h1
  have h2 : NN xs m * 2 ^ (15 - m) ≤ 2 ^ m * 2 ^ (15 - m) := by
    rw [← Nat.pow_add, show m + (15 - m) = 15 by omega]
    show _ ≤ 32768
    omega
  exact Nat.le_of_mul_le_mul_right h2 (Nat.two_pow_pos _)
theorem NN_up (xs : List Int) (n : Nat) : ∀ d, 2 ^ d * NN xs n ≤ NN xs (n + d)
  | 0 => by simp
  | d + 1 => by
    have ih := NN_up xs n d
    rw [show n + (d + 1) = n + d + 1 by omega, NN, Nat.pow_succ, Nat.mul_comm (2 ^ d) 2, Nat.mul_assoc]
    omega
/-- What is asked of lengths: none beyond 15, room for all. -/
structure Whole (xs : List Int) : Prop where
  n : xs.length ≤ 400
  all : ∀ i, i < xs.length → 0 ≤ xs.getD i 0 ∧ xs.getD i 0 ≤ 15
  room : costs xs ≤ 32768
/-- A symbol's code, as a number. -/
theorem code_nat {xs : List Int} (h : Whole xs) {i l : Nat} (hi : i < xs.length) (hx : xs.getD i 0 = (l : Int)) (hl : 1 ≤ l) :
    (codesL xs).getD i 0 = ((2 * NN xs (l - 1) + (symsAt xs i l).length : Nat) : Int) ∧ 2 * NN xs (l - 1) + (symsAt xs i l).length < NN xs l ∧ l ≤ 15 := by
  have h15 := (h.all i hi).2
  obtain ⟨m, rfl⟩ : ∃ m, l = m + 1 := ⟨l - 1, by omega⟩
  have h1 := code_at xs h.n i m (by omega) hi (by rw [hx]; rfl)
  rw [start_NN xs h.n m (by omega)] at h1
  have h2 := (List.getElem?_eq_some_iff.1 (symsAt_pos xs (m + 1) (by omega) xs.length i hi hx)).1
  refine ⟨by rw [h1, show m + 1 - 1 = m by omega]; omega, ?_, by omega⟩
  rw [show m + 1 - 1 = m by omega, NN]; omega
theorem symsAt_lt {xs : List Int} {l i j : Nat} (hij : i < j) (hx : xs.getD i 0 = (l : Int)) (hl : 0 < l) : (symsAt xs i l).length < (symsAt xs j l).length :=
  (List.getElem?_eq_some_iff.1 (symsAt_pos xs l hl j i hij hx)).1
/-- The code of a symbol. -/
def codeN (xs : List Int) (i : Nat) : Nat := ((codesL xs).getD i 0).toNat
theorem codeN_lt {xs : List Int} (h : Whole xs) {i l : Nat} (hi : i < xs.length) (hx : xs.getD i 0 = (l : Int)) (hl : 1 ≤ l) : codeN xs i < 2 ^ l := by
  obtain ⟨h1, h2, h3⟩ := code_nat h hi hx hl
  have := NN_le xs h.room l h3
  unfold codeN
  rw [h1]; omega
theorem hit_code {xs : List Int} (h : Whole xs) {i l : Nat} (hi : i < xs.length) (hx : xs.getD i 0 = (l : Int)) (hl : 1 ≤ l) : hit xs l (codeN xs i : Int) xs.length = some i := by
  obtain ⟨h1, h2, h3⟩ := code_nat h hi hx hl
  have hc : ((codeN xs i : Nat) : Int) = (codesL xs).getD i 0 := by unfold codeN; rw [h1]; omega
  cases hh : hit xs l (codeN xs i : Int) xs.length with
  | none => exact absurd ⟨hx, by omega, hc.symm⟩ (hit_none xs l _ xs.length hh i hi)
  | some j =>
    obtain ⟨g1, g2, g3, g4⟩ := hit_some xs l _ xs.length j hh
    obtain ⟨k1, k2, k3⟩ := code_nat h g1 g2 hl
    rw [hc, h1, k1] at g4
    rcases Nat.lt_trichotomy i j with hij | hij | hij
    · have := symsAt_lt hij hx (by omega); omega
    · rw [hij]
    · have := symsAt_lt hij g2 (by omega); omega
theorem hit_early {xs : List Int} (h : Whole xs) {i l n : Nat} (hi : i < xs.length) (hx : xs.getD i 0 = (l : Int)) (hn : n < l) : hit xs n ((codeN xs i / 2 ^ (l - n) : Nat) : Int) xs.length = none := by
  obtain ⟨h1, h2, h3⟩ := code_nat h hi hx (by omega)
  cases hh : hit xs n ((codeN xs i / 2 ^ (l - n) : Nat) : Int) xs.length with
  | none => rfl
  | some j =>
    exfalso
    obtain ⟨g1, g2, g3, g4⟩ := hit_some xs n _ xs.length j hh
    obtain ⟨k1, k2, k3⟩ := code_nat h g1 g2 (by omega)
    have hc : codeN xs i = 2 * NN xs (l - 1) + (symsAt xs i l).length := by unfold codeN; rw [h1]; omega
    have h4 := NN_up xs n (l - 1 - n)
    rw [show n + (l - 1 - n) = l - 1 by omega] at h4
    have h5 : NN xs n ≤ codeN xs i / 2 ^ (l - n) := by
      rw [Nat.le_div_iff_mul_le (Nat.two_pow_pos _), show l - n = (l - 1 - n) + 1 by omega, Nat.pow_succ, Nat.mul_comm, Nat.mul_comm (2 ^ _) 2, Nat.mul_assoc]
      omega
    rw [k1] at g4
    omega
theorem some_early {xs : List Int} (h : Whole xs) {i l n : Nat} (hi : i < xs.length) (hx : xs.getD i 0 = (l : Int)) (hn : n < l) : someB xs n ((codeN xs i / 2 ^ (l - n) : Nat) : Int) xs.length = true := by
  obtain ⟨h1, h2, h3⟩ := code_nat h hi hx (by omega)
  refine (someB_iff xs n _ _).2 ⟨i, hi, by rw [hx]; omega, ?_⟩
  have hc : (codesL xs).getD i 0 = ((codeN xs i : Nat) : Int) := by unfold codeN; rw [h1]; omega
  rw [hc, hx, show ((l : Int) - (n : Int)).toNat = l - n by omega]
  simp
/-- What stands behind one another is read as it was put. -/
theorem rd_code {xs bs : List Int} (h : Whole xs) {i l p : Nat} (hi : i < xs.length) (hx : xs.getD i 0 = (l : Int)) (hl : 1 ≤ l) (hp : p + l ≤ 8 * bs.length) (hb : ∀ j, j < l → bitAt bs (p + j) = ((codeN xs i / 2 ^ (l - 1 - j) % 2 : Nat) : Int)) :
    rd xs bs 15 0 p = ((i : Int), 0, p + l) := by
  have hlt := codeN_lt h hi hx hl
  obtain ⟨_, _, h15⟩ := code_nat h hi hx hl
  suffices ∀ d n, n + d = l → rd xs bs (15 - n) ((codeN xs i / 2 ^ (l - n) : Nat) : Int) (p + n) = ((i : Int), 0, p + l) by
    have h0 := this l 0 (by omega)
    rw [Nat.sub_zero, Nat.sub_zero, Nat.div_eq_of_lt hlt] at h0
    exact h0
  intro d
  induction d with
  | zero =>
    intro n hn
    obtain rfl : n = l := by omega
    rw [Nat.sub_self, Nat.pow_zero, Nat.div_one]
    exact rd_hit xs bs n _ _ i h15 (hit_code h hi hx hl)
  | succ d ih =>
    intro n hn
    rw [rd_next xs bs n _ _ (by omega) (hit_early h hi hx (by omega)) (some_early h hi hx (by omega)) (by omega), hb n (by omega)]
    have e : 2 * ((codeN xs i / 2 ^ (l - n) : Nat) : Int) + ((codeN xs i / 2 ^ (l - 1 - n) % 2 : Nat) : Int) = ((codeN xs i / 2 ^ (l - (n + 1)) : Nat) : Int) := by
      rw [show l - n = (l - 1 - n) + 1 by omega, show l - (n + 1) = l - 1 - n by omega, Nat.pow_succ, ← Nat.div_div_eq_div_mul]
      omega
    rw [e]
    exact ih (n + 1) (by omega)
/-- Bits as a number, the lowest first. -/
def valB : List Nat → Nat
  | [] => 0
  | b :: l => b + 2 * valB l
def Bits01 (l : List Nat) : Prop := ∀ b ∈ l, b ≤ 1
theorem valB_lt : ∀ (l : List Nat), Bits01 l → valB l < 2 ^ l.length
  | [], _ => by decide
  | b :: l, h => by
    have h1 := h b (by simp)
    have h2 := valB_lt l (fun x hx => h x (by simp [hx]))
    rw [valB, List.length_cons, Nat.pow_succ]; omega
theorem valB_snoc : ∀ (l : List Nat) (b : Nat), valB (l ++ [b]) = valB l + b * 2 ^ l.length
  | [], b => by simp [valB]
  | a :: l, b => by
    rw [List.cons_append, valB, valB, valB_snoc l b, List.length_cons, Nat.pow_succ, Nat.mul_add, ← Nat.mul_assoc b, Nat.mul_comm 2 (b * 2 ^ l.length)]
    omega
theorem valB_at : ∀ (l : List Nat), Bits01 l → ∀ j, valB l / 2 ^ j % 2 = l.getD j 0
  | [], _, j => by simp [valB]
  | b :: l, h, 0 => by
    have h1 := h b (by simp)
    rw [valB, Nat.pow_zero, Nat.div_one, List.getD_cons_zero]; omega
  | b :: l, h, j + 1 => by
    have h1 := h b (by simp)
    rw [valB, List.getD_cons_succ, ← valB_at l (fun x hx => h x (by simp [hx])) j, Nat.pow_succ, Nat.mul_comm (2 ^ j) 2, ← Nat.div_div_eq_div_mul, show (b + 2 * valB l) / 2 = valB l by omega]
/-- Bytes B and bits r that are no byte yet hold the bits ws. -/
structure Holds (B : List Nat) (r ws : List Nat) : Prop where
  len : ws.length = 8 * B.length + r.length
  r8 : r.length < 8
  r01 : Bits01 r
  b256 : ∀ x ∈ B, x < 256
  lo : ∀ p, p < 8 * B.length → B.getD (p / 8) 0 / 2 ^ (p % 8) % 2 = ws.getD p 0
  hi : ∀ j, j < r.length → r.getD j 0 = ws.getD (8 * B.length + j) 0
theorem Holds.nil : Holds [] [] [] := ⟨rfl, by decide, (fun _ h => by cases h), (fun _ h => by cases h), (fun p h => absurd h (Nat.not_lt_zero _)), (fun j h => absurd h (Nat.not_lt_zero _))⟩
theorem getD_left {l : List Nat} (m : List Nat) {p : Nat} (h : p < l.length) : (l ++ m).getD p 0 = l.getD p 0 := by rw [List.getD_eq_getElem?_getD, List.getD_eq_getElem?_getD, List.getElem?_append_left h]
theorem Holds.short {B r ws : List Nat} (h : Holds B r ws) {b : Nat} (hb : b ≤ 1) (h7 : r.length < 7) : Holds B (r ++ [b]) (ws ++ [b]) := by
  have hl := h.len
  refine ⟨by simp; omega, by simp; omega, ?_, h.b256, ?_, ?_⟩
  · intro x hx
    rcases List.mem_append.1 hx with hx | hx
    · exact h.r01 x hx
    · rw [List.mem_singleton.1 hx]; exact hb
  · intro p hp
    rw [getD_left _ (by omega)]; exact h.lo p hp
  · intro j hj
    simp only [List.length_append, List.length_singleton] at hj
    rcases Nat.lt_or_ge j r.length with hj2 | hj2
    · rw [getD_left _ hj2, getD_left _ (by omega)]; exact h.hi j hj2
    · obtain rfl : j = r.length := by omega
      rw [← hl]; simp
theorem Holds.full {B r ws : List Nat} (h : Holds B r ws) {b : Nat} (hb : b ≤ 1) (h7 : r.length = 7) : Holds (B ++ [valB (r ++ [b])]) [] (ws ++ [b]) := by
  have hl := h.len
  have h01 : Bits01 (r ++ [b]) := by
    intro x hx
    rcases List.mem_append.1 hx with hx | hx
    · exact h.r01 x hx
    · rw [List.mem_singleton.1 hx]; exact hb
  have hv := valB_lt _ h01
  rw [List.length_append, h7] at hv
  refine ⟨by simp; omega, by decide, (fun _ h => by cases h), ?_, ?_, (fun j h => absurd h (Nat.not_lt_zero _))⟩
  · intro x hx
    rcases List.mem_append.1 hx with hx | hx
    · exact h.b256 x hx
    · rw [List.mem_singleton.1 hx]; exact hv
  · intro p hp
    simp only [List.length_append, List.length_singleton] at hp
    rcases Nat.lt_or_ge p (8 * B.length) with hp2 | hp2
    · rw [getD_left _ (by omega), getD_left _ (by omega)]; exact h.lo p hp2
    · have e : p / 8 = B.length := by omega
      have e2 : (B ++ [valB (r ++ [b])]).getD (p / 8) 0 = valB (r ++ [b]) := by rw [e]; simp
      rw [e2, valB_at _ h01]
      rcases Nat.lt_or_ge (p % 8) 7 with h8 | h8
      · rw [getD_left _ (by omega), getD_left _ (by omega), h.hi _ (by omega)]
        congr 1; omega
      · have e3 : p % 8 = r.length := by omega
        have e4 : p = ws.length := by omega
        rw [e3, e4]; simp
/-- All bytes at last. -/
def bytesB (B r : List Nat) : List Nat := if r = [] then B else B ++ [valB r]
theorem Holds.at_ {B r ws : List Nat} (h : Holds B r ws) : ws.length ≤ 8 * (bytesB B r).length ∧ (∀ x ∈ bytesB B r, x < 256) ∧ ∀ p, p < ws.length → (bytesB B r).getD (p / 8) 0 / 2 ^ (p % 8) % 2 = ws.getD p 0 := by
  have hl := h.len
  have h8 := h.r8
  unfold bytesB
  by_cases hr : r = []
  · subst hr
    rw [if_pos rfl]
    simp only [List.length_nil] at hl
    exact ⟨by omega, h.b256, fun p hp => h.lo p (by omega)⟩
  · rw [if_neg hr]
    have hv := valB_lt r h.r01
    have hp8 : 2 ^ r.length ≤ 2 ^ 8 := Nat.pow_le_pow_right (by decide) (by omega)
    refine ⟨by simp; omega, ?_, ?_⟩
    · intro x hx
      rcases List.mem_append.1 hx with hx | hx
      · exact h.b256 x hx
      · rw [List.mem_singleton.1 hx]; omega
    · intro p hp
      rcases Nat.lt_or_ge p (8 * B.length) with hp2 | hp2
      · rw [getD_left _ (by omega)]; exact h.lo p hp2
      · have e : p / 8 = B.length := by omega
        have e2 : (B ++ [valB r]).getD (p / 8) 0 = valB r := by rw [e]; simp
        rw [e2, valB_at _ h.r01, h.hi _ (by omega)]
        congr 1; omega
theorem bitAt_nat (l : List Nat) (p : Nat) : bitAt (l.map fun (x : Nat) => (x : Int)) p = ((l.getD (p / 8) 0 / 2 ^ (p % 8) % 2 : Nat) : Int) := by
  unfold bitAt
  have : (l.map fun (x : Nat) => (x : Int)).getD (p / 8) 0 = ((l.getD (p / 8) 0 : Nat) : Int) := by
    rw [List.getD_eq_getElem?_getD, List.getD_eq_getElem?_getD, List.getElem?_map]
    cases l[p / 8]? <;> rfl
  rw [this]
  simp
/-- The bits of a number, the highest first. -/
def hiBits (v n : Nat) : List Nat := (List.range n).map fun j => v / 2 ^ (n - 1 - j) % 2
theorem hiBits_length (v n : Nat) : (hiBits v n).length = n := by simp [hiBits]
theorem hiBits_at {v n j : Nat} (h : j < n) : (hiBits v n).getD j 0 = v / 2 ^ (n - 1 - j) % 2 := by
  unfold hiBits
  rw [List.getD_eq_getElem?_getD, List.getElem?_map, List.getElem?_range h]; rfl
/-- The bits of symbols that are put behind one another. -/
def textBits (xs : List Int) (put : List Nat) : List Nat := put.flatMap fun i => hiBits (codeN xs i) (xs.getD i 0).toNat
theorem textBits_snoc (xs : List Int) (put : List Nat) (i : Nat) : textBits xs (put ++ [i]) = textBits xs put ++ hiBits (codeN xs i) (xs.getD i 0).toNat := by unfold textBits; rw [List.flatMap_append]; simp
/-- The k-th symbol is read. -/
theorem rd_text {xs : List Int} (h : Whole xs) {put : List Nat} (hput : ∀ i ∈ put, i < xs.length ∧ 1 ≤ xs.getD i 0) {bs : List Nat} (hlen : (textBits xs put).length ≤ 8 * bs.length) (hbits : ∀ p, p < (textBits xs put).length → bs.getD (p / 8) 0 / 2 ^ (p % 8) % 2 = (textBits xs put).getD p 0) {k i : Nat} (hk : put[k]? = some i) :
    rd xs (bs.map fun (x : Nat) => (x : Int)) 15 0 (textBits xs (put.take k)).length = ((i : Int), 0, (textBits xs (put.take (k + 1))).length) := by
  obtain ⟨hi, h1⟩ := hput i (List.mem_of_getElem? hk)
  obtain ⟨l, hl⟩ : ∃ l : Nat, xs.getD i 0 = (l : Int) := ⟨(xs.getD i 0).toNat, by omega⟩
  have hkl := (List.getElem?_eq_some_iff.1 hk).1
  have e1 : textBits xs (put.take (k + 1)) = textBits xs (put.take k) ++ hiBits (codeN xs i) l := by
    rw [List.take_add_one, hk, Option.toList_some, textBits_snoc, hl]; rfl
  have e2 : textBits xs put = textBits xs (put.take (k + 1)) ++ textBits xs (put.drop (k + 1)) := by
    unfold textBits
    rw [← List.flatMap_append, List.take_append_drop]
  have e3 : (textBits xs (put.take (k + 1))).length = (textBits xs (put.take k)).length + l := by rw [e1, List.length_append, hiBits_length]
  rw [e3]
  have hle : (textBits xs (put.take k)).length + l ≤ (textBits xs put).length := by rw [e2, List.length_append, e3]; omega
  refine rd_code h hi hl (by omega) (by rw [List.length_map]; omega) (fun j hj => ?_)
  rw [bitAt_nat, hbits _ (by omega)]
  congr 1
  rw [e2, getD_left _ (by omega), e1, List.getD_eq_getElem?_getD, List.getElem?_append_right (by omega), Nat.add_sub_cancel_left, ← List.getD_eq_getElem?_getD, hiBits_at hj]

theorem OwnS.setAtI {w : World} {g off cap : Nat} {base n j : Nat} {e : TypeId} {size : Nat} {xs : List Value} (h : OwnS w base e size (.slice (some ⟨g, off, none⟩) n cap) n xs) (hj : j < xs.length) (u : Value) :
    OwnS (w.setCell ⟨g, off + j, none⟩ u) base e size (.slice (some ⟨g, off, none⟩) n cap) n (xs.set j u) := by
  refine ⟨by rw [List.length_set]; exact h.1, ?_⟩
  rcases h.2 with ⟨hv, _⟩ | ⟨g', off', cap', cur, hv, hb, ⟨fr, hg, hf⟩, hn, hm, hs, ht⟩
  · cases hv
  · injection hv with hA _ hc
    injection hA with hA
    injection hA with h1 h2
    subst h1; subst h2; subst hc
    have hl := h.1
    have hmul : n * size ≤ cap * size := Nat.mul_le_mul_right _ hn
    refine .inr ⟨g, off, cap, cur.setIfInBounds (off + j) u, rfl, hb, ⟨fr, ?_, by rw [Array.size_setIfInBounds]; exact hf⟩, hn, hm, by rw [Array.size_setIfInBounds]; exact hs, ?_⟩
    · simp [World.setCell, Array.getElem?_modify, hg]
    · rw [Array.toList_setIfInBounds, ← ht]
      apply List.ext_getElem?
      intro i
      rw [List.getElem?_set, List.length_take, List.length_drop, Array.length_toList, List.getElem?_take, List.getElem?_take, List.getElem?_drop, List.getElem?_drop, List.getElem?_set, Array.length_toList]
      by_cases hij : j = i
      · subst hij
        rw [if_pos rfl, if_pos rfl, if_pos (by omega), if_pos (by omega), if_pos (by omega)]
      · rw [if_neg (show ¬ off + j = off + i by omega), if_neg hij]
theorem OwnS.freeI {w : World} {base n i : Nat} {e : TypeId} {xs : List Value} {g o c : Nat} (h : OwnS w base e 1 (.slice (some ⟨g, o, none⟩) n c) n xs) (hi : i < n) : w.frozen? ⟨g, o + i, none⟩ = false := by
  rcases h.2 with ⟨hv, _⟩ | ⟨g', off', cap', cur, hv, hb, ⟨⟨lo, hi'⟩, hg, hf⟩, hn, hm, hs, ht⟩
  · cases hv
  · injection hv with hA _ hc
    injection hA with hA
    injection hA with h1 h2
    subst h1; subst h2; subst hc
    simp only at hf
    simp only [World.frozen?, hg, Bool.and_eq_false_iff, decide_eq_false_iff_not]
    omega
/-- One store behind the reads. -/
def ISet5 (w0 : World) (a : Addr) (v : Value) : List Value → World → Prop
  | [], w => w = w0
  | _, w => w = w0.setCell a v
def wrF (v : Value) (n : Nat) (i : Nat) : Value := if i = 0 then v else .int .i64 n
def natV (l : List Nat) : List Value := l.map fun (x : Nat) => Value.int .u8 (x : Int)
/-- The writer in memory: it holds the bits ws. -/
def WrAt (g B0 : Nat) (w : World) (v : Value) (ws : List Nat) : Prop :=
  ∃ B r, Cel w g 70 2 (wrF v ws.length) ∧ OwnS w B0 5 1 v (bytesB B r).length (natV (bytesB B r)) ∧ Holds B r ws
theorem natV_len (l : List Nat) : (natV l).length = l.length := by simp [natV]
theorem wrF_set {g : Nat} {w : World} {v : Value} {n : Nat} (h : Cel w g 70 2 (wrF v n)) : (∀ m : Nat, Cel (w.setCell ⟨g, 1, none⟩ (.int .i64 m)) g 70 2 (wrF v m)) ∧ ∀ u, Cel (w.setCell ⟨g, 0, none⟩ u) g 70 2 (wrF u n) := by
  refine ⟨fun m => (h.set 1 _).congr (fun i hi => ?_), fun u => (h.set 0 _).congr (fun i hi => ?_)⟩ <;>
  · rcases i with _ | _ | i
    · rfl
    · rfl
    · omega
def OnePost (g B0 : Nat) (w : World) (ws : List Nat) (e : Ending) (w' : World) : Prop :=
  e = .returned (.tuple #[]) ∧ (∃ v', WrAt g B0 w' v' ws) ∧ Below B0 w w'
theorem bytesB_step {B r ws : List Nat} (h : Holds B r ws) {b : Nat} (hb : b ≤ 1) : ∃ B' r', Holds B' r' (ws ++ [b]) ∧ bytesB B' r' = B ++ [valB r + b * 2 ^ r.length] := by
  have hr := h.r8
  rcases Nat.lt_or_ge r.length 7 with h7 | h7
  · refine ⟨B, r ++ [b], h.short hb h7, ?_⟩
    unfold bytesB
    rw [if_neg (by simp), valB_snoc]
  · refine ⟨_, [], h.full hb (by omega), ?_⟩
    unfold bytesB
    rw [if_pos rfl, valB_snoc]
theorem set_last (B : List Nat) (a c : Nat) : (natV (B ++ [a])).set B.length (.int .u8 c) = natV (B ++ [c]) := by
  unfold natV
  simp
theorem u32_and1 (x : Nat) (hx : x < 4294967296) : bits .and .u32 (x : Int) 1 = ((x % 2 : Nat) : Int) := by
  have h1 : (BitVec.ofInt 32 1).toNat = 2 ^ 1 - 1 := by decide
  have key : (BitVec.ofInt 32 (x : Int) &&& BitVec.ofInt 32 1).toNat = x % 2 := by
    rw [BitVec.toNat_and, BitVec.toNat_ofInt, h1, Nat.and_two_pow_sub_one_eq_mod]
    omega
  show IntKind.u32.wrap ((BitVec.ofInt 32 (x : Int) &&& BitVec.ofInt 32 1).toNat : Nat) = _
  rw [key]
  show ((x % 2 : Nat) : Int) % 4294967296 = _
  omega
theorem u8_or_at (a b n : Nat) (ha : a < 2 ^ n) (hn : n ≤ 7) (hb : b ≤ 1) : bits .or .u8 (a : Int) ((b * 2 ^ n : Nat) : Int) = ((a + b * 2 ^ n : Nat) : Int) ∧ a + b * 2 ^ n < 256 ∧ b * 2 ^ n < 256 := by
  have hp : 2 ^ n ≤ 2 ^ 7 := Nat.pow_le_pow_right (by decide) hn
  have hb2 : b * 2 ^ n ≤ 1 * 2 ^ n := Nat.mul_le_mul_right _ hb
  refine ⟨?_, by omega, by omega⟩
  rw [u8_or_nat _ _ (by omega) (by omega), Nat.or_comm, Nat.mul_comm b, ← Nat.two_pow_add_eq_or_of_lt ha]
  omega
set_option maxRecDepth 100000 in
set_option maxHeartbeats 8000000 in
theorem refOneW_any (g B0 x : Nat) (w : World) (v : Value) (ws : List Nat) (h : WrAt g B0 w v ws) (hlen : ws.length ≤ 7000000) (hx : x < 4294967296) (hg : B0 ≤ g) :
    Calls Try.prog 68 #[.pointer (some ⟨g, 0, none⟩), .int .u32 x] w (OnePost g B0 w (ws ++ [x % 2])) := by
  obtain ⟨B, r, hcel, hown, hho⟩ := h
  have hb1 : x % 2 ≤ 1 := by omega
  obtain ⟨B', r', hho', hbb⟩ := bytesB_step hho hb1
  have hl := hho.len
  have hr8 := hho.r8
  have hvr := valB_lt r hho.r01
  obtain ⟨hor, hor2, hor3⟩ := u8_or_at (valB r) (x % 2) r.length hvr (by omega) hb1
  have a1 := u32_and1 x hx
  obtain ⟨b, hb⟩ : ∃ b, x % 2 = b := ⟨_, rfl⟩
  rw [hb] at hb1 hho' hbb hor hor2 hor3 a1 ⊢
  obtain ⟨n, hn⟩ : ∃ n, ws.length = n := ⟨_, rfl⟩
  have hnn : (ws ++ [b]).length = n + 1 := by rw [List.length_append, hn]; rfl
  obtain ⟨q, hq⟩ : ∃ q, B.length = q := ⟨_, rfl⟩
  obtain ⟨s, hs⟩ : ∃ s, r.length = s := ⟨_, rfl⟩
  obtain ⟨old, hold⟩ : ∃ old, valB r = old := ⟨_, rfl⟩
  obtain ⟨sh, hsh⟩ : ∃ sh, b * 2 ^ s = sh := ⟨_, rfl⟩
  have e1 : (n : Int) / 8 = (q : Int) := by omega
  have e2 : (n : Int) % 8 = (s : Int) := by omega
  have e1' : IntKind.i64.wrap ((n : Int) / 8) = (q : Int) := by rw [e1]; exact IntWalk.i64_in _ (by omega)
  have e2' : IntKind.i64.wrap ((n : Int) % 8) = (s : Int) := by rw [e2]; exact IntWalk.i64_in _ (by omega)
  have e3 : IntKind.i64.wrap ((n : Int) + 1) = ((n + 1 : Nat) : Int) := by rw [IntWalk.i64_in _ (by omega)]; omega
  have hn0 : (0 : Int) ≤ (n : Int) := by omega
  have e4 : IntKind.i64.wrap (q : Int) = (q : Int) := IntWalk.i64_in _ (by omega)
  have e6 : (n : Int).tmod 8 = (s : Int) := by rw [Int.tmod_eq_emod_of_nonneg hn0]; exact e2
  have e5 : IntKind.i64.wrap (s : Int) = (s : Int) := IntWalk.i64_in _ (by omega)
  have a2 : IntKind.u8.wrap (b : Int) = (b : Int) := by rw [IntKind.wrap_u8']; omega
  rw [hold, hs, hsh] at hor hor2 hbb
  rw [hs, hsh] at hor3
  have a3 : IntKind.u8.wrap ((b : Int) * 2 ^ s) = (sh : Int) := by rw [two_pow_cast, ← Int.natCast_mul, hsh, IntKind.wrap_u8']; omega
  obtain ⟨nw, hnw⟩ : ∃ nw, old + sh = nw := ⟨_, rfl⟩
  rw [hnw] at hor hor2 hbb
  have m8 : min s 8 = s := by omega
  have m64 : min s 64 = s := by omega
  have s0 : (0 : Int) ≤ (s : Int) := by omega
  have HEND : Hid (∀ (w' : World) (v' : Value), Cel w' g 70 2 (wrF v' (n + 1)) → OwnS w' B0 5 1 v' (q + 1) (natV (B ++ [nw])) → WrAt g B0 w' v' (ws ++ [b])) := Lib.hid fun w' v' h1 h2 => ⟨B', r', by rw [hnn]; exact h1, by rw [hbb]; rw [List.length_append, List.length_singleton, hq]; exact h2, hho'⟩
  have HSL := Lib.hid (set_last B old nw)
  rw [hq] at HSL
  by_cases hr : r = []
  · have hs0 : s = 0 := by rw [← hs, hr]; rfl
    have ho0 : old = 0 := by rw [← hold, hr]; rfl
    have hbz : bytesB B r = B := by unfold bytesB; rw [if_pos hr]
    rw [hbz, hq] at hown
    have e9 : ((s : Int) == 0) = true := by simp; omega
    rw [hn] at hcel
    obtain ⟨A0, c0, rfl⟩ := hown.shape
    have HO := Lib.hid (hown.alloc (.cells #[.int .u8 0] 5))
    have HC := Lib.hid (hcel.alloc (.cells #[.int .u8 0] 5))
    have hne := hown.ne_cel hcel (by decide)
    have k0 : w.cell? ⟨g, 0, none⟩ = some (.slice A0 q c0) := hcel.cell 0 (by decide)
    have k1 : w.cell? ⟨g, 1, none⟩ = some (.int .i64 n) := hcel.cell 1 (by decide)
    have hgs := hcel.blk
    have hqs : q ≤ 1000000 := by omega
    obtain ⟨i0, hi, hz0, hz1, hz2⟩ := info_parts Try.info_u8
    have HLT := Lib.hid hown.lt
    have HQ := Lib.hid hq
    have HO0 := Lib.hid ho0
    clear hs0 ho0
    clear hown hho hbz hl hr hs hold hsh hb hn hnn hq hho' hbb hvr
    go_enter Try.func68, Try.ntmps68
    go_wp2_with (at_builtin; go_loud (refine wpList_append_S rfl (.tmp 14) (.tmp 15) 22 22 rfl i0 (.int .u8 0) 1 (.slice 5) Try.underlying22 Try.underlying22 (fun _ h => by cases h) hi hz0 hz1 hz2 rfl rfl rfl HO.out (Src.one_new (u := .int .u8 0) rfl) (by unfold maxLen; omega) (by omega) (by simp; omega) ?_); intro A5 c5 w5 ho5 hg5 hw5; have hC5 := HC.out.grown hg5 hne; have f05 := hC5.frozen 0; have k05 : w5.cell? ⟨g, 0, none⟩ = some (.slice A0 q c0) := hC5.cell 0 (by decide))
    all_goals
      have hCt := (wrF_set hC5).2 (.slice A5 (q + 1) c5)
      have hOt := ho5.setFar (a := ⟨g, 0, none⟩) (ho5.ne_cel hC5 (by decide)) (.slice A5 (q + 1) c5)
      have hBt : Below B0 w (w5.setCell ⟨g, 0, none⟩ (.slice A5 (q + 1) c5)) := (((Below.refl B0 w).alloc (by omega) (.cells #[.int .u8 0] 5)).grown hg5 (by simp; omega) (fun k hk => (HLT.out k hk).1)).setCell hg (.slice A5 (q + 1) c5)
      have HCt := Lib.hid hCt
      have HOt : Hid (OwnS (w5.setCell ⟨g, 0, none⟩ (.slice A5 (q + 1) c5)) B0 5 1 (.slice A5 (q + 1) c5) (q + 1) (natV (B ++ [old]))) := Lib.hid (by have := hOt; rwa [show natV B ++ [Value.int .u8 0] = natV (B ++ [old]) by simp [natV, HO0.out]] at this)
      have HBt := Lib.hid hBt
      clear hCt hOt hBt ho5 hg5 hw5 hC5 k05 f05 HO HC HLT hne k0 k1
      generalize w5.setCell ⟨g, 0, none⟩ (.slice A5 (q + 1) c5) = wt at *
      obtain ⟨gr, o, c9, hv, hbr, hgr, hcells⟩ := HOt.out.cells (by rw [natV_len, List.length_append, List.length_singleton]; omega)
      have hne := HOt.out.ne_cel HCt.out (by decide)
      rw [hv] at HOt HCt hne
      have hv2 := hv
      injection hv2 with hv3 _ hv4
      obtain rfl : c9 = c5 := hv4.symm
      subst hv3
      clear hv
      have KO : Hid (wt.cell? ⟨gr, o + q, none⟩ = some (.int .u8 old)) := Lib.hid (by
        rw [hcells q (by rw [natV_len, List.length_append, List.length_singleton]; have := HQ.out; omega), ← HQ.out]
        simp [natV])
      have KF := Lib.hid (HOt.out.freeI (show q < q + 1 by omega))
      have K0 : Hid (wt.cell? ⟨g, 0, none⟩ = some (.slice (some ⟨gr, o, none⟩) (q + 1) c9)) := Lib.hid (HCt.out.cell 0 (by decide))
      have K1 : Hid (wt.cell? ⟨g, 1, none⟩ = some (.int .i64 n)) := Lib.hid (HCt.out.cell 1 (by decide))
      have hgg : gr ≠ g := fun e => hne (by rw [← e]; rfl)
      have hch : Chg (fun k => k = gr) wt (wt.drew.setCell ⟨gr, o + q, none⟩ (.int .u8 nw)) := ((Chg.refl (fun k => k = gr) wt).drew).setCell (a := ⟨gr, o + q, none⟩) (.inl rfl) _
      have HC2 := Lib.hid (HCt.out.chg hch (fun e => hgg e.symm))
      have HO2 := Lib.hid (by have := OwnS.setAtI (j := q) HOt.out.drew (by rw [natV_len, List.length_append, List.length_singleton]; have := HQ.out; omega) (.int .u8 nw); rwa [HSL.out] at this : OwnS (wt.drew.setCell ⟨gr, o + q, none⟩ (.int .u8 nw)) B0 5 1 (.slice (some ⟨gr, o, none⟩) (q + 1) c9) (q + 1) (natV (B ++ [nw])))
      have HB2 : Hid (Below B0 w (wt.drew.setCell ⟨gr, o + q, none⟩ (.int .u8 nw))) := Lib.hid (HBt.out.trans (((Below.refl B0 wt).drew).setCell hbr (.int .u8 nw)))
      have q0 : (q : Int) < ((q : Int) + 1) := by omega
      have q1 : (0 : Int) ≤ (q : Int) := by omega
      clear hcells hch hgr
      refine wp_region_ph (by kernel_rfl) [31] [.span 0 0, .span 0 0, .span 0 0, .span 0 0, .span 0 0, .span 0 0, .span 0 0, .span 0 0, .span 0 0, .span 0 0, .span 0 0, .span 0 0, .span 0 0, .span 0 0, .span 0 0, .span 0 0, .span 0 0, .span 0 0, .span 0 0, .span 0 0, .span 0 0, .span 0 0, .span 0 0, .span 0 0, .span 0 0, .span 0 0, .span 0 0, .span 0 0, .span 0 0, .span 0 0, .span 0 0, .phase 0] [fun z9 => z9 = .pointer (some ⟨g, 0, none⟩), fun z9 => z9 = .pointer (some ⟨g, 0, none⟩), fun z9 => z9 = .pointer (some ⟨g, 0, none⟩), fun z9 => z9 = .slice (some ⟨gr, o, none⟩) (q + 1) c9, fun z9 => z9 = .pointer (some ⟨g, 0, none⟩), fun z9 => z9 = .pointer (some ⟨g, 0, none⟩), fun z9 => z9 = .pointer (some ⟨g, 1, none⟩), fun z9 => z9 = .int .i64 n, fun z9 => z9 = .int .i64 q, fun z9 => z9 = .pointer (some ⟨g, 0, none⟩), fun z9 => z9 = .pointer (some ⟨g, 0, none⟩), fun z9 => z9 = .pointer (some ⟨g, 0, none⟩), fun z9 => z9 = .slice (some ⟨gr, o, none⟩) (q + 1) c9, fun z9 => z9 = .pointer (some ⟨g, 0, none⟩), fun z9 => z9 = .pointer (some ⟨g, 0, none⟩), fun z9 => z9 = .pointer (some ⟨g, 1, none⟩), fun z9 => z9 = .int .i64 n, fun z9 => z9 = .int .i64 q, fun z9 => z9 = .pointer (some ⟨gr, o + q, none⟩), fun z9 => z9 = .int .u8 old, fun z9 => z9 = .int .u32 x, fun z9 => z9 = .int .u32 b, fun z9 => z9 = .int .u8 b, fun z9 => z9 = .pointer (some ⟨g, 0, none⟩), fun z9 => z9 = .pointer (some ⟨g, 0, none⟩), fun z9 => z9 = .pointer (some ⟨g, 1, none⟩), fun z9 => z9 = .int .i64 n, fun z9 => z9 = .int .i64 s, fun z9 => z9 = .int .u8 sh, fun z9 => z9 = .int .u8 nw, fun z9 => z9 = .pointer (some ⟨gr, o + q, none⟩), fun _ => True] (ISet5 wt.drew ⟨gr, o + q, none⟩ (.int .u8 nw)) (by kernel_rfl) (by kernel_rfl) (by kernel_rfl) (by kernel_rfl) (by kernel_rfl) (by kernel_rfl) rfl rfl (rfl) ?steps ?done
      case steps =>
        refine ⟨?_, ?_, ?_, ?_, ?_, ?_, ?_, ?_, ?_, ?_, ?_, ?_, ?_, ?_, ?_, ?_, ?_, ?_, ?_, ?_, ?_, ?_, ?_, ?_, ?_, ?_, ?_, ?_, ?_, ?_, ?_, ?_, trivial⟩
        · intro us au w1 k0 hlo hhi ha hd hst hI
          obtain rfl : k0 = 0 := by omega
          have q0 := slot_far (t := 0) (v := .pointer (some ⟨g, 0, none⟩)) ha (by kernel_rfl) (by kernel_rfl)
          have p0 := slot_norm q0
          clear ha hd hst
          exact StepI.pure (v := .pointer (some ⟨g, 0, none⟩)) rfl rfl (by go_simp) ⟨rfl, hI⟩
        · intro us au w1 k1 hlo hhi ha hd hst hI
          obtain rfl : k1 = 0 := by omega
          have e0 := hd 0 _ (by kernel_rfl) rfl
          have q19 := slot_at (t := 19) 0 ha (by kernel_rfl) (by kernel_rfl) (by kernel_rfl) e0
          have p19 := slot_norm q19
          clear ha hd hst
          exact StepI.pure (v := .pointer (some ⟨g, 0, none⟩)) rfl rfl (by go_simp) ⟨rfl, hI⟩
        · intro us au w1 k2 hlo hhi ha hd hst hI
          obtain rfl : k2 = 0 := by omega
          have e1 := hd 1 _ (by kernel_rfl) rfl
          have q20 := slot_at (t := 20) 1 ha (by kernel_rfl) (by kernel_rfl) (by kernel_rfl) e1
          have p20 := slot_norm q20
          clear ha hd hst
          exact StepI.pure (v := .pointer (some ⟨g, 0, none⟩)) rfl rfl (by go_simp) ⟨rfl, hI⟩
        · intro us au w1 k3 hlo hhi ha hd hst hI
          obtain rfl : k3 = 0 := by omega
          have e2 := hd 2 _ (by kernel_rfl) rfl
          have q21 := slot_at (t := 21) 2 ha (by kernel_rfl) (by kernel_rfl) (by kernel_rfl) e2
          have p21 := slot_norm q21
          clear ha hd hst
          have cl : w1.cell? ⟨g, 0, none⟩ = some (.slice (some ⟨gr, o, none⟩) (q + 1) c9) := by rw [show w1 = _ from hI]; exact K0.out
          exact StepI.pure (v := .slice (some ⟨gr, o, none⟩) (q + 1) c9) rfl rfl (by go_simp) ⟨rfl, hI⟩
        · intro us au w1 k4 hlo hhi ha hd hst hI
          obtain rfl : k4 = 0 := by omega
          have q0 := slot_far (t := 0) (v := .pointer (some ⟨g, 0, none⟩)) ha (by kernel_rfl) (by kernel_rfl)
          have p0 := slot_norm q0
          clear ha hd hst
          exact StepI.pure (v := .pointer (some ⟨g, 0, none⟩)) rfl rfl (by go_simp) ⟨rfl, hI⟩
        · intro us au w1 k5 hlo hhi ha hd hst hI
          obtain rfl : k5 = 0 := by omega
          have e4 := hd 4 _ (by kernel_rfl) rfl
          have q23 := slot_at (t := 23) 4 ha (by kernel_rfl) (by kernel_rfl) (by kernel_rfl) e4
          have p23 := slot_norm q23
          clear ha hd hst
          exact StepI.pure (v := .pointer (some ⟨g, 0, none⟩)) rfl rfl (by go_simp) ⟨rfl, hI⟩
        · intro us au w1 k6 hlo hhi ha hd hst hI
          obtain rfl : k6 = 0 := by omega
          have e5 := hd 5 _ (by kernel_rfl) rfl
          have q24 := slot_at (t := 24) 5 ha (by kernel_rfl) (by kernel_rfl) (by kernel_rfl) e5
          have p24 := slot_norm q24
          clear ha hd hst
          exact StepI.pure (v := .pointer (some ⟨g, 1, none⟩)) rfl rfl (by go_simp) ⟨rfl, hI⟩
        · intro us au w1 k7 hlo hhi ha hd hst hI
          obtain rfl : k7 = 0 := by omega
          have e6 := hd 6 _ (by kernel_rfl) rfl
          have q25 := slot_at (t := 25) 6 ha (by kernel_rfl) (by kernel_rfl) (by kernel_rfl) e6
          have p25 := slot_norm q25
          clear ha hd hst
          have cl : w1.cell? ⟨g, 1, none⟩ = some (.int .i64 n) := by rw [show w1 = _ from hI]; exact K1.out
          exact StepI.pure (v := .int .i64 n) rfl rfl (by go_simp) ⟨rfl, hI⟩
        · intro us au w1 k8 hlo hhi ha hd hst hI
          obtain rfl : k8 = 0 := by omega
          have e7 := hd 7 _ (by kernel_rfl) rfl
          have q26 := slot_at (t := 26) 7 ha (by kernel_rfl) (by kernel_rfl) (by kernel_rfl) e7
          have p26 := slot_norm q26
          clear ha hd hst
          exact StepI.pure (v := .int .i64 q) rfl rfl (by go_simp) ⟨rfl, hI⟩
        · intro us au w1 k9 hlo hhi ha hd hst hI
          obtain rfl : k9 = 0 := by omega
          have q0 := slot_far (t := 0) (v := .pointer (some ⟨g, 0, none⟩)) ha (by kernel_rfl) (by kernel_rfl)
          have p0 := slot_norm q0
          clear ha hd hst
          exact StepI.pure (v := .pointer (some ⟨g, 0, none⟩)) rfl rfl (by go_simp) ⟨rfl, hI⟩
        · intro us au w1 k10 hlo hhi ha hd hst hI
          obtain rfl : k10 = 0 := by omega
          have e9 := hd 9 _ (by kernel_rfl) rfl
          have q28 := slot_at (t := 28) 9 ha (by kernel_rfl) (by kernel_rfl) (by kernel_rfl) e9
          have p28 := slot_norm q28
          clear ha hd hst
          exact StepI.pure (v := .pointer (some ⟨g, 0, none⟩)) rfl rfl (by go_simp) ⟨rfl, hI⟩
        · intro us au w1 k11 hlo hhi ha hd hst hI
          obtain rfl : k11 = 0 := by omega
          have e10 := hd 10 _ (by kernel_rfl) rfl
          have q29 := slot_at (t := 29) 10 ha (by kernel_rfl) (by kernel_rfl) (by kernel_rfl) e10
          have p29 := slot_norm q29
          clear ha hd hst
          exact StepI.pure (v := .pointer (some ⟨g, 0, none⟩)) rfl rfl (by go_simp) ⟨rfl, hI⟩
        · intro us au w1 k12 hlo hhi ha hd hst hI
          obtain rfl : k12 = 0 := by omega
          have e11 := hd 11 _ (by kernel_rfl) rfl
          have q30 := slot_at (t := 30) 11 ha (by kernel_rfl) (by kernel_rfl) (by kernel_rfl) e11
          have p30 := slot_norm q30
          clear ha hd hst
          have cl : w1.cell? ⟨g, 0, none⟩ = some (.slice (some ⟨gr, o, none⟩) (q + 1) c9) := by rw [show w1 = _ from hI]; exact K0.out
          exact StepI.pure (v := .slice (some ⟨gr, o, none⟩) (q + 1) c9) rfl rfl (by go_simp) ⟨rfl, hI⟩
        · intro us au w1 k13 hlo hhi ha hd hst hI
          obtain rfl : k13 = 0 := by omega
          have q0 := slot_far (t := 0) (v := .pointer (some ⟨g, 0, none⟩)) ha (by kernel_rfl) (by kernel_rfl)
          have p0 := slot_norm q0
          clear ha hd hst
          exact StepI.pure (v := .pointer (some ⟨g, 0, none⟩)) rfl rfl (by go_simp) ⟨rfl, hI⟩
        · intro us au w1 k14 hlo hhi ha hd hst hI
          obtain rfl : k14 = 0 := by omega
          have e13 := hd 13 _ (by kernel_rfl) rfl
          have q32 := slot_at (t := 32) 13 ha (by kernel_rfl) (by kernel_rfl) (by kernel_rfl) e13
          have p32 := slot_norm q32
          clear ha hd hst
          exact StepI.pure (v := .pointer (some ⟨g, 0, none⟩)) rfl rfl (by go_simp) ⟨rfl, hI⟩
        · intro us au w1 k15 hlo hhi ha hd hst hI
          obtain rfl : k15 = 0 := by omega
          have e14 := hd 14 _ (by kernel_rfl) rfl
          have q33 := slot_at (t := 33) 14 ha (by kernel_rfl) (by kernel_rfl) (by kernel_rfl) e14
          have p33 := slot_norm q33
          clear ha hd hst
          exact StepI.pure (v := .pointer (some ⟨g, 1, none⟩)) rfl rfl (by go_simp) ⟨rfl, hI⟩
        · intro us au w1 k16 hlo hhi ha hd hst hI
          obtain rfl : k16 = 0 := by omega
          have e15 := hd 15 _ (by kernel_rfl) rfl
          have q34 := slot_at (t := 34) 15 ha (by kernel_rfl) (by kernel_rfl) (by kernel_rfl) e15
          have p34 := slot_norm q34
          clear ha hd hst
          have cl : w1.cell? ⟨g, 1, none⟩ = some (.int .i64 n) := by rw [show w1 = _ from hI]; exact K1.out
          exact StepI.pure (v := .int .i64 n) rfl rfl (by go_simp) ⟨rfl, hI⟩
        · intro us au w1 k17 hlo hhi ha hd hst hI
          obtain rfl : k17 = 0 := by omega
          have e16 := hd 16 _ (by kernel_rfl) rfl
          have q35 := slot_at (t := 35) 16 ha (by kernel_rfl) (by kernel_rfl) (by kernel_rfl) e16
          have p35 := slot_norm q35
          clear ha hd hst
          exact StepI.pure (v := .int .i64 q) rfl rfl (by go_simp) ⟨rfl, hI⟩
        · intro us au w1 k18 hlo hhi ha hd hst hI
          obtain rfl : k18 = 0 := by omega
          have e12 := hd 12 _ (by kernel_rfl) rfl
          have e17 := hd 17 _ (by kernel_rfl) rfl
          have q31 := slot_at (t := 31) 12 ha (by kernel_rfl) (by kernel_rfl) (by kernel_rfl) e12
          have p31 := slot_norm q31
          have q36 := slot_at (t := 36) 17 ha (by kernel_rfl) (by kernel_rfl) (by kernel_rfl) e17
          have p36 := slot_norm q36
          clear ha hd hst
          exact StepI.pure (v := .pointer (some ⟨gr, o + q, none⟩)) rfl rfl (by go_simp) ⟨rfl, hI⟩
        · intro us au w1 k19 hlo hhi ha hd hst hI
          obtain rfl : k19 = 0 := by omega
          have e18 := hd 18 _ (by kernel_rfl) rfl
          have q37 := slot_at (t := 37) 18 ha (by kernel_rfl) (by kernel_rfl) (by kernel_rfl) e18
          have p37 := slot_norm q37
          clear ha hd hst
          have cl : w1.cell? ⟨gr, o + q, none⟩ = some (.int .u8 old) := by rw [show w1 = _ from hI]; exact KO.out
          exact StepI.pure (v := .int .u8 old) rfl rfl (by go_simp) ⟨rfl, hI⟩
        · intro us au w1 k20 hlo hhi ha hd hst hI
          obtain rfl : k20 = 0 := by omega
          have q1 := slot_far (t := 1) (v := .int .u32 x) ha (by kernel_rfl) (by kernel_rfl)
          have p1 := slot_norm q1
          clear ha hd hst
          exact StepI.pure (v := .int .u32 x) rfl rfl (by go_simp) ⟨rfl, hI⟩
        · intro us au w1 k21 hlo hhi ha hd hst hI
          obtain rfl : k21 = 0 := by omega
          have e20 := hd 20 _ (by kernel_rfl) rfl
          have q39 := slot_at (t := 39) 20 ha (by kernel_rfl) (by kernel_rfl) (by kernel_rfl) e20
          have p39 := slot_norm q39
          clear ha hd hst
          exact StepI.pure (v := .int .u32 b) rfl rfl (by go_simp) ⟨rfl, hI⟩
        · intro us au w1 k22 hlo hhi ha hd hst hI
          obtain rfl : k22 = 0 := by omega
          have e21 := hd 21 _ (by kernel_rfl) rfl
          have q40 := slot_at (t := 40) 21 ha (by kernel_rfl) (by kernel_rfl) (by kernel_rfl) e21
          have p40 := slot_norm q40
          clear ha hd hst
          exact StepI.pure (v := .int .u8 b) rfl rfl (by go_simp) ⟨rfl, hI⟩
        · intro us au w1 k23 hlo hhi ha hd hst hI
          obtain rfl : k23 = 0 := by omega
          have q0 := slot_far (t := 0) (v := .pointer (some ⟨g, 0, none⟩)) ha (by kernel_rfl) (by kernel_rfl)
          have p0 := slot_norm q0
          clear ha hd hst
          exact StepI.pure (v := .pointer (some ⟨g, 0, none⟩)) rfl rfl (by go_simp) ⟨rfl, hI⟩
        · intro us au w1 k24 hlo hhi ha hd hst hI
          obtain rfl : k24 = 0 := by omega
          have e23 := hd 23 _ (by kernel_rfl) rfl
          have q42 := slot_at (t := 42) 23 ha (by kernel_rfl) (by kernel_rfl) (by kernel_rfl) e23
          have p42 := slot_norm q42
          clear ha hd hst
          exact StepI.pure (v := .pointer (some ⟨g, 0, none⟩)) rfl rfl (by go_simp) ⟨rfl, hI⟩
        · intro us au w1 k25 hlo hhi ha hd hst hI
          obtain rfl : k25 = 0 := by omega
          have e24 := hd 24 _ (by kernel_rfl) rfl
          have q43 := slot_at (t := 43) 24 ha (by kernel_rfl) (by kernel_rfl) (by kernel_rfl) e24
          have p43 := slot_norm q43
          clear ha hd hst
          exact StepI.pure (v := .pointer (some ⟨g, 1, none⟩)) rfl rfl (by go_simp) ⟨rfl, hI⟩
        · intro us au w1 k26 hlo hhi ha hd hst hI
          obtain rfl : k26 = 0 := by omega
          have e25 := hd 25 _ (by kernel_rfl) rfl
          have q44 := slot_at (t := 44) 25 ha (by kernel_rfl) (by kernel_rfl) (by kernel_rfl) e25
          have p44 := slot_norm q44
          clear ha hd hst
          have cl : w1.cell? ⟨g, 1, none⟩ = some (.int .i64 n) := by rw [show w1 = _ from hI]; exact K1.out
          exact StepI.pure (v := .int .i64 n) rfl rfl (by go_simp) ⟨rfl, hI⟩
        · intro us au w1 k27 hlo hhi ha hd hst hI
          obtain rfl : k27 = 0 := by omega
          have e26 := hd 26 _ (by kernel_rfl) rfl
          have q45 := slot_at (t := 45) 26 ha (by kernel_rfl) (by kernel_rfl) (by kernel_rfl) e26
          have p45 := slot_norm q45
          clear ha hd hst
          exact StepI.pure (v := .int .i64 s) rfl rfl (by go_simp) ⟨rfl, hI⟩
        · intro us au w1 k28 hlo hhi ha hd hst hI
          obtain rfl : k28 = 0 := by omega
          have e22 := hd 22 _ (by kernel_rfl) rfl
          have e27 := hd 27 _ (by kernel_rfl) rfl
          have q41 := slot_at (t := 41) 22 ha (by kernel_rfl) (by kernel_rfl) (by kernel_rfl) e22
          have p41 := slot_norm q41
          have q46 := slot_at (t := 46) 27 ha (by kernel_rfl) (by kernel_rfl) (by kernel_rfl) e27
          have p46 := slot_norm q46
          clear ha hd hst
          exact StepI.pure (v := .int .u8 sh) rfl rfl (by go_simp) ⟨rfl, hI⟩
        · intro us au w1 k29 hlo hhi ha hd hst hI
          obtain rfl : k29 = 0 := by omega
          have e19 := hd 19 _ (by kernel_rfl) rfl
          have e28 := hd 28 _ (by kernel_rfl) rfl
          have q38 := slot_at (t := 38) 19 ha (by kernel_rfl) (by kernel_rfl) (by kernel_rfl) e19
          have p38 := slot_norm q38
          have q47 := slot_at (t := 47) 28 ha (by kernel_rfl) (by kernel_rfl) (by kernel_rfl) e28
          have p47 := slot_norm q47
          clear ha hd hst
          exact StepI.pure (v := .int .u8 nw) rfl rfl (by go_simp) ⟨rfl, hI⟩
        · intro us au w1 k30 hlo hhi ha hd hst hI
          obtain rfl : k30 = 0 := by omega
          have e3 := hd 3 _ (by kernel_rfl) rfl
          have e8 := hd 8 _ (by kernel_rfl) rfl
          have q22 := slot_at (t := 22) 3 ha (by kernel_rfl) (by kernel_rfl) (by kernel_rfl) e3
          have p22 := slot_norm q22
          have q27 := slot_at (t := 27) 8 ha (by kernel_rfl) (by kernel_rfl) (by kernel_rfl) e8
          have p27 := slot_norm q27
          clear ha hd hst
          exact StepI.pure (v := .pointer (some ⟨gr, o + q, none⟩)) rfl rfl (by go_simp) ⟨rfl, hI⟩
        · intro us au w1 ha hd hst hI
          have e30 := hd 30 _ (by kernel_rfl) rfl
          have e29 := hd 29 _ (by kernel_rfl) rfl
          have q49 := slot_at (t := 49) 30 ha (by kernel_rfl) (by kernel_rfl) (by kernel_rfl) e30
          have p49 := slot_norm q49
          have q48 := slot_at (t := 48) 29 ha (by kernel_rfl) (by kernel_rfl) (by kernel_rfl) e29
          have p48 := slot_norm q48
          clear ha hd hst
          have t0 : w1.cell? ⟨gr, o + q, none⟩ = some (.int .u8 old) := by rw [show w1 = _ from hI]; exact KO.out
          have f0 : w1.frozen? ⟨gr, o + q, none⟩ = false := by rw [show w1 = _ from hI]; exact KF.out
          exact StepI.stored (w' := w1.setCell ⟨gr, o + q, none⟩ (.int .u8 nw)) rfl rfl (by go_simp) ⟨trivial, congrArg (fun w => World.setCell w ⟨gr, o + q, none⟩ (.int .u8 nw)) hI⟩
      case done =>
        intro us w1 hI hd
        have hw1 : w1 = wt.drew.setCell ⟨gr, o + q, none⟩ (.int .u8 nw) := hI
        rw [← hw1] at HC2 HO2 HB2
        have k1' : w1.cell? ⟨g, 1, none⟩ = some (.int .i64 n) := HC2.out.cell 1 (by decide)
        have f1' := HC2.out.frozen 1
        clear hd hw1 hI KO KF K0 K1
        simp only [putAll]
        go_simp
        go_wp2
        go_end0
        exact ⟨rfl, ⟨_, HEND.out _ _ ((wrF_set HC2.out).1 (n + 1)) (HO2.out.setFar hne _)⟩, HB2.out.setCell hg _⟩
  · have hbz : bytesB B r = B ++ [old] := by unfold bytesB; rw [if_neg hr, hold]
    rw [hbz, List.length_append, List.length_singleton, hq] at hown
    rw [hn] at hcel
    have hs1 : 0 < s := by rw [← hs]; exact List.length_pos_iff.2 hr
    have e9 : ((s : Int) == 0) = false := by simp; omega
    obtain ⟨A5, c5, rfl⟩ := hown.shape
    have k0 : w.cell? ⟨g, 0, none⟩ = some (.slice A5 (q + 1) c5) := hcel.cell 0 (by decide)
    have k1 : w.cell? ⟨g, 1, none⟩ = some (.int .i64 n) := hcel.cell 1 (by decide)
    have HCt := Lib.hid hcel
    have HOt := Lib.hid hown
    have HBt := Lib.hid (Below.refl B0 w)
    have HQ := Lib.hid hq
    clear hown hcel hho hbz hl hr hs hold hsh hb hn hnn hq hho' hbb hvr
    go_enter Try.func68, Try.ntmps68
    go_wp2
    clear k0 k1
    obtain ⟨gr, o, c9, hv, hbr, hgr, hcells⟩ := HOt.out.cells (by rw [natV_len, List.length_append, List.length_singleton]; omega)
    have hne := HOt.out.ne_cel HCt.out (by decide)
    rw [hv] at HOt HCt hne
    have hv2 := hv
    injection hv2 with hv3 _ hv4
    obtain rfl : c9 = c5 := hv4.symm
    subst hv3
    clear hv
    have KO : Hid (w.cell? ⟨gr, o + q, none⟩ = some (.int .u8 old)) := Lib.hid (by
      rw [hcells q (by rw [natV_len, List.length_append, List.length_singleton]; have := HQ.out; omega), ← HQ.out]
      simp [natV])
    have KF := Lib.hid (HOt.out.freeI (show q < q + 1 by omega))
    have K0 : Hid (w.cell? ⟨g, 0, none⟩ = some (.slice (some ⟨gr, o, none⟩) (q + 1) c9)) := Lib.hid (HCt.out.cell 0 (by decide))
    have K1 : Hid (w.cell? ⟨g, 1, none⟩ = some (.int .i64 n)) := Lib.hid (HCt.out.cell 1 (by decide))
    have hgg : gr ≠ g := fun e => hne (by rw [← e]; rfl)
    have hch : Chg (fun k => k = gr) w (w.drew.setCell ⟨gr, o + q, none⟩ (.int .u8 nw)) := ((Chg.refl (fun k => k = gr) w).drew).setCell (a := ⟨gr, o + q, none⟩) (.inl rfl) _
    have HC2 := Lib.hid (HCt.out.chg hch (fun e => hgg e.symm))
    have HO2 := Lib.hid (by have := OwnS.setAtI (j := q) HOt.out.drew (by rw [natV_len, List.length_append, List.length_singleton]; have := HQ.out; omega) (.int .u8 nw); rwa [HSL.out] at this : OwnS (w.drew.setCell ⟨gr, o + q, none⟩ (.int .u8 nw)) B0 5 1 (.slice (some ⟨gr, o, none⟩) (q + 1) c9) (q + 1) (natV (B ++ [nw])))
    have HB2 : Hid (Below B0 w (w.drew.setCell ⟨gr, o + q, none⟩ (.int .u8 nw))) := Lib.hid (HBt.out.trans (((Below.refl B0 w).drew).setCell hbr (.int .u8 nw)))
    have q0 : (q : Int) < ((q : Int) + 1) := by omega
    have q1 : (0 : Int) ≤ (q : Int) := by omega
    clear hcells hch hgr
    refine wp_region_ph (by kernel_rfl) [31] [.span 0 0, .span 0 0, .span 0 0, .span 0 0, .span 0 0, .span 0 0, .span 0 0, .span 0 0, .span 0 0, .span 0 0, .span 0 0, .span 0 0, .span 0 0, .span 0 0, .span 0 0, .span 0 0, .span 0 0, .span 0 0, .span 0 0, .span 0 0, .span 0 0, .span 0 0, .span 0 0, .span 0 0, .span 0 0, .span 0 0, .span 0 0, .span 0 0, .span 0 0, .span 0 0, .span 0 0, .phase 0] [fun z9 => z9 = .pointer (some ⟨g, 0, none⟩), fun z9 => z9 = .pointer (some ⟨g, 0, none⟩), fun z9 => z9 = .pointer (some ⟨g, 0, none⟩), fun z9 => z9 = .slice (some ⟨gr, o, none⟩) (q + 1) c9, fun z9 => z9 = .pointer (some ⟨g, 0, none⟩), fun z9 => z9 = .pointer (some ⟨g, 0, none⟩), fun z9 => z9 = .pointer (some ⟨g, 1, none⟩), fun z9 => z9 = .int .i64 n, fun z9 => z9 = .int .i64 q, fun z9 => z9 = .pointer (some ⟨g, 0, none⟩), fun z9 => z9 = .pointer (some ⟨g, 0, none⟩), fun z9 => z9 = .pointer (some ⟨g, 0, none⟩), fun z9 => z9 = .slice (some ⟨gr, o, none⟩) (q + 1) c9, fun z9 => z9 = .pointer (some ⟨g, 0, none⟩), fun z9 => z9 = .pointer (some ⟨g, 0, none⟩), fun z9 => z9 = .pointer (some ⟨g, 1, none⟩), fun z9 => z9 = .int .i64 n, fun z9 => z9 = .int .i64 q, fun z9 => z9 = .pointer (some ⟨gr, o + q, none⟩), fun z9 => z9 = .int .u8 old, fun z9 => z9 = .int .u32 x, fun z9 => z9 = .int .u32 b, fun z9 => z9 = .int .u8 b, fun z9 => z9 = .pointer (some ⟨g, 0, none⟩), fun z9 => z9 = .pointer (some ⟨g, 0, none⟩), fun z9 => z9 = .pointer (some ⟨g, 1, none⟩), fun z9 => z9 = .int .i64 n, fun z9 => z9 = .int .i64 s, fun z9 => z9 = .int .u8 sh, fun z9 => z9 = .int .u8 nw, fun z9 => z9 = .pointer (some ⟨gr, o + q, none⟩), fun _ => True] (ISet5 w.drew ⟨gr, o + q, none⟩ (.int .u8 nw)) (by kernel_rfl) (by kernel_rfl) (by kernel_rfl) (by kernel_rfl) (by kernel_rfl) (by kernel_rfl) rfl rfl (rfl) ?steps ?done
    case steps =>
      refine ⟨?_, ?_, ?_, ?_, ?_, ?_, ?_, ?_, ?_, ?_, ?_, ?_, ?_, ?_, ?_, ?_, ?_, ?_, ?_, ?_, ?_, ?_, ?_, ?_, ?_, ?_, ?_, ?_, ?_, ?_, ?_, ?_, trivial⟩
      · intro us au w1 k0 hlo hhi ha hd hst hI
        obtain rfl : k0 = 0 := by omega
        have q0 := slot_far (t := 0) (v := .pointer (some ⟨g, 0, none⟩)) ha (by kernel_rfl) (by kernel_rfl)
        have p0 := slot_norm q0
        clear ha hd hst
        exact StepI.pure (v := .pointer (some ⟨g, 0, none⟩)) rfl rfl (by go_simp) ⟨rfl, hI⟩
      · intro us au w1 k1 hlo hhi ha hd hst hI
        obtain rfl : k1 = 0 := by omega
        have e0 := hd 0 _ (by kernel_rfl) rfl
        have q19 := slot_at (t := 19) 0 ha (by kernel_rfl) (by kernel_rfl) (by kernel_rfl) e0
        have p19 := slot_norm q19
        clear ha hd hst
        exact StepI.pure (v := .pointer (some ⟨g, 0, none⟩)) rfl rfl (by go_simp) ⟨rfl, hI⟩
      · intro us au w1 k2 hlo hhi ha hd hst hI
        obtain rfl : k2 = 0 := by omega
        have e1 := hd 1 _ (by kernel_rfl) rfl
        have q20 := slot_at (t := 20) 1 ha (by kernel_rfl) (by kernel_rfl) (by kernel_rfl) e1
        have p20 := slot_norm q20
        clear ha hd hst
        exact StepI.pure (v := .pointer (some ⟨g, 0, none⟩)) rfl rfl (by go_simp) ⟨rfl, hI⟩
      · intro us au w1 k3 hlo hhi ha hd hst hI
        obtain rfl : k3 = 0 := by omega
        have e2 := hd 2 _ (by kernel_rfl) rfl
        have q21 := slot_at (t := 21) 2 ha (by kernel_rfl) (by kernel_rfl) (by kernel_rfl) e2
        have p21 := slot_norm q21
        clear ha hd hst
        have cl : w1.cell? ⟨g, 0, none⟩ = some (.slice (some ⟨gr, o, none⟩) (q + 1) c9) := by rw [show w1 = _ from hI]; exact K0.out
        exact StepI.pure (v := .slice (some ⟨gr, o, none⟩) (q + 1) c9) rfl rfl (by go_simp) ⟨rfl, hI⟩
      · intro us au w1 k4 hlo hhi ha hd hst hI
        obtain rfl : k4 = 0 := by omega
        have q0 := slot_far (t := 0) (v := .pointer (some ⟨g, 0, none⟩)) ha (by kernel_rfl) (by kernel_rfl)
        have p0 := slot_norm q0
        clear ha hd hst
        exact StepI.pure (v := .pointer (some ⟨g, 0, none⟩)) rfl rfl (by go_simp) ⟨rfl, hI⟩
      · intro us au w1 k5 hlo hhi ha hd hst hI
        obtain rfl : k5 = 0 := by omega
        have e4 := hd 4 _ (by kernel_rfl) rfl
        have q23 := slot_at (t := 23) 4 ha (by kernel_rfl) (by kernel_rfl) (by kernel_rfl) e4
        have p23 := slot_norm q23
        clear ha hd hst
        exact StepI.pure (v := .pointer (some ⟨g, 0, none⟩)) rfl rfl (by go_simp) ⟨rfl, hI⟩
      · intro us au w1 k6 hlo hhi ha hd hst hI
        obtain rfl : k6 = 0 := by omega
        have e5 := hd 5 _ (by kernel_rfl) rfl
        have q24 := slot_at (t := 24) 5 ha (by kernel_rfl) (by kernel_rfl) (by kernel_rfl) e5
        have p24 := slot_norm q24
        clear ha hd hst
        exact StepI.pure (v := .pointer (some ⟨g, 1, none⟩)) rfl rfl (by go_simp) ⟨rfl, hI⟩
      · intro us au w1 k7 hlo hhi ha hd hst hI
        obtain rfl : k7 = 0 := by omega
        have e6 := hd 6 _ (by kernel_rfl) rfl
        have q25 := slot_at (t := 25) 6 ha (by kernel_rfl) (by kernel_rfl) (by kernel_rfl) e6
        have p25 := slot_norm q25
        clear ha hd hst
        have cl : w1.cell? ⟨g, 1, none⟩ = some (.int .i64 n) := by rw [show w1 = _ from hI]; exact K1.out
        exact StepI.pure (v := .int .i64 n) rfl rfl (by go_simp) ⟨rfl, hI⟩
      · intro us au w1 k8 hlo hhi ha hd hst hI
        obtain rfl : k8 = 0 := by omega
        have e7 := hd 7 _ (by kernel_rfl) rfl
        have q26 := slot_at (t := 26) 7 ha (by kernel_rfl) (by kernel_rfl) (by kernel_rfl) e7
        have p26 := slot_norm q26
        clear ha hd hst
        exact StepI.pure (v := .int .i64 q) rfl rfl (by go_simp) ⟨rfl, hI⟩
      · intro us au w1 k9 hlo hhi ha hd hst hI
        obtain rfl : k9 = 0 := by omega
        have q0 := slot_far (t := 0) (v := .pointer (some ⟨g, 0, none⟩)) ha (by kernel_rfl) (by kernel_rfl)
        have p0 := slot_norm q0
        clear ha hd hst
        exact StepI.pure (v := .pointer (some ⟨g, 0, none⟩)) rfl rfl (by go_simp) ⟨rfl, hI⟩
      · intro us au w1 k10 hlo hhi ha hd hst hI
        obtain rfl : k10 = 0 := by omega
        have e9 := hd 9 _ (by kernel_rfl) rfl
        have q28 := slot_at (t := 28) 9 ha (by kernel_rfl) (by kernel_rfl) (by kernel_rfl) e9
        have p28 := slot_norm q28
        clear ha hd hst
        exact StepI.pure (v := .pointer (some ⟨g, 0, none⟩)) rfl rfl (by go_simp) ⟨rfl, hI⟩
      · intro us au w1 k11 hlo hhi ha hd hst hI
        obtain rfl : k11 = 0 := by omega
        have e10 := hd 10 _ (by kernel_rfl) rfl
        have q29 := slot_at (t := 29) 10 ha (by kernel_rfl) (by kernel_rfl) (by kernel_rfl) e10
        have p29 := slot_norm q29
        clear ha hd hst
        exact StepI.pure (v := .pointer (some ⟨g, 0, none⟩)) rfl rfl (by go_simp) ⟨rfl, hI⟩
      · intro us au w1 k12 hlo hhi ha hd hst hI
        obtain rfl : k12 = 0 := by omega
        have e11 := hd 11 _ (by kernel_rfl) rfl
        have q30 := slot_at (t := 30) 11 ha (by kernel_rfl) (by kernel_rfl) (by kernel_rfl) e11
        have p30 := slot_norm q30
        clear ha hd hst
        have cl : w1.cell? ⟨g, 0, none⟩ = some (.slice (some ⟨gr, o, none⟩) (q + 1) c9) := by rw [show w1 = _ from hI]; exact K0.out
        exact StepI.pure (v := .slice (some ⟨gr, o, none⟩) (q + 1) c9) rfl rfl (by go_simp) ⟨rfl, hI⟩
      · intro us au w1 k13 hlo hhi ha hd hst hI
        obtain rfl : k13 = 0 := by omega
        have q0 := slot_far (t := 0) (v := .pointer (some ⟨g, 0, none⟩)) ha (by kernel_rfl) (by kernel_rfl)
        have p0 := slot_norm q0
        clear ha hd hst
        exact StepI.pure (v := .pointer (some ⟨g, 0, none⟩)) rfl rfl (by go_simp) ⟨rfl, hI⟩
      · intro us au w1 k14 hlo hhi ha hd hst hI
        obtain rfl : k14 = 0 := by omega
        have e13 := hd 13 _ (by kernel_rfl) rfl
        have q32 := slot_at (t := 32) 13 ha (by kernel_rfl) (by kernel_rfl) (by kernel_rfl) e13
        have p32 := slot_norm q32
        clear ha hd hst
        exact StepI.pure (v := .pointer (some ⟨g, 0, none⟩)) rfl rfl (by go_simp) ⟨rfl, hI⟩
      · intro us au w1 k15 hlo hhi ha hd hst hI
        obtain rfl : k15 = 0 := by omega
        have e14 := hd 14 _ (by kernel_rfl) rfl
        have q33 := slot_at (t := 33) 14 ha (by kernel_rfl) (by kernel_rfl) (by kernel_rfl) e14
        have p33 := slot_norm q33
        clear ha hd hst
        exact StepI.pure (v := .pointer (some ⟨g, 1, none⟩)) rfl rfl (by go_simp) ⟨rfl, hI⟩
      · intro us au w1 k16 hlo hhi ha hd hst hI
        obtain rfl : k16 = 0 := by omega
        have e15 := hd 15 _ (by kernel_rfl) rfl
        have q34 := slot_at (t := 34) 15 ha (by kernel_rfl) (by kernel_rfl) (by kernel_rfl) e15
        have p34 := slot_norm q34
        clear ha hd hst
        have cl : w1.cell? ⟨g, 1, none⟩ = some (.int .i64 n) := by rw [show w1 = _ from hI]; exact K1.out
        exact StepI.pure (v := .int .i64 n) rfl rfl (by go_simp) ⟨rfl, hI⟩
      · intro us au w1 k17 hlo hhi ha hd hst hI
        obtain rfl : k17 = 0 := by omega
        have e16 := hd 16 _ (by kernel_rfl) rfl
        have q35 := slot_at (t := 35) 16 ha (by kernel_rfl) (by kernel_rfl) (by kernel_rfl) e16
        have p35 := slot_norm q35
        clear ha hd hst
        exact StepI.pure (v := .int .i64 q) rfl rfl (by go_simp) ⟨rfl, hI⟩
      · intro us au w1 k18 hlo hhi ha hd hst hI
        obtain rfl : k18 = 0 := by omega
        have e12 := hd 12 _ (by kernel_rfl) rfl
        have e17 := hd 17 _ (by kernel_rfl) rfl
        have q31 := slot_at (t := 31) 12 ha (by kernel_rfl) (by kernel_rfl) (by kernel_rfl) e12
        have p31 := slot_norm q31
        have q36 := slot_at (t := 36) 17 ha (by kernel_rfl) (by kernel_rfl) (by kernel_rfl) e17
        have p36 := slot_norm q36
        clear ha hd hst
        exact StepI.pure (v := .pointer (some ⟨gr, o + q, none⟩)) rfl rfl (by go_simp) ⟨rfl, hI⟩
      · intro us au w1 k19 hlo hhi ha hd hst hI
        obtain rfl : k19 = 0 := by omega
        have e18 := hd 18 _ (by kernel_rfl) rfl
        have q37 := slot_at (t := 37) 18 ha (by kernel_rfl) (by kernel_rfl) (by kernel_rfl) e18
        have p37 := slot_norm q37
        clear ha hd hst
        have cl : w1.cell? ⟨gr, o + q, none⟩ = some (.int .u8 old) := by rw [show w1 = _ from hI]; exact KO.out
        exact StepI.pure (v := .int .u8 old) rfl rfl (by go_simp) ⟨rfl, hI⟩
      · intro us au w1 k20 hlo hhi ha hd hst hI
        obtain rfl : k20 = 0 := by omega
        have q1 := slot_far (t := 1) (v := .int .u32 x) ha (by kernel_rfl) (by kernel_rfl)
        have p1 := slot_norm q1
        clear ha hd hst
        exact StepI.pure (v := .int .u32 x) rfl rfl (by go_simp) ⟨rfl, hI⟩
      · intro us au w1 k21 hlo hhi ha hd hst hI
        obtain rfl : k21 = 0 := by omega
        have e20 := hd 20 _ (by kernel_rfl) rfl
        have q39 := slot_at (t := 39) 20 ha (by kernel_rfl) (by kernel_rfl) (by kernel_rfl) e20
        have p39 := slot_norm q39
        clear ha hd hst
        exact StepI.pure (v := .int .u32 b) rfl rfl (by go_simp) ⟨rfl, hI⟩
      · intro us au w1 k22 hlo hhi ha hd hst hI
        obtain rfl : k22 = 0 := by omega
        have e21 := hd 21 _ (by kernel_rfl) rfl
        have q40 := slot_at (t := 40) 21 ha (by kernel_rfl) (by kernel_rfl) (by kernel_rfl) e21
        have p40 := slot_norm q40
        clear ha hd hst
        exact StepI.pure (v := .int .u8 b) rfl rfl (by go_simp) ⟨rfl, hI⟩
      · intro us au w1 k23 hlo hhi ha hd hst hI
        obtain rfl : k23 = 0 := by omega
        have q0 := slot_far (t := 0) (v := .pointer (some ⟨g, 0, none⟩)) ha (by kernel_rfl) (by kernel_rfl)
        have p0 := slot_norm q0
        clear ha hd hst
        exact StepI.pure (v := .pointer (some ⟨g, 0, none⟩)) rfl rfl (by go_simp) ⟨rfl, hI⟩
      · intro us au w1 k24 hlo hhi ha hd hst hI
        obtain rfl : k24 = 0 := by omega
        have e23 := hd 23 _ (by kernel_rfl) rfl
        have q42 := slot_at (t := 42) 23 ha (by kernel_rfl) (by kernel_rfl) (by kernel_rfl) e23
        have p42 := slot_norm q42
        clear ha hd hst
        exact StepI.pure (v := .pointer (some ⟨g, 0, none⟩)) rfl rfl (by go_simp) ⟨rfl, hI⟩
      · intro us au w1 k25 hlo hhi ha hd hst hI
        obtain rfl : k25 = 0 := by omega
        have e24 := hd 24 _ (by kernel_rfl) rfl
        have q43 := slot_at (t := 43) 24 ha (by kernel_rfl) (by kernel_rfl) (by kernel_rfl) e24
        have p43 := slot_norm q43
        clear ha hd hst
        exact StepI.pure (v := .pointer (some ⟨g, 1, none⟩)) rfl rfl (by go_simp) ⟨rfl, hI⟩
      · intro us au w1 k26 hlo hhi ha hd hst hI
        obtain rfl : k26 = 0 := by omega
        have e25 := hd 25 _ (by kernel_rfl) rfl
        have q44 := slot_at (t := 44) 25 ha (by kernel_rfl) (by kernel_rfl) (by kernel_rfl) e25
        have p44 := slot_norm q44
        clear ha hd hst
        have cl : w1.cell? ⟨g, 1, none⟩ = some (.int .i64 n) := by rw [show w1 = _ from hI]; exact K1.out
        exact StepI.pure (v := .int .i64 n) rfl rfl (by go_simp) ⟨rfl, hI⟩
      · intro us au w1 k27 hlo hhi ha hd hst hI
        obtain rfl : k27 = 0 := by omega
        have e26 := hd 26 _ (by kernel_rfl) rfl
        have q45 := slot_at (t := 45) 26 ha (by kernel_rfl) (by kernel_rfl) (by kernel_rfl) e26
        have p45 := slot_norm q45
        clear ha hd hst
        exact StepI.pure (v := .int .i64 s) rfl rfl (by go_simp) ⟨rfl, hI⟩
      · intro us au w1 k28 hlo hhi ha hd hst hI
        obtain rfl : k28 = 0 := by omega
        have e22 := hd 22 _ (by kernel_rfl) rfl
        have e27 := hd 27 _ (by kernel_rfl) rfl
        have q41 := slot_at (t := 41) 22 ha (by kernel_rfl) (by kernel_rfl) (by kernel_rfl) e22
        have p41 := slot_norm q41
        have q46 := slot_at (t := 46) 27 ha (by kernel_rfl) (by kernel_rfl) (by kernel_rfl) e27
        have p46 := slot_norm q46
        clear ha hd hst
        exact StepI.pure (v := .int .u8 sh) rfl rfl (by go_simp) ⟨rfl, hI⟩
      · intro us au w1 k29 hlo hhi ha hd hst hI
        obtain rfl : k29 = 0 := by omega
        have e19 := hd 19 _ (by kernel_rfl) rfl
        have e28 := hd 28 _ (by kernel_rfl) rfl
        have q38 := slot_at (t := 38) 19 ha (by kernel_rfl) (by kernel_rfl) (by kernel_rfl) e19
        have p38 := slot_norm q38
        have q47 := slot_at (t := 47) 28 ha (by kernel_rfl) (by kernel_rfl) (by kernel_rfl) e28
        have p47 := slot_norm q47
        clear ha hd hst
        exact StepI.pure (v := .int .u8 nw) rfl rfl (by go_simp) ⟨rfl, hI⟩
      · intro us au w1 k30 hlo hhi ha hd hst hI
        obtain rfl : k30 = 0 := by omega
        have e3 := hd 3 _ (by kernel_rfl) rfl
        have e8 := hd 8 _ (by kernel_rfl) rfl
        have q22 := slot_at (t := 22) 3 ha (by kernel_rfl) (by kernel_rfl) (by kernel_rfl) e3
        have p22 := slot_norm q22
        have q27 := slot_at (t := 27) 8 ha (by kernel_rfl) (by kernel_rfl) (by kernel_rfl) e8
        have p27 := slot_norm q27
        clear ha hd hst
        exact StepI.pure (v := .pointer (some ⟨gr, o + q, none⟩)) rfl rfl (by go_simp) ⟨rfl, hI⟩
      · intro us au w1 ha hd hst hI
        have e30 := hd 30 _ (by kernel_rfl) rfl
        have e29 := hd 29 _ (by kernel_rfl) rfl
        have q49 := slot_at (t := 49) 30 ha (by kernel_rfl) (by kernel_rfl) (by kernel_rfl) e30
        have p49 := slot_norm q49
        have q48 := slot_at (t := 48) 29 ha (by kernel_rfl) (by kernel_rfl) (by kernel_rfl) e29
        have p48 := slot_norm q48
        clear ha hd hst
        have t0 : w1.cell? ⟨gr, o + q, none⟩ = some (.int .u8 old) := by rw [show w1 = _ from hI]; exact KO.out
        have f0 : w1.frozen? ⟨gr, o + q, none⟩ = false := by rw [show w1 = _ from hI]; exact KF.out
        exact StepI.stored (w' := w1.setCell ⟨gr, o + q, none⟩ (.int .u8 nw)) rfl rfl (by go_simp) ⟨trivial, congrArg (fun w => World.setCell w ⟨gr, o + q, none⟩ (.int .u8 nw)) hI⟩
    case done =>
      intro us w1 hI hd
      have hw1 : w1 = w.drew.setCell ⟨gr, o + q, none⟩ (.int .u8 nw) := hI
      rw [← hw1] at HC2 HO2 HB2
      have k1' : w1.cell? ⟨g, 1, none⟩ = some (.int .i64 n) := HC2.out.cell 1 (by decide)
      have f1' := HC2.out.frozen 1
      clear hd hw1 hI KO KF K0 K1
      simp only [putAll]
      go_simp
      go_wp2
      go_end0
      exact ⟨rfl, ⟨_, HEND.out _ _ ((wrF_set HC2.out).1 (n + 1)) (HO2.out.setFar hne _)⟩, HB2.out.setCell hg _⟩
theorem hiBits_takeI {v n k : Nat} (h : k < n) : (hiBits v n).take (k + 1) = (hiBits v n).take k ++ [v / 2 ^ (n - 1 - k) % 2] := by
  rw [List.take_add_one]
  unfold hiBits
  rw [List.getElem?_map, List.getElem?_range h]; rfl
def loBits (v n : Nat) : List Nat := (List.range n).map fun j => v / 2 ^ j % 2
theorem loBits_length (v n : Nat) : (loBits v n).length = n := by simp [loBits]
theorem loBits_take {v n k : Nat} (h : k < n) : (loBits v n).take (k + 1) = (loBits v n).take k ++ [v / 2 ^ k % 2] := by
  rw [List.take_add_one]
  unfold loBits
  rw [List.getElem?_map, List.getElem?_range h]; rfl
set_option maxRecDepth 100000 in
set_option maxHeartbeats 4000000 in
theorem refPut_any (g B0 x n : Nat) (w : World) (v : Value) (ws : List Nat) (h : WrAt g B0 w v ws) (hlen : ws.length + n ≤ 7000000) (hn : n ≤ 32) (hx : x < 4294967296) (hg : B0 ≤ g) :
    Calls Try.prog 41 #[.pointer (some ⟨g, 0, none⟩), .int .u32 x, .int .i64 n] w (OnePost g B0 w (ws ++ loBits x n)) := by
  have HW : Hid (∃ v', WrAt g B0 w v' (ws ++ (loBits x n).take 0)) := Lib.hid ⟨v, by rw [List.take_zero, List.append_nil]; exact h⟩
  clear h
  have e1 : (if (32 : Int) < (n : Int) then (32 : Int) else (n : Int)) = (n : Int) := by split <;> omega
  have e2 : (if (n : Int) < 32 then (n : Int) else 32) = (n : Int) := by split <;> omega
  have e3 : min (n : Int) 32 = (n : Int) := by omega
  go_enter Try.func41, Try.ntmps41
  go_wp2
  go_loopw [6] (fun iv wr => ∃ k : Nat, k ≤ n ∧ iv = .int .i64 k ∧ (∃ v', WrAt g B0 wr v' (ws ++ (loBits x n).take k)) ∧ Below B0 w wr) (fun iv _ => n - (intOf iv).toNat)
  case atStart => exact ⟨0, Nat.zero_le _, rfl, HW.out, Below.refl _ _⟩
  case round =>
    clear HW
    obtain ⟨k, hk, rfl, ⟨v1, hw1⟩, hb1⟩ := hrel
    have HB1 := Lib.hid hb1
    by_cases hlt : k < n
    · have d1 : decide ((k : Int) < (n : Int)) = true := decide_eq_true (by omega)
      have mj : min k 32 = k := by omega
      have mj2 : min k 64 = k := by omega
      obtain ⟨y, hy⟩ : ∃ y, x / 2 ^ k = y := ⟨_, rfl⟩
      have hyx : y < 4294967296 := by rw [← hy]; exact Nat.lt_of_le_of_lt (Nat.div_le_self _ _) hx
      have eyi : (x : Int) / 2 ^ k = (y : Int) := by rw [two_pow_cast, ← hy]; simp
      have htk := loBits_take (v := x) hlt
      rw [hy] at htk
      have HP := Lib.hid (refOneW_any g B0 y wr v1 _ hw1 (by rw [List.length_append, List.length_take, loBits_length]; omega) hyx hg)
      rw [List.append_assoc, ← htk] at HP
      clear hw1 hb1 htk hy
      go_wp2_with fail
      refine HP.out.mono ?_
      rintro e w2 ⟨rfl, hw2, hb2⟩
      have HW2 := Lib.hid hw2
      have HB2 := Lib.hid (HB1.out.trans hb2)
      clear hw2 hb2 HP
      go_wp2
      go_roundw
      case rel => exact ⟨k + 1, by omega, by go_num, HW2.out, HB2.out⟩
      case measure => simp [intOf]; omega
    · have d1 : decide ((k : Int) < (n : Int)) = false := decide_eq_false (by omega)
      obtain rfl : k = n := by omega
      have ht : (loBits x k).take k = loBits x k := List.take_of_length_le (by rw [loBits_length]; exact Nat.le_refl _)
      rw [ht] at hw1
      have HW1 := Lib.hid hw1
      clear hw1 hb1 ht
      go_wp2
      go_end0
      exact ⟨rfl, ⟨v1, HW1.out⟩, HB1.out⟩
set_option maxRecDepth 100000 in
set_option maxHeartbeats 4000000 in
theorem refCode_any (g B0 x n : Nat) (w : World) (v : Value) (ws : List Nat) (h : WrAt g B0 w v ws) (hlen : ws.length + n ≤ 7000000) (hn : n ≤ 32) (hx : x < 4294967296) (hg : B0 ≤ g) :
    Calls Try.prog 42 #[.pointer (some ⟨g, 0, none⟩), .int .u32 x, .int .i64 n] w (OnePost g B0 w (ws ++ hiBits x n)) := by
  have HW := Lib.hid h
  clear h
  have e0 : max (n : Int) 0 = (n : Int) := by omega
  have e1 : min (n : Int) 32 = (n : Int) := by omega
  go_enter Try.func42, Try.ntmps42
  go_upto_region 0 with (fail)
  go_cut [6] (fun v6 wx => v6 = .int .i64 ((n : Int) - 1) ∧ wx = w)
  case first =>
    go_wp2
    all_goals
      go_meet
      first
        | done
        | (refine ⟨?_, rfl⟩
           congr 1 <;> omega)
  case rest =>
    obtain ⟨rfl, rfl⟩ := hcut
    clear e0 e1
    go_wp2
    go_loopw [6] (fun iv wr => ∃ (k : Nat) (v' : Value), k ≤ n ∧ iv = .int .i64 ((n : Int) - 1 - k) ∧ WrAt g B0 wr v' (ws ++ (hiBits x n).take k) ∧ Below B0 wc wr) (fun iv _ => (intOf iv + 1).toNat)
    case atStart => exact ⟨0, v, Nat.zero_le _, by congr 1; omega, by rw [List.take_zero, List.append_nil]; exact HW.out, Below.refl _ _⟩
    case round =>
      clear HW
      obtain ⟨k, v1, hk, rfl, hw, hb⟩ := hrel
      have HB := Lib.hid hb
      by_cases hlt : k < n
      · obtain ⟨j, hj⟩ : ∃ j : Nat, j = n - 1 - k := ⟨_, rfl⟩
        have mj : min j 32 = j := by omega
        have HLT := Lib.hid hlt
        have ej : (n : Int) - 1 - (k : Int) = (j : Int) := by omega
        have htk := hiBits_takeI (v := x) hlt
        rw [← hj] at htk
        obtain ⟨y, hy⟩ : ∃ y, x / 2 ^ j = y := ⟨_, rfl⟩
        have hyx : y < 4294967296 := by rw [← hy]; exact Nat.lt_of_le_of_lt (Nat.div_le_self _ _) hx
        have eyi : (x : Int) / 2 ^ j = (y : Int) := by rw [two_pow_cast, ← hy]; simp
        rw [hy] at htk
        rw [ej]
        have HP := Lib.hid (refOneW_any g B0 y wr v1 _ hw (by rw [List.length_append, List.length_take, hiBits_length]; omega) hyx hg)
        rw [List.append_assoc, ← htk] at HP
        have HJ := Lib.hid hj
        clear htk hb hj hy ej hw
        have j0 : (0 : Int) ≤ (j : Int) := by omega
        have j1 : decide ((0 : Int) ≤ (j : Int)) = true := decide_eq_true j0
        clear hk hlt
        go_wp2_with fail
        refine HP.out.mono ?_
        rintro e w2 ⟨rfl, ⟨v2, hw2⟩, hb2⟩
        have HW2 := Lib.hid hw2
        have HB2 := Lib.hid (HB.out.trans hb2)
        clear HP hw2 hb2
        go_wp2
        go_roundw
        case rel => exact ⟨k + 1, v2, by have := HLT.out; omega, by congr 1; have := HJ.out; have := HLT.out; omega, HW2.out, HB2.out⟩
        case measure => simp [intOf]
      · obtain rfl : k = n := by omega
        have ht : (hiBits x k).take k = hiBits x k := List.take_of_length_le (by rw [hiBits_length]; exact Nat.le_refl _)
        rw [ht] at hw
        have em : (k : Int) - 1 - (k : Int) = -1 := by omega
        rw [em]
        have HW := Lib.hid hw
        clear hw hb ht em
        go_wp2
        go_end0
        exact ⟨rfl, ⟨v1, HW.out⟩, HB.out⟩
end Go.Proofs.Ytoeipgbnjcgbjaa
