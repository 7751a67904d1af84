/- Readers of bits, the program's and the document's: how they lie in memory; Take, Used, Read; one, Left, Used. -/
import Derived.Test.YtoeipgbnjcgbjaaReadMath
import Derived.Test.YtoeipgbnjcgbjaaSumWriteC
namespace Go.Proofs.Ytoeipgbnjcgbjaa
open Go.RowKit
set_option linter.unusedVariables false

/-- A reader of the bytes bs at place p: block g, of type t; the bytes lie below block L. -/
def RdRep (t : TypeId) (L g : Nat) (w : World) (bs : List Int) (p : Nat) : Prop :=
  ∃ A c, Cel w g t 2 (fun i => if i = 0 then .slice A bs.length c else .int .i64 p) ∧ Ints .u8 w A bs ∧ (0 < bs.length → ∀ b o, A = some ⟨b, o, none⟩ → b < L) ∧ L ≤ g ∧ (t = 130 → bs.length ≤ c ∧ c ≤ maxLen)
section
variable {t : TypeId} {L g : Nat} {w w' : World} {bs : List Int} {p : Nat}
theorem RdRep.c0 (h : RdRep t L g w bs p) : ∃ A c, w.cell? ⟨g, 0, none⟩ = some (.slice A bs.length c) ∧ Ints .u8 w A bs ∧ (0 < bs.length → ∀ o, A ≠ some ⟨g, o, none⟩) := by
  obtain ⟨A, c, h1, h2, h3, h4, _⟩ := h
  exact ⟨A, c, h1.cell 0 (by decide), h2, fun hl o hA => by have := h3 hl g o hA; omega⟩
theorem RdRep.c0' (h : RdRep 130 L g w bs p) : ∃ A c, w.cell? ⟨g, 0, none⟩ = some (.slice A bs.length c) ∧ Ints .u8 w A bs ∧ (0 < bs.length → ∀ o, A ≠ some ⟨g, o, none⟩) ∧ bs.length ≤ c ∧ c ≤ maxLen := by
  obtain ⟨A, c, h1, h2, h3, h4, h5⟩ := h
  exact ⟨A, c, h1.cell 0 (by decide), h2, fun hl o hA => by have := h3 hl g o hA; omega, (h5 rfl).1, (h5 rfl).2⟩
theorem RdRep.cel (h : RdRep t L g w bs p) : ∃ f, Cel w g t 2 f := by
  obtain ⟨A, c, h1, _⟩ := h
  exact ⟨_, h1⟩
theorem RdRep.low (h : RdRep t L g w bs p) : L ≤ g := by
  obtain ⟨A, c, _, _, _, h4, _⟩ := h
  exact h4
theorem RdRep.c1 (h : RdRep t L g w bs p) : w.cell? ⟨g, 1, none⟩ = some (.int .i64 p) := by
  obtain ⟨A, c, h1, h2, h3⟩ := h
  exact h1.cell 1 (by decide)
theorem RdRep.blk (h : RdRep t L g w bs p) : g < w.heap.size := by
  obtain ⟨A, c, h1, h2, h3⟩ := h
  exact h1.blk
theorem RdRep.frozen (h : RdRep t L g w bs p) (i : Nat) : w.frozen? ⟨g, i, none⟩ = false := by
  obtain ⟨A, c, h1, h2, h3⟩ := h
  exact h1.frozen i
theorem RdRep.drew (h : RdRep t L g w bs p) : RdRep t L g w.drew bs p := by
  obtain ⟨A, c, h1, h2, h3⟩ := h
  exact ⟨A, c, h1.drew, h2.drew, h3⟩
theorem RdRep.drewN (h : RdRep t L g w bs p) (n : Nat) : RdRep t L g (w.drewN n) bs p := by
  obtain ⟨A, c, h1, h2, h3⟩ := h
  exact ⟨A, c, h1.drewN n, h2.heap rfl, h3⟩
theorem RdRep.set (h : RdRep t L g w bs p) (q : Nat) : RdRep t L g (w.setCell ⟨g, 1, none⟩ (.int .i64 q)) bs q := by
  obtain ⟨A, c, h1, h2, h3, h4, h5⟩ := h
  refine ⟨A, c, (h1.set 1 _).congr (fun i hi => ?_), fun hl => ?_, h3, h4, h5⟩
  · by_cases e : i = 1
    · subst e; rfl
    · simp only [e, if_false]; rw [if_pos (by omega), if_pos (by omega)]
  · obtain ⟨b, o, hA, hlt, hc⟩ := h2 hl
    refine ⟨b, o, hA, by simpa [World.setCell] using hlt, fun j hj => ?_⟩
    rw [World.cell?_setCell_other _ _ _ _ (fun e => ?_)]
    · exact hc j hj
    · injection e with e1 _ _
      have := h3 hl b o hA
      omega
theorem RdRep.chg {S : Nat → Prop} (h : RdRep t L g w bs p) (hc : Chg S w w') (h1 : ¬ S g) (h2 : ∀ b, b < L → ¬ S b) : RdRep t L g w' bs p := by
  obtain ⟨A, c, k1, k2, k3, k4⟩ := h
  by_cases hl : 0 < bs.length
  · exact ⟨A, c, k1.chg hc h1, k2.chg hc (fun b o hA => h2 b (k3 hl b o hA)), k3, k4⟩
  · exact ⟨A, c, k1.chg hc h1, fun h => absurd h hl, k3, k4⟩
theorem RdRep.below (h : RdRep t L g w bs p) (hb : Below w.heap.size w w') : RdRep t L g w' bs p :=
  h.chg (S := fun _ => False) (Chg.of_below hb) (fun h => h) (fun _ _ h => h)
end

/-- The number of n bits from place p on, the lowest first. -/
def takeN (bs : List Int) (p : Nat) : Nat → Int
  | 0 => 0
  | n + 1 => takeN bs p n + bitAt bs (p + n) * 2 ^ n
theorem two_pow_cast (n : Nat) : ((2 : Int) ^ n) = ((2 ^ n : Nat) : Int) := by rw [Int.natCast_pow]; rfl
theorem takeN_le (bs : List Int) (p n : Nat) : 0 ≤ takeN bs p n ∧ takeN bs p n < 2 ^ n := by
  induction n with
  | zero => simp [takeN]
  | succ n ih =>
    have hb := bitAt_le bs (p + n)
    rw [takeN, Int.pow_succ]
    obtain ⟨q, hq⟩ : ∃ q : Int, q = 2 ^ n := ⟨_, rfl⟩
    rw [← hq] at ih ⊢
    rcases (show bitAt bs (p + n) = 0 ∨ bitAt bs (p + n) = 1 by omega) with h | h <;> rw [h] <;> omega
theorem takeN_one (bs : List Int) (p : Nat) : takeN bs p 1 = bitAt bs p := by simp [takeN]
theorem mod_pow_succ' (x : Int) (k : Nat) (h : 0 ≤ x) : x % 2 ^ (k + 1) = x % 2 ^ k + 2 ^ k * (x / 2 ^ k % 2) := by
  obtain ⟨n, rfl⟩ := Int.eq_ofNat_of_zero_le h
  have := Nat.mod_pow_succ (b := 2) (x := n) (k := k)
  rw [two_pow_cast, two_pow_cast]
  exact_mod_cast this
theorem takeN_more (bs : List Int) (hb : Bytes bs) (p j : Nat) : ∀ k, (p + j) % 8 + k ≤ 8 → (p + j) / 8 < bs.length → takeN bs p (j + k) = takeN bs p j + bs.getD ((p + j) / 8) 0 / 2 ^ ((p + j) % 8) % 2 ^ k * 2 ^ j := by
  intro k
  induction k with
  | zero => intro _ _; simp
  | succ k ih =>
    intro hk hl
    have hx := hb.at_ _ hl
    have hp : (0 : Int) < 2 ^ ((p + j) % 8) := Int.pow_pos (by decide)
    have hd : 0 ≤ bs.getD ((p + j) / 8) 0 / 2 ^ ((p + j) % 8) := Int.ediv_nonneg hx.1 (Int.le_of_lt hp)
    rw [show j + (k + 1) = (j + k) + 1 by omega, takeN, ih (by omega) hl, mod_pow_succ' _ _ hd]
    have e1 : bitAt bs (p + (j + k)) = bs.getD ((p + j) / 8) 0 / 2 ^ ((p + j) % 8) / 2 ^ k % 2 := by
      unfold bitAt
      rw [show (p + (j + k)) / 8 = (p + j) / 8 by omega, show (p + (j + k)) % 8 = (p + j) % 8 + k by omega, Int.pow_add, ← Int.ediv_ediv_of_nonneg]
      exact Int.le_of_lt hp
    rw [e1, Int.pow_add, Int.add_mul, Int.add_assoc]
    congr 1
    congr 1
    rw [Int.mul_comm (2 ^ j) (2 ^ k), ← Int.mul_assoc, Int.mul_comm (2 ^ k)]
end Go.Proofs.Ytoeipgbnjcgbjaa
