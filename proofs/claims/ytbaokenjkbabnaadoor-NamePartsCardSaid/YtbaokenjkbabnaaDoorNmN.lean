/- NameParts, plain: a closed check over all its names. -/
import Derived.Test.YtbaokenjkbabnaaDoorNmP
namespace Go.Proofs.YtbaokenjkbabnaaDoor
set_option linter.unusedVariables false

def partsS : Nat → List UInt8
  | 0 => [114, 101, 102, 115]
  | n + 1 => partsS n ++ [47, 112, UInt8.ofNat (97 + n), 195, 169]
def signsL : List (List UInt8) := [[126], [94], [58], [63], [42], [91], [92], [32], [127], [1], [46, 46], [64, 123], [47, 47], [47, 46], [46, 108, 111, 99, 107, 47], [255]]
def checkT (s : List UInt8) (k : Nat) : Bool := signsL.all fun g => !validN (s.take k ++ (g ++ s.drop k))
def checkK (s : List UInt8) (k : Nat) : Bool := decide (k < 5) || (decide (k < s.length) && decide (128 ≤ (s.getD k 0).toNat)) || checkT s k
def checkS (s : List UInt8) : Bool := validN s && (!validN (s ++ [47]) && (!validN (s ++ [46, 108, 111, 99, 107]) && !validN (s ++ [46])))
theorem part1 : checkS (partsS 1) = true := by kernel_rfl
theorem parts1 : ((List.range 10).all (checkK (partsS 1))) = true := by kernel_rfl
theorem part2 : checkS (partsS 2) = true := by kernel_rfl
theorem parts2 : ((List.range 15).all (checkK (partsS 2))) = true := by kernel_rfl
theorem part3 : checkS (partsS 3) = true := by kernel_rfl
theorem parts3 : ((List.range 20).all (checkK (partsS 3))) = true := by kernel_rfl
theorem part4 : checkS (partsS 4) = true := by kernel_rfl
theorem parts4 : ((List.range 25).all (checkK (partsS 4))) = true := by kernel_rfl
theorem part5 : checkS (partsS 5) = true := by kernel_rfl
theorem parts5 : ((List.range 30).all (checkK (partsS 5))) = true := by kernel_rfl
theorem part6 : checkS (partsS 6) = true := by kernel_rfl
theorem parts6 : ((List.range 35).all (checkK (partsS 6))) = true := by kernel_rfl
theorem part7 : checkS (partsS 7) = true := by kernel_rfl
theorem parts7 : ((List.range 40).all (checkK (partsS 7))) = true := by kernel_rfl
theorem part8 : checkS (partsS 8) = true := by kernel_rfl
theorem parts8 : ((List.range 45).all (checkK (partsS 8))) = true := by kernel_rfl
theorem partsS_len : ∀ n, (partsS n).length = 5 * n + 4
  | 0 => rfl
  | n + 1 => by rw [partsS, List.length_append, partsS_len n]; simp only [List.length_cons, List.length_nil]; omega
theorem checked {n : Nat} (h1 : 1 ≤ n) (h8 : n ≤ 8) : checkS (partsS n) = true ∧ ∀ k, k ≤ (partsS n).length → checkK (partsS n) k = true := by
  have key : ∀ m, ((List.range (5 * m + 5)).all (checkK (partsS m))) = true → ∀ k, k ≤ (partsS m).length → checkK (partsS m) k = true := fun m h k hk => by
    rw [List.all_eq_true] at h
    rw [partsS_len] at hk
    exact h k (List.mem_range.2 (by omega))
  have : n = 1 ∨ n = 2 ∨ n = 3 ∨ n = 4 ∨ n = 5 ∨ n = 6 ∨ n = 7 ∨ n = 8 := by omega
  rcases this with rfl | rfl | rfl | rfl | rfl | rfl | rfl | rfl
  · exact ⟨part1, key 1 parts1⟩
  · exact ⟨part2, key 2 parts2⟩
  · exact ⟨part3, key 3 parts3⟩
  · exact ⟨part4, key 4 parts4⟩
  · exact ⟨part5, key 5 parts5⟩
  · exact ⟨part6, key 6 parts6⟩
  · exact ⟨part7, key 7 parts7⟩
  · exact ⟨part8, key 8 parts8⟩
/-- At a place that is no byte of a rune's from its second on, every sign makes the name bad. -/
theorem sign_bad {s : List UInt8} {k : Nat} (h : checkK s k = true) (h5 : 5 ≤ k) (hk : k < s.length → (s.getD k 0).toNat < 128) (m : Nat) (hm : m < 16) : validN (s.take k ++ (signsL.getD m [] ++ s.drop k)) = false := by
  unfold checkK at h
  rw [decide_eq_false (show ¬ k < 5 by omega), Bool.false_or] at h
  have hno : (decide (k < s.length) && decide (128 ≤ (s.getD k 0).toNat)) = false := by
    by_cases hl : k < s.length
    · have := hk hl
      rw [decide_eq_false (show ¬ 128 ≤ (s.getD k 0).toNat by omega), Bool.and_false]
    · rw [decide_eq_false hl, Bool.false_and]
  rw [hno, Bool.false_or] at h
  unfold checkT at h
  rw [List.all_eq_true] at h
  have := h (signsL.getD m []) (by
    rw [List.getD_eq_getElem?_getD, List.getElem?_eq_getElem (by exact hm)]
    exact List.getElem_mem _)
  simpa using this
theorem signs_len (m : Nat) : (signsL.getD m []).length ≤ 6 := by
  rw [List.getD_eq_getElem?_getD]
  rcases Nat.lt_or_ge m 16 with h | h
  · rw [List.getElem?_eq_getElem (by exact h)]
    have hall : signsL.all (fun g => decide (g.length ≤ 6)) = true := by decide
    rw [List.all_eq_true] at hall
    exact of_decide_eq_true (hall _ (List.getElem_mem _))
  · rw [List.getElem?_eq_none (by exact h)]
    simp
end Go.Proofs.YtbaokenjkbabnaaDoor
