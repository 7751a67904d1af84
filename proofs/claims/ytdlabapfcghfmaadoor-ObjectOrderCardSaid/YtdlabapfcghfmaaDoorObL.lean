/- object.Less and the document's: the order of entries. -/
import Derived.Test.YtdlabapfcghfmaaDoorApp
import Derived.BigQuiet
namespace Go.Proofs.YtdlabapfcghfmaaDoor
open Go.RowKit
set_option linter.unusedVariables false
set_option linter.unusedSimpArgs false

theorem less_irr : ∀ a : List UInt8, Op.bytesLess a a = false
  | [] => rfl
  | x :: xs => by simp [Op.bytesLess, less_irr xs]
theorem less_asym : ∀ a b : List UInt8, Op.bytesLess a b = true → Op.bytesLess b a = false
  | [], [], h => by simp [Op.bytesLess] at h
  | [], _ :: _, _ => rfl
  | _ :: _, [], h => by simp [Op.bytesLess] at h
  | x :: xs, y :: ys, h => by
    have ih := less_asym xs ys
    simp only [Op.bytesLess] at h ⊢
    by_cases h1 : x < y
    · have h2 : ¬ y < x := by rw [UInt8.lt_iff_toNat_lt] at *; omega
      have h3 : ¬ y = x := by rintro rfl; rw [UInt8.lt_iff_toNat_lt] at h1; omega
      simp [h2, h3]
    · by_cases h2 : x = y
      · subst h2; simp at h; simp [ih h]
      · simp [h1, h2] at h
theorem less_trans : ∀ a b c : List UInt8, Op.bytesLess a b = true → Op.bytesLess b c = true → Op.bytesLess a c = true
  | [], [], _, h, _ => by simp [Op.bytesLess] at h
  | _, _ :: _, [], _, h => by simp [Op.bytesLess] at h
  | _ :: _, [], _, h, _ => by simp [Op.bytesLess] at h
  | [], _ :: _, _ :: _, _, _ => rfl
  | x :: xs, y :: ys, z :: zs, h1, h2 => by
    have ih := less_trans xs ys zs
    simp only [Op.bytesLess] at h1 h2 ⊢
    by_cases a1 : x < y
    · by_cases a2 : y < z
      · have : x < z := by rw [UInt8.lt_iff_toNat_lt] at *; omega
        simp [this]
      · by_cases a3 : y = z
        · subst a3; simp [a1]
        · simp [a2, a3] at h2
    · by_cases a3 : x = y
      · subst a3
        by_cases a2 : x < z
        · simp [a2]
        · by_cases a4 : x = z
          · subst a4; simp at h1 h2; simp [ih h1 h2]
          · simp [a2, a4] at h2
      · simp [a1, a3] at h1
/-- A name as it is put in order. -/
def keyS (m n : ByteArray) : ByteArray := if m.toList == [52, 48, 48, 48, 48] then n ++ ⟨#[47]⟩ else n
def lessB (m1 n1 m2 n2 : ByteArray) : Bool := Op.bytesLess (keyS m1 n1).toList (keyS m2 n2).toList
set_option maxRecDepth 100000 in
theorem key_any (m n i : ByteArray) (w : World) (hn : n.size ≤ 140737488351232) :
    Calls Tryd.prog 23 #[.agg #[.string m, .string n, .string i]] w fun e w' => e = .returned (.string (keyS m n)) ∧ Below w.heap.size w w' := by
  unfold keyS
  go_enter Tryd.func23, Tryd.ntmps23
  cases h : (m.toList == [52, 48, 48, 48, 48])
  · go_wp2
    go_ret
    exact ⟨rfl, (Below.refl _ _).alloc (Nat.le_refl _) _⟩
  · go_wp2
    go_ret
    exact ⟨rfl, (Below.refl _ _).alloc (Nat.le_refl _) _⟩
set_option maxRecDepth 100000 in
theorem keyR_any (m n i : ByteArray) (w : World) (hn : n.size ≤ 140737488351232) :
    Calls Tryd.prog 24 #[.agg #[.string m, .string n, .string i]] w fun e w' => e = .returned (.string (keyS m n)) ∧ Below w.heap.size w w' := by
  unfold keyS
  go_enter Tryd.func24, Tryd.ntmps24
  cases h : (m.toList == [52, 48, 48, 48, 48])
  · go_wp2
    go_ret
    exact ⟨rfl, (Below.refl _ _).alloc (Nat.le_refl _) _⟩
  · go_wp2
    go_ret
    exact ⟨rfl, (Below.refl _ _).alloc (Nat.le_refl _) _⟩
end Go.Proofs.YtdlabapfcghfmaaDoor
