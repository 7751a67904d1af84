/- A slice of byte slices, as it lies in memory. No program's function is named here. -/
import Derived.Test.YtoeipgbnjcgbjaaLib
namespace Go.Proofs.Ytoeipgbnjcgbjaa
open Go.RowKit
set_option linter.unusedVariables false

/-- The slice at A reads as the rows xss of bytes. -/
def RowsI (k : IntKind) (w : World) (A : Option Addr) (xss : List (List Int)) : Prop :=
  0 < xss.length → ∃ b o, A = some ⟨b, o, none⟩ ∧ b < w.heap.size ∧ ∀ j, j < xss.length → ∃ Aj cj, w.cell? ⟨b, o + j, none⟩ = some (.slice Aj (xss.getD j []).length cj) ∧ Ints k w Aj (xss.getD j [])
theorem RowsI.below {k : IntKind} {w w' : World} {A : Option Addr} {xss : List (List Int)} (h : RowsI k w A xss) (hb : Below w.heap.size w w') : RowsI k w' A xss := by
  intro hl
  obtain ⟨b, o, hA, hlt, hc⟩ := h hl
  refine ⟨b, o, hA, Nat.lt_of_lt_of_le hlt hb.size, fun j hj => ?_⟩
  obtain ⟨Aj, cj, h1, h2⟩ := hc j hj
  exact ⟨Aj, cj, (hb.cell (p := ⟨b, o + j, none⟩) hlt).trans h1, h2.below hb⟩
theorem flatten_take_le {α : Type} (xss : List (List α)) (k : Nat) : (xss.take k).flatten.length ≤ xss.flatten.length := by
  have := congrArg (fun l => l.flatten.length) (List.take_append_drop k xss)
  simp only [List.flatten_append, List.length_append] at this
  omega
theorem flatten_take_succ (xss : List (List Int)) (k : Nat) (h : k < xss.length) : (xss.take (k + 1)).flatten = (xss.take k).flatten ++ xss.getD k [] := by
  rw [List.take_succ_eq_append_getElem h, List.flatten_append]
  congr 1
  simp [List.getD_eq_getElem?_getD, List.getElem?_eq_getElem h]
end Go.Proofs.Ytoeipgbnjcgbjaa
