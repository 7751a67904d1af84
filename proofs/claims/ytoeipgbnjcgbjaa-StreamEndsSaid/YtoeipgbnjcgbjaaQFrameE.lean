/- What a law's proof opens its arguments with, besides: a slice of truth values. -/
import Derived.Test.YtoeipgbnjcgbjaaFrame
import Derived.Test.YtoeipgbnjcgbjaaEnY
import Derived.Deep.Grids
namespace Go.Proofs.Ytoeipgbnjcgbjaa
open Go.ChangeShapes Go.WideShapes Go.ChangeAt Go.RowKit Go.Deep
set_option linter.unusedVariables false

theorem openBools {H : Type} {enc : TypeId × Value → H} {P : Program} {W : World} {base : Nat} {t e : TypeId} {v : Value} {d : DataW H} {p : List MemPlace}
    (ht : P.underlying t = some (.slice e)) (he : P.underlying e = some .bool) (hC : P.cellsOf e = 1) (hval : Value.okWide P W .any base t v) (h : DataW.Trod enc P W 0 (fun _ => true) true t v d p) :
    ∃ (A : Option Addr) (c m : Nat) (G : Nat → Bool), v = .slice A m c ∧ BoolsAt W A m G ∧ m ≤ 9223372036854775807 := by
  obtain ⟨a0, len0, cap0, rfl⟩ := okWide_slice ht hval
  obtain ⟨fuel, hf⟩ := h
  rcases open_bools ht he hC hf with ⟨hcs, _⟩ | ⟨x, l, c, B, hcs, _, hl, hm, _, hcell⟩
  · simp [Value.cells] at hcs
    obtain ⟨rfl, rfl, rfl⟩ := hcs
    exact ⟨none, 0, 0, fun _ => false, rfl, fun h => absurd h (by omega), by omega⟩
  · simp [Value.cells] at hcs
    obtain ⟨rfl, rfl, rfl⟩ := hcs
    unfold maxLen at hm
    refine ⟨some x, cap0, len0, B, rfl, fun hn => ?_, by omega⟩
    obtain ⟨b, o, sp⟩ := x
    have hsp : sp = none := by simpa [Addr.add] using World.cell?_spot (hcell 0 (by omega))
    subst hsp
    have had : ∀ k, (⟨b, o, none⟩ : Addr).add k = ⟨b, o + k, none⟩ := fun k => by unfold Addr.add; split <;> simp_all
    refine ⟨b, o, rfl, ?_, fun i hi => ?_⟩
    · have h1 := hcell 0 (by omega)
      have := World.block_lt_of_cell? W _ h1
      simpa [Addr.add] using this
    · have h1 := hcell i (by omega)
      rwa [had] at h1
end Go.Proofs.Ytoeipgbnjcgbjaa
