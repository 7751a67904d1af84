/- As FrameU, for an argument that is a slice of slices of integers. -/
import Derived.Test.YtoeipgbnjcgbjaaFrameU
import Derived.Test.YtoeipgbnjcgbjaaRows2
import Derived.Deep.Matrix
namespace Go.Proofs.Ytoeipgbnjcgbjaa
open Go.ChangeShapes Go.WideShapes Go.ChangeAt Go.RowKit Go.Deep

theorem uptoRows {H : Type} (f : Nat → DataW H) (g : Nat → List Int) : ∀ (l : List Nat), (∀ r ∈ l, (g r).length + 1 ≤ Rows.uptoBulk (f r)) → ((l.map g).flatten).length + l.length ≤ Rows.uptoBulkAll (l.map f) := by
  intro l
  induction l with
  | nil => intro _; simp [Rows.uptoBulkAll]
  | cons r l ih =>
    intro h
    have h1 := h r (by simp)
    have h2 := ih (fun q hq => h q (by simp [hq]))
    simp only [List.map_cons, List.flatten_cons, List.length_append, List.length_cons, Rows.uptoBulkAll]
    omega
theorem openRowsU {H : Type} {enc : TypeId × Value → H} {P : Program} {W : World} {base : Nat} {t e q : TypeId} {k : IntKind} {v : Value} {d : DataW H} {p : List MemPlace}
    (ht : P.underlying t = some (.slice e)) (he : P.underlying e = some (.slice q)) (hq : P.underlying q = some (.int k)) (ce : P.cellsOf e = 1) (cq : P.cellsOf q = 1) (hval : Value.okWide P W .any base t v) (h : DataW.Trod enc P W 0 (fun _ => true) true t v d p) :
    ∃ (A : Option Addr) (c : Nat) (xss : List (List Int)), v = .slice A xss.length c ∧ RowsI k W A xss ∧ (∀ ys ∈ xss, ∀ x ∈ ys, (Lit.int k x).wf = true) ∧ xss.flatten.length + xss.length + 1 ≤ Rows.uptoBulk d := by
  obtain ⟨a0, len0, cap0, rfl⟩ := okWide_slice ht hval
  obtain ⟨fuel, hf⟩ := h
  rcases open_int_rows ht he hq ce cq hf with ⟨hcs, hdp⟩ | ⟨a, len, cap, A, L, C, Z, hcs, _, hl, hm, hx, hrow⟩
  · obtain rfl : d = .nil := (Prod.mk.inj hdp).1
    simp [Value.cells] at hcs
    obtain ⟨rfl, rfl, rfl⟩ := hcs
    exact ⟨none, 0, [], rfl, fun h => absurd h (by simp), by simp, by simp [Rows.uptoBulk]⟩
  · simp [Value.cells] at hcs
    obtain ⟨rfl, rfl, rfl⟩ := hcs
    obtain ⟨rfl, rfl⟩ := Prod.mk.inj hx
    have hlen : ∀ j, j < cap0 → ((Z j).take (L j)).length = L j := fun j hj => by
      obtain ⟨_, h2, _, h4, _⟩ := hrow j hj
      rw [List.length_take]; omega
    have hget : ∀ j, j < len0 → ((List.range len0).map fun r => (Z r).take (L r)).getD j [] = (Z j).take (L j) := fun j hj => by
      simp [List.getD_eq_getElem?_getD, hj]
    refine ⟨some a, cap0, (List.range len0).map fun r => (Z r).take (L r), by simp, fun h0 => ?_, fun ys hys x hx => ?_, ?_⟩
    · simp at h0
      obtain ⟨b, o, sp⟩ := a
      have hsp : sp = none := by simpa [Addr.add] using World.cell?_spot (hrow 0 (by omega)).1
      subst hsp
      have hadd : ∀ j, (⟨b, o, none⟩ : Addr).add j = ⟨b, o + j, none⟩ := fun j => by unfold Addr.add; split <;> simp_all
      refine ⟨b, o, rfl, ?_, fun j hj => ?_⟩
      · have := World.block_lt_of_cell? W _ (hrow 0 (by omega)).1
        simpa [Addr.add] using this
      · simp at hj
        obtain ⟨h1, h2, h3, h4, h5, h6, h7⟩ := hrow j (by omega)
        rw [hget j hj, hlen j (by omega)]
        refine ⟨A j, C j, by rw [← hadd]; exact h1, fun hl0 => ?_⟩
        rw [hlen j (by omega)] at hl0
        cases hA : A j with
        | none => have := h6 hA; omega
        | some a' =>
          obtain ⟨_, hc⟩ := h7 a' hA
          obtain ⟨b', o', sp'⟩ := a'
          have hsp : sp' = none := by simpa [Addr.add] using World.cell?_spot (hc 0 (by omega))
          subst hsp
          have hadd' : ∀ j, (⟨b', o', none⟩ : Addr).add j = ⟨b', o' + j, none⟩ := fun j => by unfold Addr.add; split <;> simp_all
          refine ⟨b', o', rfl, ?_, fun i hi => ?_⟩
          · have := World.block_lt_of_cell? W _ (hc 0 (by omega))
            simpa [Addr.add] using this
          · rw [hlen j (by omega)] at hi
            rw [← hadd', hc i (by omega)]
            simp [List.getD_eq_getElem?_getD, hi]
    · obtain ⟨r, hr, rfl⟩ := List.mem_map.1 hys
      have hr' := List.mem_range.1 hr
      exact (hrow r (by omega)).2.2.2.2.1 x (List.mem_of_mem_take hx)
    · have h1 := uptoRows (H := H) (fun r => intRow k (A r) (L r) (Z r)) (fun r => (Z r).take (L r)) (List.range len0) (fun r hr => by
        have hr' := List.mem_range.1 hr
        have hlr := hlen r (by omega)
        obtain ⟨_, h2, _, h4, _, h6, _⟩ := hrow r (by omega)
        simp only [hlr]
        cases hA : A r with
        | none => have := h6 hA; simp [intRow, Rows.uptoBulk]; omega
        | some a' =>
          have h7 := uptoLen (H := H) (lits k ((Z r).take (L r)))
          simp only [intRow, Rows.uptoBulk]
          simp only [lits, List.length_map] at h7 ⊢
          omega)
      simp only [Rows.uptoBulk]
      simp only [List.length_map] at h1 ⊢
      omega
end Go.Proofs.Ytoeipgbnjcgbjaa
