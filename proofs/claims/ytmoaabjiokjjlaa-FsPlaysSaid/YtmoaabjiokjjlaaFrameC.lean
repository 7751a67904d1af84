/- What a law's proof opens its arguments with, besides: a slice's capacity; a slice in a field; a struct of five fields. -/
import Derived.Test.YtmoaabjiokjjlaaFrame
import Derived.Lib.SmallJoins
namespace Go.Proofs.Ytmoaabjiokjjlaa
open Go.Joins Go.ChangeShapes Go.WideShapes Go.ChangeAt Go.RowKit Go.Deep
set_option linter.unusedVariables false

/-- A slice in a field (or wherever its reading is known by its cells). -/
theorem openIntsF {H : Type} {enc : TypeId × Value → H} {P : Program} {W : World} {n : Nat} {t e : TypeId} {k : IntKind} {v : Value} {y : DataW H × List MemPlace}
    (ht : P.underlying t = some (.slice e)) (he : P.underlying e = some (.int k)) (hC : P.cellsOf e = 1) (h : DataW.trod enc P W 0 (fun _ => true) true n t [v] = some y) :
    ∃ (A : Option Addr) (c : Nat) (xs : List Int), v = .slice A xs.length c ∧ Ints k W A xs ∧ (∀ x ∈ xs, (Lit.int k x).wf = true) ∧ xs.length ≤ c ∧ c ≤ 9223372036854775807 := by
  rcases open_ints ht he hC h with ⟨hcs, _⟩ | ⟨x, l, c, zs, hcs, _, hl, hm, hz, hx, hcell, hwz⟩
  · injection hcs with hcs
    subst hcs
    exact ⟨none, 0, [], rfl, Ints.nil, by simp, by simp, by omega⟩
  · injection hcs with hcs
    subst hcs
    have hzl : zs.length = c := by simpa using hz
    unfold maxLen at hm
    refine ⟨some x, c, zs.take l, by rw [List.length_take_of_le (by omega)], ?_, fun y hy => hwz y (List.mem_of_mem_take hy), by rw [List.length_take_of_le (by omega)]; exact hl, by omega⟩
    intro h0
    obtain ⟨b, o, sp⟩ := x
    rw [List.length_take_of_le (by omega)] at h0
    have hsp : sp = none := by simpa [Addr.add] using World.cell?_spot (hcell 0 (by omega))
    subst hsp
    refine ⟨b, o, rfl, ?_, fun i hi => ?_⟩
    · have h1 := hcell 0 (by omega)
      have := World.block_lt_of_cell? W _ h1
      simpa [Addr.add] using this
    · rw [List.length_take_of_le (by omega)] at hi
      have h1 := hcell i (by omega)
      have h2 : (⟨b, o, none⟩ : Addr).add i = ⟨b, o + i, none⟩ := by unfold Addr.add; split <;> simp_all
      rw [h2] at h1
      rw [h1]
      simp [List.getD_eq_getElem?_getD, hi]
theorem bytes_wf' (xs : List Int) (wf : ∀ x ∈ xs, (Lit.int .u8 x).wf = true) : ∀ x ∈ xs, 0 ≤ x ∧ x < 256 := fun x hx => by
  have := wf x hx
  simp [Lit.wf, IntKind.min, IntKind.max, IntKind.bits, IntKind.signed] at this
  omega
theorem capOf {H : Type} {enc : TypeId × Value → H} {P : Program} {W : World} {n c : Nat} {A : Option Addr} {t e : TypeId} {k : IntKind} {d : DataW H} {p : List MemPlace}
    (ht : P.underlying t = some (.slice e)) (he : P.underlying e = some (.int k)) (hC : P.cellsOf e = 1) (h : DataW.Trod enc P W 0 (fun _ => true) true t (.slice A n c) d p) : n ≤ c ∧ c ≤ 9223372036854775807 := by
  obtain ⟨fuel, hf⟩ := h
  obtain ⟨A', c', xs, e, _, _, h1, h2⟩ := openIntsF ht he hC (v := .slice A n c) (by simpa [Value.cells] using hf)
  injection e with _ e1 e2
  omega
theorem wfOf {H : Type} {enc : TypeId × Value → H} {P : Program} {W : World} {n : Nat} {t : TypeId} {k : IntKind} {v : Value} {y : DataW H × List MemPlace}
    (ht : P.underlying t = some (.int k)) (h : DataW.trod enc P W 0 (fun _ => true) true n t [v] = some y) : ∃ x, v = .int k x ∧ (Lit.int k x).wf = true := by
  obtain ⟨x, h1, h2, h3⟩ := DataW.trod_int ht h
  injection h1 with h1
  exact ⟨x, h1, h3⟩
section
variable {H : Type} {enc : TypeId × Value → H} {P : Program} {w : World} {base : Nat} {spare : Nat → Bool} {held : Bool}
theorem open_agg5 {r : Reach} {b0 : Nat} {t : TypeId} {f0 f1 f2 f3 f4 : Field} {v : Value} {d : DataW H} {p : List MemPlace} (hs : P.underlying t = some (.struct #[f0, f1, f2, f3, f4])) (hone : oneCellFields P #[f0, f1, f2, f3, f4] = true) (hC : P.cellsOf t = 5)
    (hv : Value.okWide P w r b0 t v) (h : DataW.Trod enc P w base spare held t v d p) :
    ∃ (v0 v1 v2 v3 v4 : Value) (y0 y1 y2 y3 y4 : DataW H × List MemPlace) (n : Nat), v = .agg #[v0, v1, v2, v3, v4] ∧ d = .agg [y0.1, y1.1, y2.1, y3.1, y4.1] ∧ p = y0.2 ++ (y1.2 ++ (y2.2 ++ (y3.2 ++ y4.2))) ∧
      DataW.trod enc P w base spare held n f0.type [v0] = some y0 ∧ DataW.trod enc P w base spare held n f1.type [v1] = some y1 ∧ DataW.trod enc P w base spare held n f2.type [v2] = some y2 ∧ DataW.trod enc P w base spare held n f3.type [v3] = some y3 ∧ DataW.trod enc P w base spare held n f4.type [v4] = some y4 := by
  obtain ⟨cs, rfl, hsz⟩ := okWide_struct hs hv
  obtain ⟨l⟩ := cs
  match l, hsz.trans hC with
  | [c0, c1, c2, c3, c4], _ =>
    obtain ⟨fuel, hf⟩ := h
    obtain ⟨xs, n, _, hx, _, hlen, hg⟩ := DataW.trod_struct hs hf
    obtain ⟨o0, k0⟩ := hone_of hone 0 f0 rfl
    obtain ⟨o1, k1⟩ := hone_of hone 1 f1 rfl
    obtain ⟨o2, k2⟩ := hone_of hone 2 f2 rfl
    obtain ⟨o3, k3⟩ := hone_of hone 3 f3 rfl
    obtain ⟨o4, k4⟩ := hone_of hone 4 f4 rfl
    match xs, hlen with
    | [y0, y1, y2, y3, y4], _ =>
      simp only [Prod.mk.injEq] at hx
      exact ⟨c0, c1, c2, c3, c4, y0, y1, y2, y3, y4, n, rfl, by simpa using hx.1, by simpa using hx.2, by simpa [Value.cells, o0, k0] using hg 0 f0 rfl, by simpa [Value.cells, o1, k1] using hg 1 f1 rfl, by simpa [Value.cells, o2, k2] using hg 2 f2 rfl, by simpa [Value.cells, o3, k3] using hg 3 f3 rfl, by simpa [Value.cells, o4, k4] using hg 4 f4 rfl⟩
end
end Go.Proofs.Ytmoaabjiokjjlaa
