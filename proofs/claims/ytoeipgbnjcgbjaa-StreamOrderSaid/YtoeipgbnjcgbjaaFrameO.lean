/- What a law's proof opens its arguments with, besides: a slice of Op (a struct of three numbers and a slice of bytes). -/
import Derived.Test.YtoeipgbnjcgbjaaFrameC
import Derived.Deep.Slices
import Derived.Deep.Fields
import Derived.ChangeSame
namespace Go.Proofs.Ytoeipgbnjcgbjaa
open Go.Joins Go.ChangeShapes Go.WideShapes Go.ChangeAt Go.RowKit Go.Deep
set_option linter.unusedVariables false

section
variable {H : Type} {enc : TypeId × Value → H} {P : Program} {w : World} {base : Nat} {spare : Nat → Bool} {held : Bool}
theorem open_slice_fields {t e : TypeId} {fs : Array Field} {fuel : Nat} {cs : List Value} {x : DataW H × List MemPlace} (ht : P.underlying t = some (.slice e)) (he : P.underlying e = some (.struct fs))
    (hone : oneCellFields P fs = true) (hC : P.cellsOf e = fs.size) (h : DataW.trod enc P w base spare held fuel t cs = some x) :
    (cs = [.slice none 0 0] ∧ x = (.nil, [])) ∨
    ∃ (a : Addr) (len cap m : Nat) (D : Nat → DataW H) (Pl : Nat → List MemPlace), cs = [.slice (some a) len cap] ∧ base ≤ a.block ∧ len ≤ cap ∧ cap ≤ maxLen ∧ m = (if spare a.block then cap else len) ∧
      x = (.slice ((List.range len).map D) ((List.range (m - len)).map fun j => D (len + j)), MemPlace.row a (m * fs.size) ++ (List.range m).flatMap Pl) ∧
      ∀ i, i < m → ∃ (ys : List (DataW H × List MemPlace)) (n : Nat), D i = .agg (ys.map (·.1)) ∧ Pl i = ys.flatMap (·.2) ∧ ys.length = fs.size ∧
        ∀ (j : Nat) (f : Field), fs[j]? = some f → ∃ (v : Value) (y : DataW H × List MemPlace), w.cell? (a.add (i * fs.size + j)) = some v ∧ ys[j]? = some y ∧ DataW.trod enc P w base spare held n f.type [v] = some y := by
  rcases open_slice ht h with h0 | ⟨a, len, cap, m, n, D, Pl, hcs, hb, hl, hm, hmm, hx, hi⟩
  · exact .inl h0
  · refine .inr ⟨a, len, cap, m, D, Pl, hcs, hb, hl, hm, hmm, by rw [hC] at hx; exact hx, fun i him => ?_⟩
    obtain ⟨cs', hc, ht'⟩ := hi i him
    rw [hC] at hc
    obtain ⟨ys, n', hn', hy, hlen, hyl, hf⟩ := DataW.trod_struct he ht'
    obtain ⟨_, hcl, hat⟩ := World.cells?_some hc
    simp only [Prod.mk.injEq] at hy
    refine ⟨ys, n', hy.1, hy.2, hyl, fun j f hj => ?_⟩
    obtain ⟨ho, hk⟩ := hone_of hone j f hj
    have hjl : j < fs.size := (Array.getElem?_eq_some_iff.1 hj).1
    have hcell := hat j hjl
    have hv : cs'[j]? = some (cs'[j]'(by omega)) := List.getElem?_eq_getElem (by omega)
    have h1 := hf j f hj
    rw [ho, hk] at h1
    have hone' : (cs'.drop j).take 1 = [cs'[j]'(by omega)] := by
      rw [List.drop_eq_getElem_cons (by omega)]
      rfl
    rw [hone'] at h1
    have hys : ys[j]? = some (ys[j]'(by omega)) := List.getElem?_eq_getElem (by omega)
    refine ⟨_, _, ?_, hys, h1.trans hys⟩
    rw [← Go.Deep.add_add, hcell, hv]
end
/-- The script in memory. -/
def OpsIn (W : World) (As : Option Addr) (n : Nat) : Prop :=
  0 < n → ∃ b o, As = some ⟨b, o, none⟩ ∧ b < W.heap.size ∧ ∀ i, i < n → ∃ (kd who ix : Int) (A : Option Addr) (c : Nat) (xs : List Int),
    W.cell? ⟨b, o + i * 4, none⟩ = some (.int .i64 kd) ∧ W.cell? ⟨b, o + i * 4 + 1, none⟩ = some (.int .i64 who) ∧ W.cell? ⟨b, o + i * 4 + 2, none⟩ = some (.int .i64 ix) ∧ W.cell? ⟨b, o + i * 4 + 3, none⟩ = some (.slice A xs.length c) ∧
    (Lit.int .i64 kd).wf = true ∧ (Lit.int .i64 who).wf = true ∧ (Lit.int .i64 ix).wf = true ∧ Ints .u8 W A xs ∧ (∀ x ∈ xs, 0 ≤ x ∧ x < 256) ∧ xs.length ≤ c ∧ c ≤ 9223372036854775807
theorem openOps {H : Type} {enc : TypeId × Value → H} {P : Program} {W : World} {t e : TypeId} {v : Value} {d : DataW H} {p : List MemPlace} {base : Nat} {f0 f1 f2 f3 : Field} {e3 : TypeId}
    (ht : P.underlying t = some (.slice e)) (he : P.underlying e = some (.struct #[f0, f1, f2, f3])) (hone : oneCellFields P #[f0, f1, f2, f3] = true) (hC : P.cellsOf e = 4)
    (h0 : P.underlying f0.type = some (.int .i64)) (h1 : P.underlying f1.type = some (.int .i64)) (h2 : P.underlying f2.type = some (.int .i64)) (h3 : P.underlying f3.type = some (.slice e3)) (h4 : P.underlying e3 = some (.int .u8)) (hC3 : P.cellsOf e3 = 1)
    (hval : Value.okWide P W .any base t v) (h : DataW.Trod enc P W 0 (fun _ => true) true t v d p) :
    ∃ (A : Option Addr) (n c : Nat), v = .slice A n c ∧ OpsIn W A n ∧ n ≤ 9223372036854775807 := by
  obtain ⟨a0, len0, cap0, rfl⟩ := okWide_slice ht hval
  obtain ⟨fuel, hf⟩ := h
  rcases open_slice_fields ht he hone hC hf with ⟨hcs, _⟩ | ⟨x, l, c, m, D, Pl, hcs, _, hl, hm, hmm, _, hi⟩
  · simp [Value.cells] at hcs
    obtain ⟨rfl, rfl, rfl⟩ := hcs
    exact ⟨none, 0, 0, rfl, fun h => absurd h (by omega), by omega⟩
  · simp [Value.cells] at hcs
    obtain ⟨rfl, rfl, rfl⟩ := hcs
    unfold maxLen at hm
    refine ⟨some x, len0, cap0, rfl, fun hn => ?_, by omega⟩
    have hmn : m = cap0 := hmm
    obtain ⟨b, o, sp⟩ := x
    obtain ⟨ys, n0, _, _, _, hfld⟩ := hi 0 (by omega)
    obtain ⟨u0, y0, hc0, _, _⟩ := hfld 0 f0 rfl
    have hsp : sp = none := by simpa [Addr.add] using World.cell?_spot hc0
    subst hsp
    have had : ∀ k, (⟨b, o, none⟩ : Addr).add k = ⟨b, o + k, none⟩ := fun k => by unfold Addr.add; split <;> simp_all
    refine ⟨b, o, rfl, ?_, fun i hin => ?_⟩
    · have := World.block_lt_of_cell? W _ hc0
      simpa [Addr.add] using this
    · obtain ⟨ys, n0, _, _, _, hfld⟩ := hi i (by omega)
      obtain ⟨u0, y0, hc0, _, t0⟩ := hfld 0 f0 rfl
      obtain ⟨u1, y1, hc1, _, t1⟩ := hfld 1 f1 rfl
      obtain ⟨u2, y2, hc2, _, t2⟩ := hfld 2 f2 rfl
      obtain ⟨u3, y3, hc3, _, t3⟩ := hfld 3 f3 rfl
      obtain ⟨a0, rfl, w0⟩ := wfOf h0 t0
      obtain ⟨a1, rfl, w1⟩ := wfOf h1 t1
      obtain ⟨a2, rfl, w2⟩ := wfOf h2 t2
      obtain ⟨A3, c3, xs, rfl, hI, hw, g1, g2⟩ := openIntsF h3 h4 hC3 t3
      rw [had] at hc0 hc1 hc2 hc3
      exact ⟨a0, a1, a2, A3, c3, xs, hc0, hc1, hc2, hc3, w0, w1, w2, hI, bytes_wf' _ hw, g1, g2⟩
end Go.Proofs.Ytoeipgbnjcgbjaa
