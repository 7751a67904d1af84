/- What a law's proof opens its arguments with, besides: a script of calls of a file system. -/
import Derived.Test.YtmoaabjiokjjlaaFrameC
import Derived.Deep.Slices
import Derived.Deep.Fields
import Derived.ChangeSame
namespace Go.Proofs.Ytmoaabjiokjjlaa
open Go.Joins Go.ChangeShapes Go.WideShapes Go.ChangeAt Go.RowKit Go.Deep
set_option linter.unusedVariables false

section
variable {H : Type} {enc : TypeId × Value → H} {P : Program} {w : World} {base : Nat} {spare : Nat → Bool} {held : Bool}
theorem open_slice_fields {t e : TypeId} {fs : Array Field} {fuel : Nat} {cs : List Value} {x : DataW H × List MemPlace} (ht : P.underlying t = some (.slice e)) (he : P.underlying e = some (.struct fs))
    (hone : oneCellFields P fs = true) (hC : P.cellsOf e = fs.size) (h : DataW.trod enc P w base spare held fuel t cs = some x) :
    (cs = [.slice none 0 0] ∧ x = (.nil, [])) ∨
    ∃ (a : Addr) (len cap m : Nat) (D : Nat → DataW H) (Pl : Nat → List MemPlace), cs = [.slice (some a) len cap] ∧ base ≤ a.block ∧ len ≤ cap ∧ cap ≤ maxLen ∧ m = (if spare a.block then cap else len) ∧
      x = (.slice ((List.range len).map D) ((List.range (m - len)).map fun j => D (len + j)), MemPlace.row a (m * fs.size) ++ (List.range m).flatMap Pl) ∧
      ∀ i, i < m → ∃ (ys : List (DataW H × List MemPlace)) (n : Nat), D i = .agg (ys.map (·.1)) ∧ Pl i = ys.flatMap (·.2) ∧ ys.length = fs.size ∧
        ∀ (j : Nat) (f : Field), fs[j]? = some f → ∃ (v : Value) (y : DataW H × List MemPlace), w.cell? (a.add (i * fs.size + j)) = some v ∧ ys[j]? = some y ∧ DataW.trod enc P w base spare held n f.type [v] = some y := by
  rcases open_slice ht h with h0 | ⟨a, len, cap, m, n, D, Pl, hcs, hb, hl, hm, hmm, hx, hi⟩
  · exact .inl h0
  · refine .inr ⟨a, len, cap, m, D, Pl, hcs, hb, hl, hm, hmm, by rw [hC] at hx; exact hx, fun i him => ?_⟩
    obtain ⟨cs', hc, ht'⟩ := hi i him
    rw [hC] at hc
    obtain ⟨ys, n', hn', hy, hlen, hyl, hf⟩ := DataW.trod_struct he ht'
    obtain ⟨_, hcl, hat⟩ := World.cells?_some hc
    simp only [Prod.mk.injEq] at hy
    refine ⟨ys, n', hy.1, hy.2, hyl, fun j f hj => ?_⟩
    obtain ⟨ho, hk⟩ := hone_of hone j f hj
    have hjl : j < fs.size := (Array.getElem?_eq_some_iff.1 hj).1
    have hcell := hat j hjl
    have hv : cs'[j]? = some (cs'[j]'(by omega)) := List.getElem?_eq_getElem (by omega)
    have h1 := hf j f hj
    rw [ho, hk] at h1
    have hone' : (cs'.drop j).take 1 = [cs'[j]'(by omega)] := by
      rw [List.drop_eq_getElem_cons (by omega)]
      rfl
    rw [hone'] at h1
    have hys : ys[j]? = some (ys[j]'(by omega)) := List.getElem?_eq_getElem (by omega)
    refine ⟨_, _, ?_, hys, h1.trans hys⟩
    rw [← Go.Deep.add_add, hcell, hv]
end
/-- A call of the script. -/
structure OpV where
  kd : Int
  nn : Int
  a : ByteArray
  b : ByteArray
  A : Option Addr
  cA : Nat
  xs : List Int
  B : Option Addr
  cB : Nat
  ys : List Int
structure OpAt (W : World) (g o : Nat) (x : OpV) : Prop where
  c0 : W.cell? ⟨g, o, none⟩ = some (.int .i64 x.kd)
  c1 : W.cell? ⟨g, o + 1, none⟩ = some (.int .i64 x.nn)
  c2 : W.cell? ⟨g, o + 2, none⟩ = some (.string x.a)
  c3 : W.cell? ⟨g, o + 3, none⟩ = some (.string x.b)
  c4 : W.cell? ⟨g, o + 4, none⟩ = some (.slice x.A x.xs.length x.cA)
  c5 : W.cell? ⟨g, o + 5, none⟩ = some (.slice x.B x.ys.length x.cB)
  wk : (Lit.int .i64 x.kd).wf = true
  wn : (Lit.int .i64 x.nn).wf = true
  sa : x.a.size ≤ 9223372036854775807
  sb : x.b.size ≤ 9223372036854775807
  xI : Ints .u8 W x.A x.xs
  xw : ∀ y ∈ x.xs, 0 ≤ y ∧ y < 256
  xl : x.xs.length ≤ 9223372036854775807
  yI : Ints .i64 W x.B x.ys
  yw : ∀ y ∈ x.ys, (Lit.int .i64 y).wf = true
  yl : x.ys.length ≤ 9223372036854775807
/-- The script in memory. -/
def OpsIn (W : World) (As : Option Addr) (n : Nat) : Prop := 0 < n → ∃ b o, As = some ⟨b, o, none⟩ ∧ b < W.heap.size ∧ ∀ i, i < n → ∃ x : OpV, OpAt W b (o + i * 6) x
theorem OpAt.below {W W' : World} {g o : Nat} {x : OpV} (h : OpAt W g o x) (hb : Below W.heap.size W W') (hg : g < W.heap.size) : OpAt W' g o x :=
  have e : ∀ j, W'.cell? ⟨g, j, none⟩ = W.cell? ⟨g, j, none⟩ := fun j => hb.cell (p := ⟨g, j, none⟩) hg
  ⟨(e _).trans h.c0, (e _).trans h.c1, (e _).trans h.c2, (e _).trans h.c3, (e _).trans h.c4, (e _).trans h.c5, h.wk, h.wn, h.sa, h.sb, h.xI.below hb, h.xw, h.xl, h.yI.below hb, h.yw, h.yl⟩
theorem OpsIn.below {W W' : World} {A : Option Addr} {n : Nat} (h : OpsIn W A n) (hb : Below W.heap.size W W') : OpsIn W' A n := fun hn => by
  obtain ⟨b, o, h1, h2, h3⟩ := h hn
  refine ⟨b, o, h1, Nat.lt_of_lt_of_le h2 hb.size, fun i hi => ?_⟩
  obtain ⟨x, hx⟩ := h3 i hi
  exact ⟨x, hx.below hb h2⟩
theorem openOps {H : Type} {enc : TypeId × Value → H} {P : Program} {W : World} {t e : TypeId} {v : Value} {d : DataW H} {p : List MemPlace} {base : Nat} {f0 f1 f2 f3 f4 f5 : Field} {e4 e5 : TypeId}
    (ht : P.underlying t = some (.slice e)) (he : P.underlying e = some (.struct #[f0, f1, f2, f3, f4, f5])) (hone : oneCellFields P #[f0, f1, f2, f3, f4, f5] = true) (hC : P.cellsOf e = 6)
    (h0 : P.underlying f0.type = some (.int .i64)) (h1 : P.underlying f1.type = some (.int .i64)) (h2 : P.underlying f2.type = some .string) (h3 : P.underlying f3.type = some .string)
    (h4 : P.underlying f4.type = some (.slice e4)) (h4' : P.underlying e4 = some (.int .u8)) (hC4 : P.cellsOf e4 = 1) (h5 : P.underlying f5.type = some (.slice e5)) (h5' : P.underlying e5 = some (.int .i64)) (hC5 : P.cellsOf e5 = 1)
    (hval : Value.okWide P W .any base t v) (h : DataW.Trod enc P W 0 (fun _ => true) true t v d p) :
    ∃ (A : Option Addr) (n c : Nat), v = .slice A n c ∧ OpsIn W A n ∧ n ≤ 9223372036854775807 := by
  obtain ⟨a0, len0, cap0, rfl⟩ := okWide_slice ht hval
  obtain ⟨fuel, hf⟩ := h
  rcases open_slice_fields ht he hone hC hf with ⟨hcs, _⟩ | ⟨x, l, c, m, D, Pl, hcs, _, hl, hm, hmm, _, hi⟩
  · simp [Value.cells] at hcs
    obtain ⟨rfl, rfl, rfl⟩ := hcs
    exact ⟨none, 0, 0, rfl, fun h => absurd h (by omega), by omega⟩
  · simp [Value.cells] at hcs
    obtain ⟨rfl, rfl, rfl⟩ := hcs
    unfold maxLen at hm
    refine ⟨some x, len0, cap0, rfl, fun hn => ?_, by omega⟩
    have hmn : m = cap0 := hmm
    obtain ⟨b, o, sp⟩ := x
    obtain ⟨ys, n0, _, _, _, hfld⟩ := hi 0 (by omega)
    obtain ⟨u0, y0, hc0, _, _⟩ := hfld 0 f0 rfl
    have hsp : sp = none := by simpa [Addr.add] using World.cell?_spot hc0
    subst hsp
    have had : ∀ k, (⟨b, o, none⟩ : Addr).add k = ⟨b, o + k, none⟩ := fun k => by unfold Addr.add; split <;> simp_all
    refine ⟨b, o, rfl, ?_, fun i hin => ?_⟩
    · have := World.block_lt_of_cell? W _ hc0
      simpa [Addr.add] using this
    · obtain ⟨ys, n0, _, _, _, hfld⟩ := hi i (by omega)
      obtain ⟨u0, y0, hc0, _, t0⟩ := hfld 0 f0 rfl
      obtain ⟨u1, y1, hc1, _, t1⟩ := hfld 1 f1 rfl
      obtain ⟨u2, y2, hc2, _, t2⟩ := hfld 2 f2 rfl
      obtain ⟨u3, y3, hc3, _, t3⟩ := hfld 3 f3 rfl
      obtain ⟨u4, y4, hc4, _, t4⟩ := hfld 4 f4 rfl
      obtain ⟨u5, y5, hc5, _, t5⟩ := hfld 5 f5 rfl
      obtain ⟨a0, rfl, w0⟩ := wfOf h0 t0
      obtain ⟨a1, rfl, w1⟩ := wfOf h1 t1
      obtain ⟨s2, e2, _, z2⟩ := DataW.trod_string h2 t2
      obtain ⟨s3, e3, _, z3⟩ := DataW.trod_string h3 t3
      injection e2 with e2 _
      injection e3 with e3 _
      subst e2; subst e3
      obtain ⟨A4, c4, xs, rfl, hI4, hw4, g4, g4'⟩ := openIntsF h4 h4' hC4 t4
      obtain ⟨A5, c5, zs, rfl, hI5, hw5, g5, g5'⟩ := openIntsF h5 h5' hC5 t5
      rw [had] at hc0 hc1 hc2 hc3 hc4 hc5
      unfold maxLen at z2 z3
      exact ⟨⟨a0, a1, s2, s3, A4, c4, xs, A5, c5, zs⟩, hc0, hc1, hc2, hc3, hc4, hc5, w0, w1, by show s2.size ≤ _; omega, by show s3.size ≤ _; omega, hI4, bytes_wf' _ hw4, by show xs.length ≤ _; omega, hI5, hw5, by show zs.length ≤ _; omega⟩
end Go.Proofs.Ytmoaabjiokjjlaa
