/- Put together for the claim, out of: Frame, FrameC, FrameO, FrameP, LawPlays. -/
import Derived.Test.YtoeipgbnjcgbjaaLib
import Derived.Test.YtoeipgbnjcgbjaaRows
import Derived.ProofKit
import Derived.OpenShut
import Derived.ShutString
import Derived.ChangeOld
import Derived.SizedLaws
import Derived.JoinedCond
import Derived.Lib.SmallJoins
import Derived.Deep.Slices
import Derived.Deep.Fields
import Derived.ChangeSame
import Derived.Test.YtoeipgbnjcgbjaaQPlaL
/- What a law's proof opens its arguments with: a slice of integers, a string, as the walks take them, with the form's own reach. -/
namespace Go.Proofs.Ytoeipgbnjcgbjaa
open Go.ChangeShapes Go.WideShapes Go.ChangeAt Go.RowKit
open Go.ChangeMaps (open_string shut_string)

theorem own : ownKnob Try.prog.godebug = none := by kernel_rfl
theorem laidOut : laidOutB Try.prog = true := by kernel_rfl

theorem openInts {H : Type} {enc : TypeId × Value → H} {P : Program} {W : World} {base : Nat} {ts : List TypeId} {ds : List (DataW H)} {j : Nat} {t e : TypeId} {k : IntKind} {v : Value} {d : DataW H} {p : List MemPlace}
    (ht : P.underlying t = some (.slice e)) (he : P.underlying e = some (.int k)) (hC : P.cellsOf e = 1) (hval : Value.okWide P W .any base t v) (h : DataW.Trod enc P W 0 (fun _ => true) true t v d p)
    (hsz : (DataW.weightsEach P ts ds).all (· ≤ reachBytes) = true) (htj : ts[j]? = some t) (hdj : ds[j]? = some d) :
    ∃ (A : Option Addr) (c : Nat) (xs : List Int), v = .slice A xs.length c ∧ Ints k W A xs ∧ (∀ x ∈ xs, (Lit.int k x).wf = true) ∧ xs.length * P.bytesOf e ≤ 140737488351232 := by
  obtain ⟨a0, len0, cap0, rfl⟩ := okWide_slice ht hval
  have hlt : ∀ x ∈ p, x.block < W.heap.size := by obtain ⟨m, hm⟩ := h; exact DataW.trod_lt m _ _ _ hm
  obtain ⟨fuel, hf⟩ := h
  rcases open_ints ht he hC hf with ⟨hcs, _⟩ | ⟨x, l, c, zs, hcs, _, hl, hm, hz, hx, hcell, hwz⟩
  · simp [Value.cells] at hcs
    obtain ⟨rfl, rfl, rfl⟩ := hcs
    exact ⟨none, 0, [], rfl, Ints.nil, by simp, by simp⟩
  · simp [Value.cells] at hcs
    obtain ⟨rfl, rfl, rfl⟩ := hcs
    simp only [Prod.mk.injEq] at hx
    obtain ⟨rfl, rfl⟩ := hx
    have hzl : zs.length = cap0 := by simpa using hz
    have hs := sized_slice hsz htj hdj ht
    simp only [lits, List.length_map, List.length_take, List.length_drop, reachBytes] at hs
    refine ⟨some x, cap0, zs.take len0, by rw [List.length_take_of_le (by omega)], ?_, fun y hy => hwz y (List.mem_of_mem_take hy), ?_⟩
    · intro h0
      obtain ⟨b, o, sp⟩ := x
      rw [List.length_take_of_le (by omega)] at h0
      have hsp : sp = none := by simpa [Addr.add] using World.cell?_spot (hcell 0 (by omega))
      subst hsp
      refine ⟨b, o, rfl, ?_, fun i hi => ?_⟩
      · have h1 := hcell 0 (by omega)
        have := World.block_lt_of_cell? W _ h1
        simpa [Addr.add] using this
      · rw [List.length_take_of_le (by omega)] at hi
        have h1 := hcell i (by omega)
        have h2 : (⟨b, o, none⟩ : Addr).add i = ⟨b, o + i, none⟩ := by unfold Addr.add; split <;> simp_all
        rw [h2] at h1
        rw [h1]
        simp [List.getD_eq_getElem?_getD, hi]
    · rw [List.length_take_of_le (by omega)]
      refine Nat.le_trans ?_ hs
      exact Nat.mul_le_mul_right _ (by omega)
end Go.Proofs.Ytoeipgbnjcgbjaa
/- What a law's proof opens its arguments with, besides: a slice's capacity; a slice in a field; a struct of five fields. -/
namespace Go.Proofs.Ytoeipgbnjcgbjaa
open Go.Joins Go.ChangeShapes Go.WideShapes Go.ChangeAt Go.RowKit Go.Deep
set_option linter.unusedVariables false

/-- A slice in a field (or wherever its reading is known by its cells). -/
theorem openIntsF {H : Type} {enc : TypeId × Value → H} {P : Program} {W : World} {n : Nat} {t e : TypeId} {k : IntKind} {v : Value} {y : DataW H × List MemPlace}
    (ht : P.underlying t = some (.slice e)) (he : P.underlying e = some (.int k)) (hC : P.cellsOf e = 1) (h : DataW.trod enc P W 0 (fun _ => true) true n t [v] = some y) :
    ∃ (A : Option Addr) (c : Nat) (xs : List Int), v = .slice A xs.length c ∧ Ints k W A xs ∧ (∀ x ∈ xs, (Lit.int k x).wf = true) ∧ xs.length ≤ c ∧ c ≤ 9223372036854775807 := by
  rcases open_ints ht he hC h with ⟨hcs, _⟩ | ⟨x, l, c, zs, hcs, _, hl, hm, hz, hx, hcell, hwz⟩
  · injection hcs with hcs
    subst hcs
    exact ⟨none, 0, [], rfl, Ints.nil, by simp, by simp, by omega⟩
  · injection hcs with hcs
    subst hcs
    have hzl : zs.length = c := by simpa using hz
    unfold maxLen at hm
    refine ⟨some x, c, zs.take l, by rw [List.length_take_of_le (by omega)], ?_, fun y hy => hwz y (List.mem_of_mem_take hy), by rw [List.length_take_of_le (by omega)]; exact hl, by omega⟩
    intro h0
    obtain ⟨b, o, sp⟩ := x
    rw [List.length_take_of_le (by omega)] at h0
    have hsp : sp = none := by simpa [Addr.add] using World.cell?_spot (hcell 0 (by omega))
    subst hsp
    refine ⟨b, o, rfl, ?_, fun i hi => ?_⟩
    · have h1 := hcell 0 (by omega)
      have := World.block_lt_of_cell? W _ h1
      simpa [Addr.add] using this
    · rw [List.length_take_of_le (by omega)] at hi
      have h1 := hcell i (by omega)
      have h2 : (⟨b, o, none⟩ : Addr).add i = ⟨b, o + i, none⟩ := by unfold Addr.add; split <;> simp_all
      rw [h2] at h1
      rw [h1]
      simp [List.getD_eq_getElem?_getD, hi]
theorem bytes_wf' (xs : List Int) (wf : ∀ x ∈ xs, (Lit.int .u8 x).wf = true) : ∀ x ∈ xs, 0 ≤ x ∧ x < 256 := fun x hx => by
  have := wf x hx
  simp [Lit.wf, IntKind.min, IntKind.max, IntKind.bits, IntKind.signed] at this
  omega
theorem capOf {H : Type} {enc : TypeId × Value → H} {P : Program} {W : World} {n c : Nat} {A : Option Addr} {t e : TypeId} {k : IntKind} {d : DataW H} {p : List MemPlace}
    (ht : P.underlying t = some (.slice e)) (he : P.underlying e = some (.int k)) (hC : P.cellsOf e = 1) (h : DataW.Trod enc P W 0 (fun _ => true) true t (.slice A n c) d p) : n ≤ c ∧ c ≤ 9223372036854775807 := by
  obtain ⟨fuel, hf⟩ := h
  obtain ⟨A', c', xs, e, _, _, h1, h2⟩ := openIntsF ht he hC (v := .slice A n c) (by simpa [Value.cells] using hf)
  injection e with _ e1 e2
  omega
theorem wfOf {H : Type} {enc : TypeId × Value → H} {P : Program} {W : World} {n : Nat} {t : TypeId} {k : IntKind} {v : Value} {y : DataW H × List MemPlace}
    (ht : P.underlying t = some (.int k)) (h : DataW.trod enc P W 0 (fun _ => true) true n t [v] = some y) : ∃ x, v = .int k x ∧ (Lit.int k x).wf = true := by
  obtain ⟨x, h1, h2, h3⟩ := DataW.trod_int ht h
  injection h1 with h1
  exact ⟨x, h1, h3⟩
section
variable {H : Type} {enc : TypeId × Value → H} {P : Program} {w : World} {base : Nat} {spare : Nat → Bool} {held : Bool}
theorem open_agg5 {r : Reach} {b0 : Nat} {t : TypeId} {f0 f1 f2 f3 f4 : Field} {v : Value} {d : DataW H} {p : List MemPlace} (hs : P.underlying t = some (.struct #[f0, f1, f2, f3, f4])) (hone : oneCellFields P #[f0, f1, f2, f3, f4] = true) (hC : P.cellsOf t = 5)
    (hv : Value.okWide P w r b0 t v) (h : DataW.Trod enc P w base spare held t v d p) :
    ∃ (v0 v1 v2 v3 v4 : Value) (y0 y1 y2 y3 y4 : DataW H × List MemPlace) (n : Nat), v = .agg #[v0, v1, v2, v3, v4] ∧ d = .agg [y0.1, y1.1, y2.1, y3.1, y4.1] ∧ p = y0.2 ++ (y1.2 ++ (y2.2 ++ (y3.2 ++ y4.2))) ∧
      DataW.trod enc P w base spare held n f0.type [v0] = some y0 ∧ DataW.trod enc P w base spare held n f1.type [v1] = some y1 ∧ DataW.trod enc P w base spare held n f2.type [v2] = some y2 ∧ DataW.trod enc P w base spare held n f3.type [v3] = some y3 ∧ DataW.trod enc P w base spare held n f4.type [v4] = some y4 := by
  obtain ⟨cs, rfl, hsz⟩ := okWide_struct hs hv
  obtain ⟨l⟩ := cs
  match l, hsz.trans hC with
  | [c0, c1, c2, c3, c4], _ =>
    obtain ⟨fuel, hf⟩ := h
    obtain ⟨xs, n, _, hx, _, hlen, hg⟩ := DataW.trod_struct hs hf
    obtain ⟨o0, k0⟩ := hone_of hone 0 f0 rfl
    obtain ⟨o1, k1⟩ := hone_of hone 1 f1 rfl
    obtain ⟨o2, k2⟩ := hone_of hone 2 f2 rfl
    obtain ⟨o3, k3⟩ := hone_of hone 3 f3 rfl
    obtain ⟨o4, k4⟩ := hone_of hone 4 f4 rfl
    match xs, hlen with
    | [y0, y1, y2, y3, y4], _ =>
      simp only [Prod.mk.injEq] at hx
      exact ⟨c0, c1, c2, c3, c4, y0, y1, y2, y3, y4, n, rfl, by simpa using hx.1, by simpa using hx.2, by simpa [Value.cells, o0, k0] using hg 0 f0 rfl, by simpa [Value.cells, o1, k1] using hg 1 f1 rfl, by simpa [Value.cells, o2, k2] using hg 2 f2 rfl, by simpa [Value.cells, o3, k3] using hg 3 f3 rfl, by simpa [Value.cells, o4, k4] using hg 4 f4 rfl⟩
end
end Go.Proofs.Ytoeipgbnjcgbjaa
/- What a law's proof opens its arguments with, besides: a slice of Op (a struct of three numbers and a slice of bytes). -/
namespace Go.Proofs.Ytoeipgbnjcgbjaa
open Go.Joins Go.ChangeShapes Go.WideShapes Go.ChangeAt Go.RowKit Go.Deep
set_option linter.unusedVariables false

section
variable {H : Type} {enc : TypeId × Value → H} {P : Program} {w : World} {base : Nat} {spare : Nat → Bool} {held : Bool}
theorem open_slice_fields {t e : TypeId} {fs : Array Field} {fuel : Nat} {cs : List Value} {x : DataW H × List MemPlace} (ht : P.underlying t = some (.slice e)) (he : P.underlying e = some (.struct fs))
    (hone : oneCellFields P fs = true) (hC : P.cellsOf e = fs.size) (h : DataW.trod enc P w base spare held fuel t cs = some x) :
    (cs = [.slice none 0 0] ∧ x = (.nil, [])) ∨
    ∃ (a : Addr) (len cap m : Nat) (D : Nat → DataW H) (Pl : Nat → List MemPlace), cs = [.slice (some a) len cap] ∧ base ≤ a.block ∧ len ≤ cap ∧ cap ≤ maxLen ∧ m = (if spare a.block then cap else len) ∧
      x = (.slice ((List.range len).map D) ((List.range (m - len)).map fun j => D (len + j)), MemPlace.row a (m * fs.size) ++ (List.range m).flatMap Pl) ∧
      ∀ i, i < m → ∃ (ys : List (DataW H × List MemPlace)) (n : Nat), D i = .agg (ys.map (·.1)) ∧ Pl i = ys.flatMap (·.2) ∧ ys.length = fs.size ∧
        ∀ (j : Nat) (f : Field), fs[j]? = some f → ∃ (v : Value) (y : DataW H × List MemPlace), w.cell? (a.add (i * fs.size + j)) = some v ∧ ys[j]? = some y ∧ DataW.trod enc P w base spare held n f.type [v] = some y := by
  rcases open_slice ht h with h0 | ⟨a, len, cap, m, n, D, Pl, hcs, hb, hl, hm, hmm, hx, hi⟩
  · exact .inl h0
  · refine .inr ⟨a, len, cap, m, D, Pl, hcs, hb, hl, hm, hmm, by rw [hC] at hx; exact hx, fun i him => ?_⟩
    obtain ⟨cs', hc, ht'⟩ := hi i him
    rw [hC] at hc
    obtain ⟨ys, n', hn', hy, hlen, hyl, hf⟩ := DataW.trod_struct he ht'
    obtain ⟨_, hcl, hat⟩ := World.cells?_some hc
    simp only [Prod.mk.injEq] at hy
    refine ⟨ys, n', hy.1, hy.2, hyl, fun j f hj => ?_⟩
    obtain ⟨ho, hk⟩ := hone_of hone j f hj
    have hjl : j < fs.size := (Array.getElem?_eq_some_iff.1 hj).1
    have hcell := hat j hjl
    have hv : cs'[j]? = some (cs'[j]'(by omega)) := List.getElem?_eq_getElem (by omega)
    have h1 := hf j f hj
    rw [ho, hk] at h1
    have hone' : (cs'.drop j).take 1 = [cs'[j]'(by omega)] := by
      rw [List.drop_eq_getElem_cons (by omega)]
      rfl
    rw [hone'] at h1
    have hys : ys[j]? = some (ys[j]'(by omega)) := List.getElem?_eq_getElem (by omega)
    refine ⟨_, _, ?_, hys, h1.trans hys⟩
    rw [← Go.Deep.add_add, hcell, hv]
end
/-- The script in memory. -/
def OpsIn (W : World) (As : Option Addr) (n : Nat) : Prop :=
  0 < n → ∃ b o, As = some ⟨b, o, none⟩ ∧ b < W.heap.size ∧ ∀ i, i < n → ∃ (kd who ix : Int) (A : Option Addr) (c : Nat) (xs : List Int),
    W.cell? ⟨b, o + i * 4, none⟩ = some (.int .i64 kd) ∧ W.cell? ⟨b, o + i * 4 + 1, none⟩ = some (.int .i64 who) ∧ W.cell? ⟨b, o + i * 4 + 2, none⟩ = some (.int .i64 ix) ∧ W.cell? ⟨b, o + i * 4 + 3, none⟩ = some (.slice A xs.length c) ∧
    (Lit.int .i64 kd).wf = true ∧ (Lit.int .i64 who).wf = true ∧ (Lit.int .i64 ix).wf = true ∧ Ints .u8 W A xs ∧ (∀ x ∈ xs, 0 ≤ x ∧ x < 256) ∧ xs.length ≤ c ∧ c ≤ 9223372036854775807
theorem openOps {H : Type} {enc : TypeId × Value → H} {P : Program} {W : World} {t e : TypeId} {v : Value} {d : DataW H} {p : List MemPlace} {base : Nat} {f0 f1 f2 f3 : Field} {e3 : TypeId}
    (ht : P.underlying t = some (.slice e)) (he : P.underlying e = some (.struct #[f0, f1, f2, f3])) (hone : oneCellFields P #[f0, f1, f2, f3] = true) (hC : P.cellsOf e = 4)
    (h0 : P.underlying f0.type = some (.int .i64)) (h1 : P.underlying f1.type = some (.int .i64)) (h2 : P.underlying f2.type = some (.int .i64)) (h3 : P.underlying f3.type = some (.slice e3)) (h4 : P.underlying e3 = some (.int .u8)) (hC3 : P.cellsOf e3 = 1)
    (hval : Value.okWide P W .any base t v) (h : DataW.Trod enc P W 0 (fun _ => true) true t v d p) :
    ∃ (A : Option Addr) (n c : Nat), v = .slice A n c ∧ OpsIn W A n ∧ n ≤ 9223372036854775807 := by
  obtain ⟨a0, len0, cap0, rfl⟩ := okWide_slice ht hval
  obtain ⟨fuel, hf⟩ := h
  rcases open_slice_fields ht he hone hC hf with ⟨hcs, _⟩ | ⟨x, l, c, m, D, Pl, hcs, _, hl, hm, hmm, _, hi⟩
  · simp [Value.cells] at hcs
    obtain ⟨rfl, rfl, rfl⟩ := hcs
    exact ⟨none, 0, 0, rfl, fun h => absurd h (by omega), by omega⟩
  · simp [Value.cells] at hcs
    obtain ⟨rfl, rfl, rfl⟩ := hcs
    unfold maxLen at hm
    refine ⟨some x, len0, cap0, rfl, fun hn => ?_, by omega⟩
    have hmn : m = cap0 := hmm
    obtain ⟨b, o, sp⟩ := x
    obtain ⟨ys, n0, _, _, _, hfld⟩ := hi 0 (by omega)
    obtain ⟨u0, y0, hc0, _, _⟩ := hfld 0 f0 rfl
    have hsp : sp = none := by simpa [Addr.add] using World.cell?_spot hc0
    subst hsp
    have had : ∀ k, (⟨b, o, none⟩ : Addr).add k = ⟨b, o + k, none⟩ := fun k => by unfold Addr.add; split <;> simp_all
    refine ⟨b, o, rfl, ?_, fun i hin => ?_⟩
    · have := World.block_lt_of_cell? W _ hc0
      simpa [Addr.add] using this
    · obtain ⟨ys, n0, _, _, _, hfld⟩ := hi i (by omega)
      obtain ⟨u0, y0, hc0, _, t0⟩ := hfld 0 f0 rfl
      obtain ⟨u1, y1, hc1, _, t1⟩ := hfld 1 f1 rfl
      obtain ⟨u2, y2, hc2, _, t2⟩ := hfld 2 f2 rfl
      obtain ⟨u3, y3, hc3, _, t3⟩ := hfld 3 f3 rfl
      obtain ⟨a0, rfl, w0⟩ := wfOf h0 t0
      obtain ⟨a1, rfl, w1⟩ := wfOf h1 t1
      obtain ⟨a2, rfl, w2⟩ := wfOf h2 t2
      obtain ⟨A3, c3, xs, rfl, hI, hw, g1, g2⟩ := openIntsF h3 h4 hC3 t3
      rw [had] at hc0 hc1 hc2 hc3
      exact ⟨a0, a1, a2, A3, c3, xs, hc0, hc1, hc2, hc3, w0, w1, w2, hI, bytes_wf' _ hw, g1, g2⟩
end Go.Proofs.Ytoeipgbnjcgbjaa
/- What a law's proof opens its arguments with, besides: a slice of Op, and how long its bytes may be. -/
namespace Go.Proofs.Ytoeipgbnjcgbjaa
open Go.Joins Go.ChangeShapes Go.WideShapes Go.ChangeAt Go.RowKit Go.Deep
set_option linter.unusedVariables false

theorem weightsAll_mem {H : Type} {P : Program} {e : TypeId} {n : Nat} {d : DataW H} : ∀ {l : List (DataW H)}, d ∈ l → n ∈ d.weights P e → n ∈ DataW.weightsAll P e l
  | d0 :: l, hd, hn => by
    simp only [DataW.weightsAll, List.mem_append]
    rcases List.mem_cons.1 hd with rfl | h
    · exact .inl hn
    · exact .inr (weightsAll_mem h hn)
/-- A slice in a field, with its bound. -/
theorem openIntsB {H : Type} {enc : TypeId × Value → H} {P : Program} {W : World} {n : Nat} {t e : TypeId} {k : IntKind} {v : Value} {y : DataW H × List MemPlace}
    (ht : P.underlying t = some (.slice e)) (he : P.underlying e = some (.int k)) (hC : P.cellsOf e = 1) (h : DataW.trod enc P W 0 (fun _ => true) true n t [v] = some y) (hb : ∀ m ∈ y.1.weights P t, m ≤ reachBytes) :
    ∃ (A : Option Addr) (c : Nat) (xs : List Int), v = .slice A xs.length c ∧ Ints k W A xs ∧ (∀ x ∈ xs, (Lit.int k x).wf = true) ∧ xs.length ≤ c ∧ c ≤ 9223372036854775807 ∧ xs.length * P.bytesOf e ≤ reachBytes := by
  obtain ⟨A, c, xs, rfl, hI, hw, g1, g2⟩ := openIntsF ht he hC h
  refine ⟨A, c, xs, rfl, hI, hw, g1, g2, ?_⟩
  rcases open_ints ht he hC h with ⟨hcs, _⟩ | ⟨x, l, c', zs, hcs, _, hl, hm, hz, hx, hcell, hwz⟩
  · injection hcs with hcs
    injection hcs with _ h1 _
    rw [h1, Nat.zero_mul]; exact Nat.zero_le _
  · injection hcs with hcs
    injection hcs with _ h1 _
    have hzl : zs.length = c' := by simpa using hz
    subst hx
    have hs := hb ((zs.length) * P.bytesOf e) (by simp [DataW.weights, ht, lits]; left; congr 1; omega)
    exact Nat.le_trans (Nat.mul_le_mul_right _ (by omega)) hs
/-- The script in memory. -/
def OpsInB (W : World) (As : Option Addr) (n : Nat) : Prop :=
  0 < n → ∃ b o, As = some ⟨b, o, none⟩ ∧ b < W.heap.size ∧ ∀ i, i < n → ∃ (kd who ix : Int) (A : Option Addr) (c : Nat) (xs : List Int),
    W.cell? ⟨b, o + i * 4, none⟩ = some (.int .i64 kd) ∧ W.cell? ⟨b, o + i * 4 + 1, none⟩ = some (.int .i64 who) ∧ W.cell? ⟨b, o + i * 4 + 2, none⟩ = some (.int .i64 ix) ∧ W.cell? ⟨b, o + i * 4 + 3, none⟩ = some (.slice A xs.length c) ∧
    (Lit.int .i64 kd).wf = true ∧ (Lit.int .i64 who).wf = true ∧ (Lit.int .i64 ix).wf = true ∧ Ints .u8 W A xs ∧ (∀ x ∈ xs, 0 ≤ x ∧ x < 256) ∧ xs.length ≤ c ∧ c ≤ 9223372036854775807 ∧ xs.length ≤ 140737488351232
theorem openOpsB {H : Type} {enc : TypeId × Value → H} {P : Program} {W : World} {t e : TypeId} {v : Value} {d : DataW H} {p : List MemPlace} {base : Nat} {f0 f1 f2 f3 : Field} {e3 : TypeId} {ts : List TypeId} {ds : List (DataW H)} {j : Nat}
    (ht : P.underlying t = some (.slice e)) (he : P.underlying e = some (.struct #[f0, f1, f2, f3])) (hone : oneCellFields P #[f0, f1, f2, f3] = true) (hC : P.cellsOf e = 4)
    (h0 : P.underlying f0.type = some (.int .i64)) (h1 : P.underlying f1.type = some (.int .i64)) (h2 : P.underlying f2.type = some (.int .i64)) (h3 : P.underlying f3.type = some (.slice e3)) (h4 : P.underlying e3 = some (.int .u8)) (hC3 : P.cellsOf e3 = 1) (hB3 : P.bytesOf e3 = 1)
    (hval : Value.okWide P W .any base t v) (h : DataW.Trod enc P W 0 (fun _ => true) true t v d p) (hsz : (DataW.weightsEach P ts ds).all (· ≤ reachBytes) = true) (htj : ts[j]? = some t) (hdj : ds[j]? = some d) :
    ∃ (A : Option Addr) (n c : Nat), v = .slice A n c ∧ OpsInB W A n ∧ n ≤ 9223372036854775807 := by
  obtain ⟨a0, len0, cap0, rfl⟩ := okWide_slice ht hval
  obtain ⟨fuel, hf⟩ := h
  rcases open_slice_fields ht he hone hC hf with ⟨hcs, _⟩ | ⟨x, l, c, m, D, Pl, hcs, _, hl, hm, hmm, hx, hi⟩
  · simp [Value.cells] at hcs
    obtain ⟨rfl, rfl, rfl⟩ := hcs
    exact ⟨none, 0, 0, rfl, fun h => absurd h (by omega), by omega⟩
  · simp [Value.cells] at hcs
    obtain ⟨rfl, rfl, rfl⟩ := hcs
    unfold maxLen at hm
    simp only [Prod.mk.injEq] at hx
    obtain ⟨hd, _⟩ := hx
    refine ⟨some x, len0, cap0, rfl, fun hn => ?_, by omega⟩
    have hmn : m = cap0 := hmm
    obtain ⟨b, o, sp⟩ := x
    obtain ⟨ys, n0, _, _, _, hfld⟩ := hi 0 (by omega)
    obtain ⟨u0, y0, hc0, _, _⟩ := hfld 0 f0 rfl
    have hsp : sp = none := by simpa [Addr.add] using World.cell?_spot hc0
    subst hsp
    have had : ∀ k, (⟨b, o, none⟩ : Addr).add k = ⟨b, o + k, none⟩ := fun k => by unfold Addr.add; split <;> simp_all
    refine ⟨b, o, rfl, ?_, fun i hin => ?_⟩
    · have := World.block_lt_of_cell? W _ hc0
      simpa [Addr.add] using this
    · obtain ⟨ys, n0, hDi, _, hlen, hfld⟩ := hi i (by omega)
      obtain ⟨u0, y0, hc0, g0, t0⟩ := hfld 0 f0 rfl
      obtain ⟨u1, y1, hc1, g1, t1⟩ := hfld 1 f1 rfl
      obtain ⟨u2, y2, hc2, g2, t2⟩ := hfld 2 f2 rfl
      obtain ⟨u3, y3, hc3, g3, t3⟩ := hfld 3 f3 rfl
      obtain ⟨a0, rfl, w0⟩ := wfOf h0 t0
      obtain ⟨a1, rfl, w1⟩ := wfOf h1 t1
      obtain ⟨a2, rfl, w2⟩ := wfOf h2 t2
      have hw3 : ∀ m ∈ y3.1.weights P f3.type, m ≤ reachBytes := by
        intro m hm
        have hy : DataW.weightsEach P (#[f0, f1, f2, f3].toList.map (·.type)) (ys.map (·.1)) = DataW.weightsEach P (#[f0, f1, f2, f3].toList.map (·.type)) (ys.map (·.1)) := rfl
        have e1 : m ∈ DataW.weightsEach P (#[f0, f1, f2, f3].toList.map (·.type)) (ys.map (·.1)) := DataW.weights_mem_each (j := 3) (t := f3.type) (d := y3.1) rfl (by rw [List.getElem?_map, g3]; rfl) m hm
        have e2 : m ∈ (D i).weights P e := by rw [hDi]; simp only [DataW.weights, he]; exact e1
        have e3 : m ∈ d.weights P t := by
          rw [hd]
          simp only [DataW.weights, ht]
          refine List.mem_cons_of_mem _ (List.mem_append_left _ (weightsAll_mem ?_ e2))
          exact List.mem_map.2 ⟨i, List.mem_range.2 hin, rfl⟩
        have := List.all_eq_true.1 hsz m (DataW.weights_mem_each htj hdj m e3)
        simpa using this
      obtain ⟨A3, c3, xs, rfl, hI, hw, g1, g2, gb⟩ := openIntsB h3 h4 hC3 t3 hw3
      rw [had] at hc0 hc1 hc2 hc3
      rw [hB3, Nat.mul_one] at gb
      exact ⟨a0, a1, a2, A3, c3, xs, hc0, hc1, hc2, hc3, w0, w1, w2, hI, bytes_wf' _ hw, g1, g2, gb⟩
end Go.Proofs.Ytoeipgbnjcgbjaa
/- The law StreamPlays holds: for every input the call returns true and the arguments read as before. The walk lies in PlaL. -/
namespace Go.Proofs.Ytoeipgbnjcgbjaa.streamPlaysLaw
open Go.ChangeShapes Go.WideShapes Go.ChangeAt Go.RowKit
open Go.ChangeMaps (open_string shut_string)
set_option linter.unusedVariables false
set_option maxRecDepth 100000 in
theorem lifted (os : Os) (started : os.Started) (H : Type) (enc : TypeId × Value → H) :
    ReturnsInHanded {} Try.checked os 7 .any (Rows.streamPlaysSpec.pre6 enc Try.prog Try.f7 Rows.streamPlaysRow.domain false) (Rows.streamPlaysSpec.post enc Try.prog Try.f7 false true false false) := by
  refine returnsInHanded_of_change_sized (C := Try.checked) own started (by kernel_rfl) Try.func7
    (ChangeSpec.witness6 (enc := enc) (C := Try.checked) false ⟨#[], #[.int .i64 0, .slice none 0 0], []⟩ 8 (by kernel_rfl) (by kernel_rfl) (by kernel_rfl) (by kernel_rfl)) ?_
  intro W base args ds gs before hval0 hW hcnd hsz0 _
  have hval : ∀ (j : Nat) t v, Try.f7.params[j]? = some t → args[j]? = some v → Value.okWide Try.prog W .any base t v := hval0
  have hsz : (DataW.weightsEach Try.prog (Try.f7.params.toList ++ Rows.streamPlaysSpec.plain.varTypes Try.prog) (ds ++ gs)).all (· ≤ reachBytes) = true := hsz0
  have hW' := hW
  obtain ⟨p, q, hA0, hV, rfl, hfz, hnd⟩ := hW
  have hA : DataW.TrodAll enc Try.prog W 0 (fun _ => true) true Try.f7.params.toList args.toList ds p := hA0
  rw [Try.params7] at hA hval hsz
  obtain ⟨v0, vs0, d0, ds0, p0, q0, hargs, rfl, rfl, h0, r0⟩ := trodAll_cons hA
  obtain ⟨v1, vs1, d1, ds1, p1, q1, rfl, rfl, rfl, h1, r1⟩ := trodAll_cons r0
  obtain ⟨rfl, rfl, rfl⟩ := trodAll_nil r1
  obtain rfl : args = #[v0, v1] := by cases args; simp_all
  obtain ⟨rfl, rfl⟩ := trodVars_none hV
  obtain ⟨x0, rfl, rfl, rfl, f0⟩ := open_int Try.underlying3 (hval 0 3 v0 rfl rfl) h0
  have k1 := h1
  have lt1 : ∀ x ∈ p1, x.block < W.heap.size := by obtain ⟨m, hm⟩ := k1; exact DataW.trod_lt m _ _ _ hm
  obtain ⟨A1, n1, c1, rfl, o1, z1⟩ := openOpsB Try.underlying47 Try.underlying52 (by kernel_rfl) (by kernel_rfl) Try.underlying3 Try.underlying3 Try.underlying3 Try.underlying22 Try.underlying5 (by kernel_rfl) (by kernel_rfl) (hval 1 47 v1 rfl rfl) h1 hsz (j := 1) rfl rfl
  clear hA0 hval0 hsz0
  refine (streamPlays_walk x0 A1 n1 c1 W o1 z1).mono fun e W' ⟨he, bel⟩ => ?_
  subst he
  exact ⟨_, rfl, _, _, _, [], _, [], hW', trodAll_mk1 (shut_bool Try.underlying4 _), (trodAll_cons_mk (shut_int Try.underlying3 f0) (trodAll_cons_mk (Below.trod laidOut (by kernel_rfl) (of_decide_eq_true (by kernel_rfl)) k1 bel lt1) trodAll_mk0)), rfl, bel.frame _, fun h => by cases h⟩

theorem proved : Rows.StreamPlaysSaid :=
  OpenClaim.holds_of_wide 7 Try.f7 rfl rfl rfl rfl rfl rfl rfl ⟨rfl, rfl, rfl, rfl, rfl⟩ rfl rfl rfl rfl rfl (by kernel_rfl) Try.func7 (by kernel_rfl)
    (of_decide_eq_true (by kernel_rfl)) (by unfold Func.isWrapper; first | (rw [if_pos (by decide +kernel)]; kernel_rfl) | (rw [if_neg (by decide +kernel)]; exact ⟨rfl, rfl⟩))
    (fun os started H enc _ => lifted os started H enc)
#print axioms proved
end Go.Proofs.Ytoeipgbnjcgbjaa.streamPlaysLaw
