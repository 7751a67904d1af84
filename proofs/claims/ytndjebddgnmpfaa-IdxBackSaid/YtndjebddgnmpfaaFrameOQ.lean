/- What a law's proof opens its arguments with, besides: a slice of Op (a struct of three numbers and a slice of bytes). -/
import Derived.Test.YtndjebddgnmpfaaFrameC
import Derived.Deep.Slices
import Derived.Deep.Fields
import Derived.ChangeSame
import Derived.Test.YtndjebddgnmpfaaIdxHL
namespace Go.Proofs.Ytndjebddgnmpfaa
open Go.Joins Go.ChangeShapes Go.WideShapes Go.ChangeAt Go.RowKit Go.Deep
set_option linter.unusedVariables false

section
variable {H : Type} {enc : TypeId × Value → H} {P : Program} {w : World} {base : Nat} {spare : Nat → Bool} {held : Bool}
theorem open_slice_fields {t e : TypeId} {fs : Array Field} {fuel : Nat} {cs : List Value} {x : DataW H × List MemPlace} (ht : P.underlying t = some (.slice e)) (he : P.underlying e = some (.struct fs))
    (hone : oneCellFields P fs = true) (hC : P.cellsOf e = fs.size) (h : DataW.trod enc P w base spare held fuel t cs = some x) :
    (cs = [.slice none 0 0] ∧ x = (.nil, [])) ∨
    ∃ (a : Addr) (len cap m : Nat) (D : Nat → DataW H) (Pl : Nat → List MemPlace), cs = [.slice (some a) len cap] ∧ base ≤ a.block ∧ len ≤ cap ∧ cap ≤ maxLen ∧ m = (if spare a.block then cap else len) ∧
      x = (.slice ((List.range len).map D) ((List.range (m - len)).map fun j => D (len + j)), MemPlace.row a (m * fs.size) ++ (List.range m).flatMap Pl) ∧
      ∀ i, i < m → ∃ (ys : List (DataW H × List MemPlace)) (n : Nat), D i = .agg (ys.map (·.1)) ∧ Pl i = ys.flatMap (·.2) ∧ ys.length = fs.size ∧
        ∀ (j : Nat) (f : Field), fs[j]? = some f → ∃ (v : Value) (y : DataW H × List MemPlace), w.cell? (a.add (i * fs.size + j)) = some v ∧ ys[j]? = some y ∧ DataW.trod enc P w base spare held n f.type [v] = some y := by
  rcases open_slice ht h with h0 | ⟨a, len, cap, m, n, D, Pl, hcs, hb, hl, hm, hmm, hx, hi⟩
  · exact .inl h0
  · refine .inr ⟨a, len, cap, m, D, Pl, hcs, hb, hl, hm, hmm, by rw [hC] at hx; exact hx, fun i him => ?_⟩
    obtain ⟨cs', hc, ht'⟩ := hi i him
    rw [hC] at hc
    obtain ⟨ys, n', hn', hy, hlen, hyl, hf⟩ := DataW.trod_struct he ht'
    obtain ⟨_, hcl, hat⟩ := World.cells?_some hc
    simp only [Prod.mk.injEq] at hy
    refine ⟨ys, n', hy.1, hy.2, hyl, fun j f hj => ?_⟩
    obtain ⟨ho, hk⟩ := hone_of hone j f hj
    have hjl : j < fs.size := (Array.getElem?_eq_some_iff.1 hj).1
    have hcell := hat j hjl
    have hv : cs'[j]? = some (cs'[j]'(by omega)) := List.getElem?_eq_getElem (by omega)
    have h1 := hf j f hj
    rw [ho, hk] at h1
    have hone' : (cs'.drop j).take 1 = [cs'[j]'(by omega)] := by
      rw [List.drop_eq_getElem_cons (by omega)]
      rfl
    rw [hone'] at h1
    have hys : ys[j]? = some (ys[j]'(by omega)) := List.getElem?_eq_getElem (by omega)
    refine ⟨_, _, ?_, hys, h1.trans hys⟩
    rw [← Go.Deep.add_add, hcell, hv]
end
/-- The script in memory. -/
def OpsIn (W : World) (As : Option Addr) (n : Nat) : Prop :=
  0 < n → ∃ b o, As = some ⟨b, o, none⟩ ∧ b < W.heap.size ∧ ∀ i, i < n → ∃ (kd who ix : Int) (A : Option Addr) (c : Nat) (xs : List Int),
    W.cell? ⟨b, o + i * 4, none⟩ = some (.int .i64 kd) ∧ W.cell? ⟨b, o + i * 4 + 1, none⟩ = some (.int .i64 who) ∧ W.cell? ⟨b, o + i * 4 + 2, none⟩ = some (.int .i64 ix) ∧ W.cell? ⟨b, o + i * 4 + 3, none⟩ = some (.slice A xs.length c) ∧
    (Lit.int .i64 kd).wf = true ∧ (Lit.int .i64 who).wf = true ∧ (Lit.int .i64 ix).wf = true ∧ Ints .u8 W A xs ∧ (∀ x ∈ xs, 0 ≤ x ∧ x < 256) ∧ xs.length ≤ c ∧ c ≤ 9223372036854775807
theorem openOps {H : Type} {enc : TypeId × Value → H} {P : Program} {W : World} {t e : TypeId} {v : Value} {d : DataW H} {p : List MemPlace} {base : Nat} {f0 f1 f2 f3 : Field} {e3 : TypeId}
    (ht : P.underlying t = some (.slice e)) (he : P.underlying e = some (.struct #[f0, f1, f2, f3])) (hone : oneCellFields P #[f0, f1, f2, f3] = true) (hC : P.cellsOf e = 4)
    (h0 : P.underlying f0.type = some (.int .i64)) (h1 : P.underlying f1.type = some (.int .i64)) (h2 : P.underlying f2.type = some (.int .i64)) (h3 : P.underlying f3.type = some (.slice e3)) (h4 : P.underlying e3 = some (.int .u8)) (hC3 : P.cellsOf e3 = 1)
    (hval : Value.okWide P W .any base t v) (h : DataW.Trod enc P W 0 (fun _ => true) true t v d p) :
    ∃ (A : Option Addr) (n c : Nat), v = .slice A n c ∧ OpsIn W A n ∧ n ≤ 9223372036854775807 := by
  obtain ⟨a0, len0, cap0, rfl⟩ := okWide_slice ht hval
  obtain ⟨fuel, hf⟩ := h
  rcases open_slice_fields ht he hone hC hf with ⟨hcs, _⟩ | ⟨x, l, c, m, D, Pl, hcs, _, hl, hm, hmm, _, hi⟩
  · simp [Value.cells] at hcs
    obtain ⟨rfl, rfl, rfl⟩ := hcs
    exact ⟨none, 0, 0, rfl, fun h => absurd h (by omega), by omega⟩
  · simp [Value.cells] at hcs
    obtain ⟨rfl, rfl, rfl⟩ := hcs
    unfold maxLen at hm
    refine ⟨some x, len0, cap0, rfl, fun hn => ?_, by omega⟩
    have hmn : m = cap0 := hmm
    obtain ⟨b, o, sp⟩ := x
    obtain ⟨ys, n0, _, _, _, hfld⟩ := hi 0 (by omega)
    obtain ⟨u0, y0, hc0, _, _⟩ := hfld 0 f0 rfl
    have hsp : sp = none := by simpa [Addr.add] using World.cell?_spot hc0
    subst hsp
    have had : ∀ k, (⟨b, o, none⟩ : Addr).add k = ⟨b, o + k, none⟩ := fun k => by unfold Addr.add; split <;> simp_all
    refine ⟨b, o, rfl, ?_, fun i hin => ?_⟩
    · have := World.block_lt_of_cell? W _ hc0
      simpa [Addr.add] using this
    · obtain ⟨ys, n0, _, _, _, hfld⟩ := hi i (by omega)
      obtain ⟨u0, y0, hc0, _, t0⟩ := hfld 0 f0 rfl
      obtain ⟨u1, y1, hc1, _, t1⟩ := hfld 1 f1 rfl
      obtain ⟨u2, y2, hc2, _, t2⟩ := hfld 2 f2 rfl
      obtain ⟨u3, y3, hc3, _, t3⟩ := hfld 3 f3 rfl
      obtain ⟨a0, rfl, w0⟩ := wfOf h0 t0
      obtain ⟨a1, rfl, w1⟩ := wfOf h1 t1
      obtain ⟨a2, rfl, w2⟩ := wfOf h2 t2
      obtain ⟨A3, c3, xs, rfl, hI, hw, g1, g2⟩ := openIntsF h3 h4 hC3 t3
      rw [had] at hc0 hc1 hc2 hc3
      exact ⟨a0, a1, a2, A3, c3, xs, hc0, hc1, hc2, hc3, w0, w1, w2, hI, bytes_wf' _ hw, g1, g2⟩
end Go.Proofs.Ytndjebddgnmpfaa
namespace Go.Proofs.Ytndjebddgnmpfaa
open Go.Joins Go.ChangeShapes Go.WideShapes Go.ChangeAt Go.RowKit Go.Deep
set_option linter.unusedVariables false

theorem weightsAll_mem {H : Type} {P : Program} {e : TypeId} {n : Nat} {d : DataW H} : ∀ {l : List (DataW H)}, d ∈ l → n ∈ d.weights P e → n ∈ DataW.weightsAll P e l
  | d0 :: l, hd, hn => by
    simp only [DataW.weightsAll, List.mem_append]
    rcases List.mem_cons.1 hd with rfl | h
    · exact .inl hn
    · exact .inr (weightsAll_mem h hn)
/-- A slice in a field, with its bound. -/
theorem openIntsB {H : Type} {enc : TypeId × Value → H} {P : Program} {W : World} {n : Nat} {t e : TypeId} {k : IntKind} {v : Value} {y : DataW H × List MemPlace}
    (ht : P.underlying t = some (.slice e)) (he : P.underlying e = some (.int k)) (hC : P.cellsOf e = 1) (h : DataW.trod enc P W 0 (fun _ => true) true n t [v] = some y) (hb : ∀ m ∈ y.1.weights P t, m ≤ reachBytes) :
    ∃ (A : Option Addr) (c : Nat) (xs : List Int), v = .slice A xs.length c ∧ Ints k W A xs ∧ (∀ x ∈ xs, (Lit.int k x).wf = true) ∧ xs.length ≤ c ∧ c ≤ 9223372036854775807 ∧ xs.length * P.bytesOf e ≤ reachBytes := by
  obtain ⟨A, c, xs, rfl, hI, hw, g1, g2⟩ := openIntsF ht he hC h
  refine ⟨A, c, xs, rfl, hI, hw, g1, g2, ?_⟩
  rcases open_ints ht he hC h with ⟨hcs, _⟩ | ⟨x, l, c', zs, hcs, _, hl, hm, hz, hx, hcell, hwz⟩
  · injection hcs with hcs
    injection hcs with _ h1 _
    rw [h1, Nat.zero_mul]; exact Nat.zero_le _
  · injection hcs with hcs
    injection hcs with _ h1 _
    have hzl : zs.length = c' := by simpa using hz
    subst hx
    have hs := hb ((zs.length) * P.bytesOf e) (by simp [DataW.weights, ht, lits]; left; congr 1; omega)
    exact Nat.le_trans (Nat.mul_le_mul_right _ (by omega)) hs
/-- The script in memory. -/
def OpsInB (W : World) (As : Option Addr) (n : Nat) : Prop :=
  0 < n → ∃ b o, As = some ⟨b, o, none⟩ ∧ b < W.heap.size ∧ ∀ i, i < n → ∃ (kd who ix : Int) (A : Option Addr) (c : Nat) (xs : List Int),
    W.cell? ⟨b, o + i * 4, none⟩ = some (.int .i64 kd) ∧ W.cell? ⟨b, o + i * 4 + 1, none⟩ = some (.int .i64 who) ∧ W.cell? ⟨b, o + i * 4 + 2, none⟩ = some (.int .i64 ix) ∧ W.cell? ⟨b, o + i * 4 + 3, none⟩ = some (.slice A xs.length c) ∧
    (Lit.int .i64 kd).wf = true ∧ (Lit.int .i64 who).wf = true ∧ (Lit.int .i64 ix).wf = true ∧ Ints .u8 W A xs ∧ (∀ x ∈ xs, 0 ≤ x ∧ x < 256) ∧ xs.length ≤ c ∧ c ≤ 9223372036854775807 ∧ xs.length ≤ 140737488351232
theorem openOpsB {H : Type} {enc : TypeId × Value → H} {P : Program} {W : World} {t e : TypeId} {v : Value} {d : DataW H} {p : List MemPlace} {base : Nat} {f0 f1 f2 f3 : Field} {e3 : TypeId} {ts : List TypeId} {ds : List (DataW H)} {j : Nat}
    (ht : P.underlying t = some (.slice e)) (he : P.underlying e = some (.struct #[f0, f1, f2, f3])) (hone : oneCellFields P #[f0, f1, f2, f3] = true) (hC : P.cellsOf e = 4)
    (h0 : P.underlying f0.type = some (.int .i64)) (h1 : P.underlying f1.type = some (.int .i64)) (h2 : P.underlying f2.type = some (.int .i64)) (h3 : P.underlying f3.type = some (.slice e3)) (h4 : P.underlying e3 = some (.int .u8)) (hC3 : P.cellsOf e3 = 1) (hB3 : P.bytesOf e3 = 1)
    (hval : Value.okWide P W .any base t v) (h : DataW.Trod enc P W 0 (fun _ => true) true t v d p) (hsz : (DataW.weightsEach P ts ds).all (· ≤ reachBytes) = true) (htj : ts[j]? = some t) (hdj : ds[j]? = some d) :
    ∃ (A : Option Addr) (n c : Nat), v = .slice A n c ∧ OpsInB W A n ∧ n ≤ 9223372036854775807 := by
  obtain ⟨a0, len0, cap0, rfl⟩ := okWide_slice ht hval
  obtain ⟨fuel, hf⟩ := h
  rcases open_slice_fields ht he hone hC hf with ⟨hcs, _⟩ | ⟨x, l, c, m, D, Pl, hcs, _, hl, hm, hmm, hx, hi⟩
  · simp [Value.cells] at hcs
    obtain ⟨rfl, rfl, rfl⟩ := hcs
    exact ⟨none, 0, 0, rfl, fun h => absurd h (by omega), by omega⟩
  · simp [Value.cells] at hcs
    obtain ⟨rfl, rfl, rfl⟩ := hcs
    unfold maxLen at hm
    simp only [Prod.mk.injEq] at hx
    obtain ⟨hd, _⟩ := hx
    refine ⟨some x, len0, cap0, rfl, fun hn => ?_, by omega⟩
    have hmn : m = cap0 := hmm
    obtain ⟨b, o, sp⟩ := x
    obtain ⟨ys, n0, _, _, _, hfld⟩ := hi 0 (by omega)
    obtain ⟨u0, y0, hc0, _, _⟩ := hfld 0 f0 rfl
    have hsp : sp = none := by simpa [Addr.add] using World.cell?_spot hc0
    subst hsp
    have had : ∀ k, (⟨b, o, none⟩ : Addr).add k = ⟨b, o + k, none⟩ := fun k => by unfold Addr.add; split <;> simp_all
    refine ⟨b, o, rfl, ?_, fun i hin => ?_⟩
    · have := World.block_lt_of_cell? W _ hc0
      simpa [Addr.add] using this
    · obtain ⟨ys, n0, hDi, _, hlen, hfld⟩ := hi i (by omega)
      obtain ⟨u0, y0, hc0, g0, t0⟩ := hfld 0 f0 rfl
      obtain ⟨u1, y1, hc1, g1, t1⟩ := hfld 1 f1 rfl
      obtain ⟨u2, y2, hc2, g2, t2⟩ := hfld 2 f2 rfl
      obtain ⟨u3, y3, hc3, g3, t3⟩ := hfld 3 f3 rfl
      obtain ⟨a0, rfl, w0⟩ := wfOf h0 t0
      obtain ⟨a1, rfl, w1⟩ := wfOf h1 t1
      obtain ⟨a2, rfl, w2⟩ := wfOf h2 t2
      have hw3 : ∀ m ∈ y3.1.weights P f3.type, m ≤ reachBytes := by
        intro m hm
        have hy : DataW.weightsEach P (#[f0, f1, f2, f3].toList.map (·.type)) (ys.map (·.1)) = DataW.weightsEach P (#[f0, f1, f2, f3].toList.map (·.type)) (ys.map (·.1)) := rfl
        have e1 : m ∈ DataW.weightsEach P (#[f0, f1, f2, f3].toList.map (·.type)) (ys.map (·.1)) := DataW.weights_mem_each (j := 3) (t := f3.type) (d := y3.1) rfl (by rw [List.getElem?_map, g3]; rfl) m hm
        have e2 : m ∈ (D i).weights P e := by rw [hDi]; simp only [DataW.weights, he]; exact e1
        have e3 : m ∈ d.weights P t := by
          rw [hd]
          simp only [DataW.weights, ht]
          refine List.mem_cons_of_mem _ (List.mem_append_left _ (weightsAll_mem ?_ e2))
          exact List.mem_map.2 ⟨i, List.mem_range.2 hin, rfl⟩
        have := List.all_eq_true.1 hsz m (DataW.weights_mem_each htj hdj m e3)
        simpa using this
      obtain ⟨A3, c3, xs, rfl, hI, hw, g1, g2, gb⟩ := openIntsB h3 h4 hC3 t3 hw3
      rw [had] at hc0 hc1 hc2 hc3
      rw [hB3, Nat.mul_one] at gb
      exact ⟨a0, a1, a2, A3, c3, xs, hc0, hc1, hc2, hc3, w0, w1, w2, hI, bytes_wf' _ hw, g1, g2, gb⟩
end Go.Proofs.Ytndjebddgnmpfaa
namespace Go.Proofs.Ytndjebddgnmpfaa
open Go.Joins Go.ChangeShapes Go.WideShapes Go.ChangeAt Go.RowKit Go.Deep
set_option linter.unusedVariables false

theorem list_of_all {α : Type} {Q : Nat → α → Prop} : ∀ n : Nat, (∀ i, i < n → ∃ x, Q i x) → ∃ L : List α, L.length = n ∧ ∀ i x, L[i]? = some x → Q i x
  | 0, _ => ⟨[], rfl, fun i x h => by simp at h⟩
  | n + 1, h => by
    obtain ⟨L, hl, hL⟩ := list_of_all n (fun i hi => h i (by omega))
    obtain ⟨x, hx⟩ := h n (by omega)
    refine ⟨L ++ [x], by simp [hl], fun i y hy => ?_⟩
    by_cases hi : i < n
    · rw [List.getElem?_append_left (by omega)] at hy
      exact hL i y hy
    · have hlt := (List.getElem?_eq_some_iff.1 hy).1
      simp [hl] at hlt
      obtain rfl : i = n := by omega
      rw [List.getElem?_append_right (by omega), hl, Nat.sub_self] at hy
      simp at hy
      rw [← hy]; exact hx
theorem openObjs {H : Type} {enc : TypeId × Value → H} {P : Program} {W : World} {t e : TypeId} {v : Value} {d : DataW H} {p : List MemPlace} {base : Nat} {f0 f1 f2 f3 f4 : Field} {e1 : TypeId} {ts : List TypeId} {ds : List (DataW H)} {j : Nat}
    (ht : P.underlying t = some (.slice e)) (he : P.underlying e = some (.struct #[f0, f1, f2, f3, f4])) (hone : oneCellFields P #[f0, f1, f2, f3, f4] = true) (hC : P.cellsOf e = 5) (hB : P.bytesOf e = 64)
    (h0 : P.underlying f0.type = some (.int .i64)) (h1 : P.underlying f1.type = some (.slice e1)) (h11 : P.underlying e1 = some (.int .u8)) (hC1 : P.cellsOf e1 = 1) (h2 : P.underlying f2.type = some .string) (h3 : P.underlying f3.type = some (.int .i64)) (h4 : P.underlying f4.type = some (.int .u32))
    (hval : Value.okWide P W .any base t v) (h : DataW.Trod enc P W 0 (fun _ => true) true t v d p) (hsz : (DataW.weightsEach P ts ds).all (· ≤ reachBytes) = true) (htj : ts[j]? = some t) (hdj : ds[j]? = some d) :
    ∃ (A : Option Addr) (n c : Nat) (L : List El), v = .slice A n c ∧ ObE W A L ∧ L.length = n ∧ (A = none → n = 0 ∧ c = 0) ∧ n ≤ 2199023255552 ∧ (∀ x ∈ L, 0 ≤ x.crc ∧ x.crc < 4294967296) ∧ (∀ x ∈ L, x.id.size ≤ 140737488351232) ∧ (∀ x ∈ L, (Lit.int .i64 x.at_).wf = true) := by
  obtain ⟨a0, len0, cap0, rfl⟩ := okWide_slice ht hval
  obtain ⟨fuel, hf⟩ := h
  rcases open_slice_fields ht he hone hC hf with ⟨hcs, _⟩ | ⟨x, l, c, m, D, Pl, hcs, _, hl, hm, hmm, hx, hi⟩
  · simp [Value.cells] at hcs
    obtain ⟨rfl, rfl, rfl⟩ := hcs
    exact ⟨none, 0, 0, [], rfl, (fun h => absurd h (by simp)), rfl, (fun _ => ⟨rfl, rfl⟩), by decide, (fun x hx => by cases hx), (fun x hx => by cases hx), fun x hx => by cases hx⟩
  · simp [Value.cells] at hcs
    obtain ⟨rfl, rfl, rfl⟩ := hcs
    unfold maxLen at hm
    simp only [Prod.mk.injEq] at hx
    obtain ⟨hd, _⟩ := hx
    have hmn : m = cap0 := hmm
    have hbyt : len0 ≤ 2199023255552 := by
      have hs := List.all_eq_true.1 hsz ((len0 + (m - len0)) * P.bytesOf e) (DataW.weights_mem_each htj hdj _ (by rw [hd]; simp [DataW.weights, ht]))
      rw [hB] at hs
      have hs := of_decide_eq_true hs
      unfold reachBytes at hs
      omega
    obtain ⟨b, o, sp⟩ := x
    by_cases hn : 0 < len0
    · obtain ⟨ys, n0, _, _, _, hfld⟩ := hi 0 (by omega)
      obtain ⟨u0, y0, hc0, _, _⟩ := hfld 0 f0 rfl
      have hsp : sp = none := by simpa [Addr.add] using World.cell?_spot hc0
      subst hsp
      have had : ∀ k, (⟨b, o, none⟩ : Addr).add k = ⟨b, o + k, none⟩ := fun k => by unfold Addr.add; split <;> simp_all
      have hbl : b < W.heap.size := by
        have := World.block_lt_of_cell? W _ hc0
        simpa [Addr.add] using this
      obtain ⟨L, hL, hLx⟩ := list_of_all (Q := fun i (x : El) => (∀ c, c < 5 → W.cell? ⟨b, o + i * 5 + c, none⟩ = (encE x)[c]?) ∧ (0 ≤ x.crc ∧ x.crc < 4294967296) ∧ x.id.size ≤ 140737488351232 ∧ (Lit.int .i64 x.at_).wf = true) len0 (fun i hin => by
        obtain ⟨ys, n0, hDi, _, hlen, hfld⟩ := hi i (by omega)
        obtain ⟨u0, y0, hc0, g0, t0⟩ := hfld 0 f0 rfl
        obtain ⟨u1, y1, hc1, g1, t1⟩ := hfld 1 f1 rfl
        obtain ⟨u2, y2, hc2, g2, t2⟩ := hfld 2 f2 rfl
        obtain ⟨u3, y3, hc3, g3, t3⟩ := hfld 3 f3 rfl
        obtain ⟨u4, y4, hc4, g4, t4⟩ := hfld 4 f4 rfl
        obtain ⟨a0, rfl, w0⟩ := wfOf h0 t0
        obtain ⟨A1, c1, xs, rfl, _, _, _, _⟩ := openIntsF h1 h11 hC1 t1
        obtain ⟨s2, e2, hy2, _⟩ := DataW.trod_string h2 t2
        injection e2 with e2
        subst e2
        obtain ⟨a3, rfl, w3⟩ := wfOf h3 t3
        obtain ⟨a4, rfl, w4⟩ := wfOf h4 t4
        have hs2 : s2.size ≤ 140737488351232 := by
          have e1 : s2.size ∈ DataW.weightsEach P (#[f0, f1, f2, f3, f4].toList.map (·.type)) (ys.map (·.1)) := DataW.weights_mem_each (j := 2) (t := f2.type) (d := y2.1) rfl (by rw [List.getElem?_map, g2]; rfl) s2.size (by rw [hy2]; simp [DataW.weights])
          have e2 : s2.size ∈ (D i).weights P e := by rw [hDi]; simp only [DataW.weights, he]; exact e1
          have e3 : s2.size ∈ d.weights P t := by
            rw [hd]
            simp only [DataW.weights, ht]
            refine List.mem_cons_of_mem _ (List.mem_append_left _ (weightsAll_mem ?_ e2))
            exact List.mem_map.2 ⟨i, List.mem_range.2 hin, rfl⟩
          have := List.all_eq_true.1 hsz _ (DataW.weights_mem_each htj hdj _ e3)
          have := of_decide_eq_true this
          unfold reachBytes at this
          exact this
        have hw4 : 0 ≤ a4 ∧ a4 < 4294967296 := by
          simp [Lit.wf, IntKind.min, IntKind.max, IntKind.bits, IntKind.signed] at w4
          omega
        rw [had] at hc0 hc1 hc2 hc3 hc4
        refine ⟨⟨a0, A1, xs.length, c1, s2, a3, a4⟩, ?_, hw4, hs2, w3⟩
        intro c hc
        have e5 : o + (i * (#[f0, f1, f2, f3, f4] : Array Field).size + c) = o + i * 5 + c := by
          show o + (i * 5 + c) = _
          omega
        rcases c with _ | _ | _ | _ | _ | c
        · rw [← e5]; exact hc0
        · rw [← e5]; exact hc1
        · rw [← e5]; exact hc2
        · rw [← e5]; exact hc3
        · rw [← e5]; exact hc4
        · omega)
      refine ⟨some ⟨b, o, none⟩, len0, cap0, L, rfl, (fun _ => ⟨b, o, rfl, hbl, fun i c x hx hc => (hLx i x hx).1 c hc⟩), hL, (fun h => by cases h), hbyt, ?_, ?_, ?_⟩
      · intro x hx
        obtain ⟨i, hi, rfl⟩ := List.getElem_of_mem hx
        exact (hLx i _ (List.getElem?_eq_getElem hi)).2.1
      · intro x hx
        obtain ⟨i, hi, rfl⟩ := List.getElem_of_mem hx
        exact (hLx i _ (List.getElem?_eq_getElem hi)).2.2.1
      · intro x hx
        obtain ⟨i, hi, rfl⟩ := List.getElem_of_mem hx
        exact (hLx i _ (List.getElem?_eq_getElem hi)).2.2.2
    · obtain rfl : len0 = 0 := by omega
      exact ⟨some ⟨b, o, sp⟩, 0, cap0, [], rfl, (fun h => absurd h (by simp)), rfl, (fun h => by cases h), by decide, (fun x hx => by cases hx), (fun x hx => by cases hx), fun x hx => by cases hx⟩
end Go.Proofs.Ytndjebddgnmpfaa
