/- What a law's proof over objects opens its arguments with: a struct of twelve fields, a slice of entries, a slice of texts; how long they are by the bulk. -/
import Derived.Test.YtdlabapfcghfmaaGreatDoorLaidO
import Derived.Test.YtdlabapfcghfmaaGreatDoorRgA
import Derived.Deep.Strs
import Derived.Deep.Slices
namespace Go.Proofs.YtdlabapfcghfmaaGreatDoor
open Go.Joins Go.ChangeShapes Go.WideShapes Go.ChangeAt Go.RowKit Go.Deep
set_option linter.unusedVariables false

section
variable {H : Type} {enc : TypeId × Value → H} {P : Program} {w : World} {base : Nat} {spare : Nat → Bool} {held : Bool}
theorem open_slice_fields {t e : TypeId} {fs : Array Field} {fuel : Nat} {cs : List Value} {x : DataW H × List MemPlace} (ht : P.underlying t = some (.slice e)) (he : P.underlying e = some (.struct fs))
    (hone : oneCellFields P fs = true) (hC : P.cellsOf e = fs.size) (h : DataW.trod enc P w base spare held fuel t cs = some x) :
    (cs = [.slice none 0 0] ∧ x = (.nil, [])) ∨
    ∃ (a : Addr) (len cap m : Nat) (D : Nat → DataW H) (Pl : Nat → List MemPlace), cs = [.slice (some a) len cap] ∧ base ≤ a.block ∧ len ≤ cap ∧ cap ≤ maxLen ∧ m = (if spare a.block then cap else len) ∧
      x = (.slice ((List.range len).map D) ((List.range (m - len)).map fun j => D (len + j)), MemPlace.row a (m * fs.size) ++ (List.range m).flatMap Pl) ∧
      ∀ i, i < m → ∃ (ys : List (DataW H × List MemPlace)) (n : Nat), D i = .agg (ys.map (·.1)) ∧ Pl i = ys.flatMap (·.2) ∧ ys.length = fs.size ∧
        ∀ (j : Nat) (f : Field), fs[j]? = some f → ∃ (v : Value) (y : DataW H × List MemPlace), w.cell? (a.add (i * fs.size + j)) = some v ∧ ys[j]? = some y ∧ DataW.trod enc P w base spare held n f.type [v] = some y := by
  rcases open_slice ht h with h0 | ⟨a, len, cap, m, n, D, Pl, hcs, hb, hl, hm, hmm, hx, hi⟩
  · exact .inl h0
  · refine .inr ⟨a, len, cap, m, D, Pl, hcs, hb, hl, hm, hmm, by rw [hC] at hx; exact hx, fun i him => ?_⟩
    obtain ⟨cs', hc, ht'⟩ := hi i him
    rw [hC] at hc
    obtain ⟨ys, n', hn', hy, hlen, hyl, hf⟩ := DataW.trod_struct he ht'
    obtain ⟨_, hcl, hat⟩ := World.cells?_some hc
    simp only [Prod.mk.injEq] at hy
    refine ⟨ys, n', hy.1, hy.2, hyl, fun j f hj => ?_⟩
    obtain ⟨ho, hk⟩ := hone_of hone j f hj
    have hjl : j < fs.size := (Array.getElem?_eq_some_iff.1 hj).1
    have hcell := hat j hjl
    have hv : cs'[j]? = some (cs'[j]'(by omega)) := List.getElem?_eq_getElem (by omega)
    have h1 := hf j f hj
    rw [ho, hk] at h1
    have hone' : (cs'.drop j).take 1 = [cs'[j]'(by omega)] := by
      rw [List.drop_eq_getElem_cons (by omega)]
      rfl
    rw [hone'] at h1
    have hys : ys[j]? = some (ys[j]'(by omega)) := List.getElem?_eq_getElem (by omega)
    refine ⟨_, _, ?_, hys, h1.trans hys⟩
    rw [← Go.Deep.add_add, hcell, hv]
end
theorem list_of_all {α : Type} {Q : Nat → α → Prop} : ∀ n : Nat, (∀ i, i < n → ∃ x, Q i x) → ∃ L : List α, L.length = n ∧ ∀ i x, L[i]? = some x → Q i x
  | 0, _ => ⟨[], rfl, fun i x h => by simp at h⟩
  | n + 1, h => by
    obtain ⟨L, hl, hL⟩ := list_of_all n (fun i hi => h i (by omega))
    obtain ⟨x, hx⟩ := h n (by omega)
    refine ⟨L ++ [x], by simp [hl], fun i y hy => ?_⟩
    by_cases hi : i < n
    · rw [List.getElem?_append_left (by omega)] at hy
      exact hL i y hy
    · have hlt := (List.getElem?_eq_some_iff.1 hy).1
      simp [hl] at hlt
      obtain rfl : i = n := by omega
      rw [List.getElem?_append_right (by omega), hl, Nat.sub_self] at hy
      simp at hy
      rw [← hy]; exact hx
section
variable {H : Type} {enc : TypeId × Value → H} {P : Program} {w : World} {base : Nat} {spare : Nat → Bool} {held : Bool}
theorem open_agg12 {r : Reach} {b0 : Nat} {t : TypeId} {f0 f1 f2 f3 f4 f5 f6 f7 f8 f9 f10 f11 : Field} {v : Value} {d : DataW H} {p : List MemPlace} (hs : P.underlying t = some (.struct #[f0, f1, f2, f3, f4, f5, f6, f7, f8, f9, f10, f11])) (hone : oneCellFields P #[f0, f1, f2, f3, f4, f5, f6, f7, f8, f9, f10, f11] = true) (hC : P.cellsOf t = 12)
    (hv : Value.okWide P w r b0 t v) (h : DataW.Trod enc P w base spare held t v d p) :
    ∃ (v0 v1 v2 v3 v4 v5 v6 v7 v8 v9 v10 v11 : Value) (y0 y1 y2 y3 y4 y5 y6 y7 y8 y9 y10 y11 : DataW H × List MemPlace) (n : Nat), v = .agg #[v0, v1, v2, v3, v4, v5, v6, v7, v8, v9, v10, v11] ∧ d = .agg [y0.1, y1.1, y2.1, y3.1, y4.1, y5.1, y6.1, y7.1, y8.1, y9.1, y10.1, y11.1] ∧
      DataW.trod enc P w base spare held n f0.type [v0] = some y0 ∧ DataW.trod enc P w base spare held n f1.type [v1] = some y1 ∧ DataW.trod enc P w base spare held n f2.type [v2] = some y2 ∧ DataW.trod enc P w base spare held n f3.type [v3] = some y3 ∧ DataW.trod enc P w base spare held n f4.type [v4] = some y4 ∧ DataW.trod enc P w base spare held n f5.type [v5] = some y5 ∧ DataW.trod enc P w base spare held n f6.type [v6] = some y6 ∧ DataW.trod enc P w base spare held n f7.type [v7] = some y7 ∧ DataW.trod enc P w base spare held n f8.type [v8] = some y8 ∧ DataW.trod enc P w base spare held n f9.type [v9] = some y9 ∧ DataW.trod enc P w base spare held n f10.type [v10] = some y10 ∧ DataW.trod enc P w base spare held n f11.type [v11] = some y11 := by
  obtain ⟨cs, rfl, hsz⟩ := okWide_struct hs hv
  obtain ⟨l⟩ := cs
  match l, hsz.trans hC with
  | [c0, c1, c2, c3, c4, c5, c6, c7, c8, c9, c10, c11], _ =>
    obtain ⟨fuel, hf⟩ := h
    obtain ⟨xs, n, _, hx, _, hlen, hg⟩ := DataW.trod_struct hs hf
    obtain ⟨o0, k0⟩ := hone_of hone 0 f0 rfl
    obtain ⟨o1, k1⟩ := hone_of hone 1 f1 rfl
    obtain ⟨o2, k2⟩ := hone_of hone 2 f2 rfl
    obtain ⟨o3, k3⟩ := hone_of hone 3 f3 rfl
    obtain ⟨o4, k4⟩ := hone_of hone 4 f4 rfl
    obtain ⟨o5, k5⟩ := hone_of hone 5 f5 rfl
    obtain ⟨o6, k6⟩ := hone_of hone 6 f6 rfl
    obtain ⟨o7, k7⟩ := hone_of hone 7 f7 rfl
    obtain ⟨o8, k8⟩ := hone_of hone 8 f8 rfl
    obtain ⟨o9, k9⟩ := hone_of hone 9 f9 rfl
    obtain ⟨o10, k10⟩ := hone_of hone 10 f10 rfl
    obtain ⟨o11, k11⟩ := hone_of hone 11 f11 rfl
    match xs, hlen with
    | [y0, y1, y2, y3, y4, y5, y6, y7, y8, y9, y10, y11], _ =>
      simp only [Prod.mk.injEq] at hx
      exact ⟨c0, c1, c2, c3, c4, c5, c6, c7, c8, c9, c10, c11, y0, y1, y2, y3, y4, y5, y6, y7, y8, y9, y10, y11, n, rfl, by simpa using hx.1, by simpa [Value.cells, o0, k0] using hg 0 f0 rfl, by simpa [Value.cells, o1, k1] using hg 1 f1 rfl, by simpa [Value.cells, o2, k2] using hg 2 f2 rfl, by simpa [Value.cells, o3, k3] using hg 3 f3 rfl, by simpa [Value.cells, o4, k4] using hg 4 f4 rfl, by simpa [Value.cells, o5, k5] using hg 5 f5 rfl, by simpa [Value.cells, o6, k6] using hg 6 f6 rfl, by simpa [Value.cells, o7, k7] using hg 7 f7 rfl, by simpa [Value.cells, o8, k8] using hg 8 f8 rfl, by simpa [Value.cells, o9, k9] using hg 9 f9 rfl, by simpa [Value.cells, o10, k10] using hg 10 f10 rfl, by simpa [Value.cells, o11, k11] using hg 11 f11 rfl⟩
end
theorem bulk_part {H : Type} {d : DataW H} {l : List (DataW H)} (h : d ∈ l) : Rows.uptoBulk d ≤ Rows.uptoBulkAll l := by
  induction l with
  | nil => cases h
  | cons x r ih =>
    simp only [Rows.uptoBulkAll]
    rcases List.mem_cons.1 h with e | e
    · subst e; omega
    · have := ih e; omega
theorem bulk_one {H : Type} (d : DataW H) : 1 ≤ Rows.uptoBulk d := by
  cases d with
  | lit l => cases l <;> simp [Rows.uptoBulk]
  | nil => simp [Rows.uptoBulk]
  | ptr d => simp [Rows.uptoBulk]
  | slice elems spare => simp [Rows.uptoBulk]
  | agg parts => simp [Rows.uptoBulk]
  | iface t d => simp [Rows.uptoBulk]
  | map entries => simp [Rows.uptoBulk]
  | held h => simp [Rows.uptoBulk]
theorem bulk_len {H : Type} (l : List (DataW H)) : l.length ≤ Rows.uptoBulkAll l := by
  induction l with
  | nil => simp [Rows.uptoBulkAll]
  | cons x r ih => have := bulk_one x; simp only [Rows.uptoBulkAll, List.length_cons]; omega
theorem bulk_str {H : Type} {y : DataW H × List MemPlace} {s : ByteArray} (h : y = (.lit (.string s.data.toList), [])) : s.size + 1 ≤ Rows.uptoBulk y.1 := by
  subst h
  simp only [Rows.uptoBulk]
  show s.data.size + 1 ≤ _
  rw [Array.length_toList]
  exact Nat.le_refl _
theorem openStrF {H : Type} {enc : TypeId × Value → H} {P : Program} {W : World} {n : Nat} {t : TypeId} {v : Value} {y : DataW H × List MemPlace} (ht : P.underlying t = some .string) (h : DataW.trod enc P W 0 (fun _ => true) true n t [v] = some y) :
    ∃ s : ByteArray, v = .string s ∧ s.size + 1 ≤ Rows.uptoBulk y.1 := by
  obtain ⟨s, e, hy, _⟩ := DataW.trod_string ht h
  injection e with e
  exact ⟨s, e, bulk_str hy⟩
theorem openIntF {H : Type} {enc : TypeId × Value → H} {P : Program} {W : World} {n : Nat} {t : TypeId} {k : IntKind} {v : Value} {y : DataW H × List MemPlace} (ht : P.underlying t = some (.int k)) (h : DataW.trod enc P W 0 (fun _ => true) true n t [v] = some y) :
    ∃ x, v = .int k x ∧ (Lit.int k x).wf = true := by
  obtain ⟨x, h1, h2, h3⟩ := DataW.trod_int ht h
  injection h1 with h1
  exact ⟨x, h1, h3⟩
/-- A slice of texts in a field. -/
theorem openStrsF {H : Type} {enc : TypeId × Value → H} {P : Program} {W : World} {n : Nat} {t e : TypeId} {v : Value} {y : DataW H × List MemPlace} (ht : P.underlying t = some (.slice e)) (he : P.underlying e = some .string) (hC : P.cellsOf e = 1)
    (h : DataW.trod enc P W 0 (fun _ => true) true n t [v] = some y) :
    ∃ (A : Option Addr) (N c : Nat) (L : List ByteArray), v = .slice A N c ∧ StrsAt W A L ∧ L.length = N ∧ N ≤ Rows.uptoBulk y.1 ∧ (∀ s ∈ L, s.size ≤ Rows.uptoBulk y.1) ∧ (A = none → N = 0) := by
  rcases open_strs ht he hC h with ⟨hcs, _⟩ | ⟨x, l, c, m, Sx, hcs, _, hl, hm, hmm, hx, hcell⟩
  · injection hcs with hcs
    subst hcs
    exact ⟨none, 0, 0, [], rfl, StrsAt.nil, rfl, Nat.zero_le _, (fun s hs => by cases hs), fun _ => rfl⟩
  · injection hcs with hcs
    subst hcs
    have hlm : l ≤ m := by rw [hmm]; split <;> omega
    have hy : y.1 = .slice ((List.range l).map fun i => .lit (.string (Sx i).data.toList)) ((List.range (m - l)).map fun j => .lit (.string (Sx (l + j)).data.toList)) := by rw [hx]
    have hbl := bulk_len ((List.range l).map fun i => (DataW.lit (.string (Sx i).data.toList) : DataW H))
    rw [List.length_map, List.length_range] at hbl
    refine ⟨some x, l, c, (List.range l).map Sx, rfl, ?_, by simp, ?_, ?_, fun h => by cases h⟩
    · intro h0
      simp only [List.length_map, List.length_range] at h0
      obtain ⟨b, o, sp⟩ := x
      have hsp : sp = none := by simpa [Addr.add] using World.cell?_spot (hcell 0 (by omega)).1
      subst hsp
      have had : ∀ k, (⟨b, o, none⟩ : Addr).add k = ⟨b, o + k, none⟩ := fun k => by unfold Addr.add; split <;> simp_all
      refine ⟨b, o, rfl, ?_, fun i s hs => ?_⟩
      · have := World.block_lt_of_cell? W _ (hcell 0 (by omega)).1
        simpa [Addr.add] using this
      · have hi := (List.getElem?_eq_some_iff.1 hs).1
        simp at hi
        rw [List.getElem?_map, List.getElem?_range hi] at hs
        simp at hs
        rw [← had, ← hs]
        exact (hcell i (by omega)).1
    · rw [hy]; simp only [Rows.uptoBulk]; omega
    · intro s hs
      obtain ⟨i, hi, rfl⟩ := List.mem_map.1 hs
      have := bulk_part (H := H) (List.mem_map.2 ⟨i, hi, rfl⟩ : (DataW.lit (.string (Sx i).data.toList) : DataW H) ∈ (List.range l).map fun i => .lit (.string (Sx i).data.toList))
      simp only [Rows.uptoBulk] at this
      rw [Array.length_toList] at this
      rw [hy]; simp only [Rows.uptoBulk]
      show (Sx i).data.size ≤ _
      omega
/-- A slice of entries in a field. -/
theorem openEntsF {H : Type} {enc : TypeId × Value → H} {P : Program} {W : World} {n : Nat} {t e : TypeId} {f0 f1 f2 : Field} {v : Value} {y : DataW H × List MemPlace} (ht : P.underlying t = some (.slice e)) (he : P.underlying e = some (.struct #[f0, f1, f2])) (hone : oneCellFields P #[f0, f1, f2] = true) (hC : P.cellsOf e = 3)
    (h0 : P.underlying f0.type = some .string) (h1 : P.underlying f1.type = some .string) (h2 : P.underlying f2.type = some .string)
    (h : DataW.trod enc P W 0 (fun _ => true) true n t [v] = some y) :
    ∃ (A : Option Addr) (N c : Nat) (L : List Ent), v = .slice A N c ∧ EntsAt W A L ∧ L.length = N ∧ N ≤ Rows.uptoBulk y.1 ∧ (∀ x ∈ L, x.m.size ≤ Rows.uptoBulk y.1 ∧ x.n.size ≤ Rows.uptoBulk y.1 ∧ x.i.size ≤ Rows.uptoBulk y.1) ∧ (A = none → N = 0) := by
  rcases open_slice_fields ht he hone hC h with ⟨hcs, _⟩ | ⟨x, l, c, m, D, Pl, hcs, _, hl, hm, hmm, hx, hi⟩
  · injection hcs with hcs
    subst hcs
    exact ⟨none, 0, 0, [], rfl, EntsAt.nil, rfl, Nat.zero_le _, (fun s hs => by cases hs), fun _ => rfl⟩
  · injection hcs with hcs
    subst hcs
    have hlm : l ≤ m := by rw [hmm]; split <;> omega
    have hy : y.1 = .slice ((List.range l).map D) ((List.range (m - l)).map fun j => D (l + j)) := by rw [hx]
    have hbl := bulk_len ((List.range l).map D)
    rw [List.length_map, List.length_range] at hbl
    have hbig : Rows.uptoBulkAll ((List.range l).map D) ≤ Rows.uptoBulk y.1 := by rw [hy]; simp only [Rows.uptoBulk]; omega
    obtain ⟨b, o, sp⟩ := x
    by_cases hn : 0 < l
    · obtain ⟨ys, n0, _, _, _, hfld⟩ := hi 0 (by omega)
      obtain ⟨u0, y0, hc0, _, _⟩ := hfld 0 f0 rfl
      have hsp : sp = none := by simpa [Addr.add] using World.cell?_spot hc0
      subst hsp
      have had : ∀ k, (⟨b, o, none⟩ : Addr).add k = ⟨b, o + k, none⟩ := fun k => by unfold Addr.add; split <;> simp_all
      have hblk : b < W.heap.size := by
        have := World.block_lt_of_cell? W _ hc0
        simpa [Addr.add] using this
      obtain ⟨L, hL, hLx⟩ := list_of_all (Q := fun i (x : Ent) => (W.cell? ⟨b, o + i * 3, none⟩ = some (.string x.m) ∧ W.cell? ⟨b, o + i * 3 + 1, none⟩ = some (.string x.n) ∧ W.cell? ⟨b, o + i * 3 + 2, none⟩ = some (.string x.i)) ∧ x.m.size ≤ Rows.uptoBulk y.1 ∧ x.n.size ≤ Rows.uptoBulk y.1 ∧ x.i.size ≤ Rows.uptoBulk y.1) l (fun i hin => by
        obtain ⟨ys, n0, hDi, _, hlen, hfld⟩ := hi i (by omega)
        obtain ⟨u0, y0, hc0, g0, t0⟩ := hfld 0 f0 rfl
        obtain ⟨u1, y1, hc1, g1, t1⟩ := hfld 1 f1 rfl
        obtain ⟨u2, y2, hc2, g2, t2⟩ := hfld 2 f2 rfl
        obtain ⟨s0, rfl, b0⟩ := openStrF h0 t0
        obtain ⟨s1, rfl, b1⟩ := openStrF h1 t1
        obtain ⟨s2, rfl, b2⟩ := openStrF h2 t2
        have hD : Rows.uptoBulk (D i) ≤ Rows.uptoBulk y.1 := Nat.le_trans (bulk_part (List.mem_map.2 ⟨i, List.mem_range.2 hin, rfl⟩)) hbig
        have hag : Rows.uptoBulk (D i) = Rows.uptoBulkAll (ys.map (·.1)) + 1 := by rw [hDi]; simp only [Rows.uptoBulk]
        have hm0 : Rows.uptoBulk y0.1 ≤ Rows.uptoBulkAll (ys.map (·.1)) := bulk_part (List.mem_map.2 ⟨y0, List.mem_of_getElem? g0, rfl⟩)
        have hm1 : Rows.uptoBulk y1.1 ≤ Rows.uptoBulkAll (ys.map (·.1)) := bulk_part (List.mem_map.2 ⟨y1, List.mem_of_getElem? g1, rfl⟩)
        have hm2 : Rows.uptoBulk y2.1 ≤ Rows.uptoBulkAll (ys.map (·.1)) := bulk_part (List.mem_map.2 ⟨y2, List.mem_of_getElem? g2, rfl⟩)
        rw [had] at hc0 hc1 hc2
        have e0 : o + (i * (#[f0, f1, f2] : Array Field).size + 0) = o + i * 3 := rfl
        have e1 : o + (i * (#[f0, f1, f2] : Array Field).size + 1) = o + i * 3 + 1 := rfl
        have e2 : o + (i * (#[f0, f1, f2] : Array Field).size + 2) = o + i * 3 + 2 := rfl
        exact ⟨⟨s0, s1, s2⟩, ⟨by rw [← e0]; exact hc0, by rw [← e1]; exact hc1, by rw [← e2]; exact hc2⟩, by show s0.size ≤ _; omega, by show s1.size ≤ _; omega, by show s2.size ≤ _; omega⟩)
      refine ⟨some ⟨b, o, none⟩, l, c, L, rfl, (fun _ => ⟨b, o, rfl, hblk, fun i x hx => (hLx i x hx).1⟩), hL, by omega, ?_, fun h => by cases h⟩
      intro x hx
      obtain ⟨i, hi, rfl⟩ := List.getElem_of_mem hx
      exact (hLx i _ (List.getElem?_eq_getElem hi)).2
    · obtain rfl : l = 0 := by omega
      exact ⟨some ⟨b, o, sp⟩, 0, c, [], rfl, EntsAt.nil, rfl, Nat.zero_le _, (fun x hx => by cases hx), fun h => by cases h⟩
end Go.Proofs.YtdlabapfcghfmaaGreatDoor
