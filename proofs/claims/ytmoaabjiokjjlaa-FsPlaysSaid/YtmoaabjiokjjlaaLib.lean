/- Words for memory that all texts of this seat use: a slice that reads as integers; how it is carried from world to world. No program's function is named here. -/
import Derived.Test.YtmoaabjiokjjlaaProg
import Derived.WalkKit
import Derived.WalkSpells
import Derived.Outline
import Derived.Lib.Hide
import Derived.Deep.QuietTactic
import Derived.BigQuiet
namespace Go.Proofs.Ytmoaabjiokjjlaa
open Go.RowKit

/-- The slice at address A reads as the integers xs of kind k. -/
def Ints (k : IntKind) (w : World) (A : Option Addr) (xs : List Int) : Prop :=
  0 < xs.length → ∃ b o, A = some ⟨b, o, none⟩ ∧ b < w.heap.size ∧ ∀ j, j < xs.length → w.cell? ⟨b, o + j, none⟩ = some (.int k (xs.getD j 0))

theorem Ints.below {k : IntKind} {w w' : World} {A : Option Addr} {xs : List Int} (h : Ints k w A xs) (hb : Below w.heap.size w w') : Ints k w' A xs := by
  intro hl
  obtain ⟨b, o, hA, hlt, hc⟩ := h hl
  exact ⟨b, o, hA, Nat.lt_of_lt_of_le hlt hb.size, fun j hj => (hb.cell (p := ⟨b, o + j, none⟩) hlt).trans (hc j hj)⟩
theorem Ints.nil {k : IntKind} {w : World} {A : Option Addr} : Ints k w A [] := fun h => absurd h (by simp)
/-- What a row of the call's own holds reads as the integers. -/
theorem Ints.of_own {k : IntKind} {w : World} {base : Nat} {e : TypeId} {A : Option Addr} {n c : Nat} {xs : List Int} (h : w.ownsRow base e 1 (.slice A n c) n (xs.map (Value.int k))) : Ints k w A xs := by
  intro hl
  have h1 := h.1
  simp at h1
  rcases h.2 with ⟨hv, rfl⟩ | ⟨g, cap, cur, hv, hg, hh, hn, hm, hs, ht⟩
  · omega
  · injection hv with hA hn' hc
    subst hA
    have hgl : g < w.heap.size := by
      rcases Nat.lt_or_ge g w.heap.size with h' | h'
      · exact h'
      · rw [Array.getElem?_eq_none h'] at hh; cases hh
    refine ⟨g, 0, rfl, hgl, fun j hj => ?_⟩
    have := h.cells (g := g) rfl j (.int k (xs.getD j 0)) (by simp [List.getD_eq_getElem?_getD, List.getElem?_eq_getElem hj])
    simpa [Addr.add] using (by simpa [Addr.add] using this : w.cell? (if j = 0 then ⟨g, 0, none⟩ else ⟨g, j, none⟩) = _) |> fun hx => by
      by_cases hj0 : j = 0
      · subst hj0; simpa using hx
      · simpa [hj0] using hx

/-- The block g, one of the call's own from B on, is a row whose first n cells are the integers l (of kind k, element type e). -/
def RowI (e : TypeId) (k : IntKind) (B : Nat) (w : World) (g n c : Nat) (l : List Int) : Prop := w.ownsRow B e 1 (.slice (some ⟨g, 0, none⟩) n c) n (l.map (Value.int k))
section
variable {e : TypeId} {k : IntKind} {B : Nat} {w w' : World} {g n c : Nat} {l : List Int}
theorem RowI.len (h : RowI e k B w g n c l) : l.length = n := by have := h.1; simpa using this
theorem RowI.base (h : RowI e k B w g n c l) : B ≤ g ∧ g < w.heap.size := World.ownsRow.lt h g rfl
theorem RowI.cell (h : RowI e k B w g n c l) {j : Nat} (hj : j < n) : w.cell? ⟨g, j, none⟩ = some (.int k (l.getD j 0)) := by
  have hl := h.len
  have := World.ownsRow.cellAt h j (by omega)
  rw [List.getElem?_map, List.getElem?_eq_getElem (by omega)] at this
  simpa [List.getD_eq_getElem?_getD, List.getElem?_eq_getElem (show j < l.length by omega)] using this
theorem RowI.someCell (h : RowI e k B w g n c l) {j : Nat} (hj : j < n) : ∃ v, w.cell? ⟨g, j, none⟩ = some v := ⟨_, h.cell hj⟩
theorem RowI.frozen (h : RowI e k B w g n c l) (j : Nat) : w.frozen? ⟨g, j, none⟩ = false := World.ownsRow.frozenAt h j
theorem RowI.set (h : RowI e k B w g n c l) (j : Nat) (u : Int) : RowI e k B (w.setCell ⟨g, j, none⟩ (.int k u)) g n c (l.set j u) := by
  have := (World.ownsRow.stored h j (.int k u)).1
  unfold RowI
  rwa [List.map_set]
theorem RowI.ints (h : RowI e k B w g n c l) : Ints k w (some ⟨g, 0, none⟩) l := Ints.of_own h
end

theorem Below.drewN {B : Nat} {a w : World} (h : Below B a w) (n : Nat) : Below B a (w.drewN n) := ⟨h.os, h.tape, h.output, h.size, h.block⟩
theorem quiet_same {P : Program} {f : FuncId} {args : Array Value} {w : World} {n : Nat} {v : Value}
    (h : Calls P f args (w.drewN n) fun e w' => e = .returned v ∧ w.drewN n = w') : Calls P f args (w.drewN n) fun e w'' => e = .returned v ∧ ∃ m, w'' = w.drewN m :=
  h.mono fun _ _ ⟨he, hm⟩ => ⟨he, n, hm.symm⟩
/-- The one world is the other one behind some draws. -/
def Drawn (w w' : World) : Prop := ∃ n : Nat, w' = w.drewN n
theorem Drawn.refl (w : World) : Drawn w w := ⟨0, rfl⟩
theorem Drawn.more {w w' : World} (h : Drawn w w') (n : Nat) : Drawn w (w'.drewN n) := by
  obtain ⟨m, rfl⟩ := h
  exact ⟨m + n, World.drewN_drewN _ _ _⟩
theorem Drawn.cell {w w' : World} (h : Drawn w w') (p : Addr) : w'.cell? p = w.cell? p := by obtain ⟨m, rfl⟩ := h; rfl
theorem Drawn.frozen {w w' : World} (h : Drawn w w') (p : Addr) : w'.frozen? p = w.frozen? p := by obtain ⟨m, rfl⟩ := h; rfl
theorem Drawn.heap {w w' : World} (h : Drawn w w') : w'.heap = w.heap := by obtain ⟨m, rfl⟩ := h; rfl
theorem Drawn.below {B : Nat} {a w w' : World} (h : Drawn w w') (hb : Below B a w) : Below B a w' := by obtain ⟨m, rfl⟩ := h; exact Below.drewN hb m
theorem heap_at (w : World) (o : Obj) (r : Nat) (h : r = w.heap.size) : (w.alloc o).heap[r]? = some o := by subst h; exact heap_alloc_new w o
theorem heap_before (w : World) (o : Obj) (r : Nat) (x : Option Obj) (h : r < w.heap.size) (hx : w.heap[r]? = x) : (w.alloc o).heap[r]? = x := (heap_alloc_old w o h).trans hx
theorem Ints.of_new {k : IntKind} {w : World} {g : Nat} {xs : List Int} {t : TypeId} {fz : Nat × Nat} {cs : Array Value} (h : w.heap[g]? = some (.cells cs t fz)) (hc : cs.toList = xs.map (Value.int k)) : Ints k w (some ⟨g, 0, none⟩) xs := by
  intro _
  have hgl : g < w.heap.size := by
    rcases Nat.lt_or_ge g w.heap.size with h' | h'
    · exact h'
    · rw [Array.getElem?_eq_none h'] at h; cases h
  refine ⟨g, 0, rfl, hgl, fun j hj => ?_⟩
  have e : cs[j]? = some (.int k (xs.getD j 0)) := by
    rw [← Array.getElem?_toList, hc, List.getElem?_map, List.getElem?_eq_getElem hj]
    simp [List.getD_eq_getElem?_getD, List.getElem?_eq_getElem hj]
  simp [World.cell?, h, e]

/-- The block g has N cells of element type t, the first of which are the integers l. -/
def Pre (w : World) (g : Nat) (t : TypeId) (N : Nat) (k : IntKind) (l : List Int) : Prop :=
  ∃ cs : Array Value, w.heap[g]? = some (.cells cs t (0, 0)) ∧ cs.size = N ∧ l.length ≤ N ∧ ∀ j, j < l.length → cs[j]? = some (.int k (l.getD j 0))
section
variable {w w' : World} {g N : Nat} {t : TypeId} {k : IntKind} {l : List Int}
theorem Pre.cell (h : Pre w g t N k l) {j : Nat} (hj : j < l.length) : w.cell? ⟨g, j, none⟩ = some (.int k (l.getD j 0)) := by
  obtain ⟨cs, h1, h2, h3, h4⟩ := h
  rw [cell_of_row w g j cs t (0, 0) h1]; exact h4 j hj
theorem Pre.some_ (h : Pre w g t N k l) {j : Nat} (hj : j < N) : ∃ v, w.cell? ⟨g, j, none⟩ = some v := by
  obtain ⟨cs, h1, h2, h3, h4⟩ := h
  rw [cell_of_row w g j cs t (0, 0) h1]; exact ⟨_, Array.getElem?_eq_getElem (by omega)⟩
theorem Pre.frozen (h : Pre w g t N k l) (j : Nat) : w.frozen? ⟨g, j, none⟩ = false := by
  obtain ⟨cs, h1, _⟩ := h
  simp [World.frozen?, h1]
theorem Pre.blk (h : Pre w g t N k l) : g < w.heap.size := by
  obtain ⟨cs, h1, _⟩ := h
  exact (Array.getElem?_eq_some_iff.1 h1).1
theorem Pre.snoc (h : Pre w g t N k l) (hl : l.length < N) (v : Int) : Pre (w.setCell ⟨g, l.length, none⟩ (.int k v)) g t N k (l ++ [v]) := by
  obtain ⟨cs, h1, h2, h3, h4⟩ := h
  refine ⟨cs.setIfInBounds l.length (.int k v), by simp [World.setCell, Array.getElem?_modify, h1], by simpa using h2, by simp; omega, fun j hj => ?_⟩
  simp at hj
  by_cases e : j = l.length
  · subst e; simp [show l.length < cs.size by omega, List.getD_eq_getElem?_getD]
  · rw [Array.getElem?_setIfInBounds_ne (by omega), h4 j (by omega)]
    simp [List.getD_eq_getElem?_getD, List.getElem?_append_left (show j < l.length by omega)]
theorem Pre.setAt (h : Pre w g t N k l) {i : Nat} (hi : i < l.length) (v : Int) : Pre (w.setCell ⟨g, i, none⟩ (.int k v)) g t N k (l.set i v) := by
  obtain ⟨cs, h1, h2, h3, h4⟩ := h
  refine ⟨cs.setIfInBounds i (.int k v), by simp [World.setCell, Array.getElem?_modify, h1], by simpa using h2, by simpa using h3, fun j hj => ?_⟩
  simp at hj
  by_cases e : j = i
  · subst e; simp [show j < cs.size by omega, List.getD_eq_getElem?_getD, hj]
  · rw [Array.getElem?_setIfInBounds_ne (by omega), h4 j (by omega)]
    simp [List.getD_eq_getElem?_getD, List.getElem?_set_ne (show i ≠ j by omega)]
theorem Pre.same (h : Pre w g t N k l) (hw : w'.heap[g]? = w.heap[g]?) : Pre w' g t N k l := by
  obtain ⟨cs, h1, h2⟩ := h
  exact ⟨cs, hw.trans h1, h2⟩
theorem Pre.drew (h : Pre w g t N k l) : Pre w.drew g t N k l := h.same rfl
theorem Pre.drewN (h : Pre w g t N k l) (n : Nat) : Pre (w.drewN n) g t N k l := h.same rfl
theorem Pre.below (h : Pre w g t N k l) {B : Nat} (hb : Below B w w') (hg : g < B) : Pre w' g t N k l := h.same (hb.block g hg)
end

/-- The block g is a row of N cells of type t, none frozen; its cells are f. -/
def Cel (w : World) (g : Nat) (t : TypeId) (N : Nat) (f : Nat → Value) : Prop :=
  ∃ cs : Array Value, w.heap[g]? = some (.cells cs t (0, 0)) ∧ cs.size = N ∧ ∀ i, i < N → cs[i]? = some (f i)
section
variable {w w' : World} {g N : Nat} {t : TypeId} {f f' : Nat → Value}
theorem Cel.cell (h : Cel w g t N f) (i : Nat) (hi : i < N) : w.cell? ⟨g, i, none⟩ = some (f i) := by
  obtain ⟨cs, h1, h2, h3⟩ := h
  rw [cell_of_row w g i cs t (0, 0) h1]; exact h3 i hi
theorem Cel.frozen (h : Cel w g t N f) (i : Nat) : w.frozen? ⟨g, i, none⟩ = false := by
  obtain ⟨cs, h1, _⟩ := h
  simp [World.frozen?, h1]
theorem Cel.blk (h : Cel w g t N f) : g < w.heap.size := by
  obtain ⟨cs, h1, _⟩ := h
  exact (Array.getElem?_eq_some_iff.1 h1).1
theorem Cel.congr (h : Cel w g t N f) (hf : ∀ i, i < N → f i = f' i) : Cel w g t N f' := by
  obtain ⟨cs, h1, h2, h3⟩ := h
  exact ⟨cs, h1, h2, fun i hi => by rw [← hf i hi]; exact h3 i hi⟩
theorem Cel.set (h : Cel w g t N f) (i : Nat) (v : Value) : Cel (w.setCell ⟨g, i, none⟩ v) g t N (fun j => if j = i then v else f j) := by
  obtain ⟨cs, h1, h2, h3⟩ := h
  refine ⟨cs.setIfInBounds i v, by simp [World.setCell, Array.getElem?_modify, h1], by simpa using h2, fun j hj => ?_⟩
  by_cases e : j = i
  · subst e; simp [show j < cs.size by omega]
  · rw [Array.getElem?_setIfInBounds_ne (by omega), h3 j hj]; simp [e]
theorem Cel.same (h : Cel w g t N f) (hw : w'.heap[g]? = w.heap[g]?) : Cel w' g t N f := by
  obtain ⟨cs, h1, h2⟩ := h
  exact ⟨cs, hw.trans h1, h2⟩
theorem Cel.drew (h : Cel w g t N f) : Cel w.drew g t N f := h.same rfl
theorem Cel.drewN (h : Cel w g t N f) (n : Nat) : Cel (w.drewN n) g t N f := h.same rfl
theorem Cel.below (h : Cel w g t N f) {B : Nat} (hb : Below B w w') (hg : g < B) : Cel w' g t N f := h.same (hb.block g hg)
theorem Cel.alloc (h : Cel w g t N f) (o : Obj) : Cel (w.alloc o) g t N f := h.same (heap_alloc_old w o h.blk)
theorem Cel.setFar (h : Cel w g t N f) {a : Addr} (ha : g ≠ a.block) (v : Value) : Cel (w.setCell a v) g t N f := h.same (Below.heap_setCell _ _ _ _ ha)
theorem Cel.grown (h : Cel w g t N f) {row : Option Nat} (hg : w.grownBy w' row) (hr : row ≠ some g) : Cel w' g t N f := h.same (hg.block g h.blk (Ne.symm hr))
theorem Cel.new (w : World) (t : TypeId) (cs : Array Value) (f : Nat → Value) (h : ∀ i, i < cs.size → cs[i]? = some (f i)) : Cel (w.alloc (.cells cs t)) w.heap.size t cs.size f := ⟨cs, heap_alloc_new w _, rfl, h⟩
end
theorem Ints.drew {k : IntKind} {w : World} {A : Option Addr} {xs : List Int} (h : Ints k w A xs) : Ints k w.drew A xs := h
theorem Ints.heap {k : IntKind} {w w' : World} {A : Option Addr} {xs : List Int} (h : Ints k w A xs) (hw : w'.heap = w.heap) : Ints k w' A xs := by
  intro hl
  obtain ⟨b, o, hA, hlt, hc⟩ := h hl
  exact ⟨b, o, hA, by rw [hw]; exact hlt, fun j hj => (World.cell?_of_block (by rw [hw])).trans (hc j hj)⟩

theorem take_snoc_getD (xs : List Int) (k : Nat) (h : k < xs.length) : xs.take (k + 1) = xs.take k ++ [xs.getD k 0] := by
  rw [List.take_succ_eq_append_getElem h]; simp [List.getD_eq_getElem?_getD, List.getElem?_eq_getElem h]
end Go.Proofs.Ytmoaabjiokjjlaa
