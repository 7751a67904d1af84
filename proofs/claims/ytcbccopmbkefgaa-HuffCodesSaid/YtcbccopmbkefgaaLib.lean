/- Words for memory that all texts of this seat use: a slice that reads as integers; how it is carried from world to world. No program's function is named here. -/
import Derived.Test.YtcbccopmbkefgaaProg
import Derived.WalkKit
import Derived.WalkSpells
import Derived.Outline
import Derived.Lib.Hide
import Derived.Deep.QuietTactic
import Derived.BigQuiet
namespace Go.Proofs.Ytcbccopmbkefgaa
open Go.RowKit

/-- The slice at address A reads as the integers xs of kind k. -/
def Ints (k : IntKind) (w : World) (A : Option Addr) (xs : List Int) : Prop :=
  0 < xs.length → ∃ b o, A = some ⟨b, o, none⟩ ∧ b < w.heap.size ∧ ∀ j, j < xs.length → w.cell? ⟨b, o + j, none⟩ = some (.int k (xs.getD j 0))

theorem Ints.below {k : IntKind} {w w' : World} {A : Option Addr} {xs : List Int} (h : Ints k w A xs) (hb : Below w.heap.size w w') : Ints k w' A xs := by
  intro hl
  obtain ⟨b, o, hA, hlt, hc⟩ := h hl
  exact ⟨b, o, hA, Nat.lt_of_lt_of_le hlt hb.size, fun j hj => (hb.cell (p := ⟨b, o + j, none⟩) hlt).trans (hc j hj)⟩
theorem Ints.nil {k : IntKind} {w : World} {A : Option Addr} : Ints k w A [] := fun h => absurd h (by simp)
/-- What a row of the call's own holds reads as the integers. -/
theorem Ints.of_own {k : IntKind} {w : World} {base : Nat} {e : TypeId} {A : Option Addr} {n c : Nat} {xs : List Int} (h : w.ownsRow base e 1 (.slice A n c) n (xs.map (Value.int k))) : Ints k w A xs := by
  intro hl
  have h1 := h.1
  simp at h1
  rcases h.2 with ⟨hv, rfl⟩ | ⟨g, cap, cur, hv, hg, hh, hn, hm, hs, ht⟩
  · omega
  · injection hv with hA hn' hc
    subst hA
    have hgl : g < w.heap.size := by
      rcases Nat.lt_or_ge g w.heap.size with h' | h'
      · exact h'
      · rw [Array.getElem?_eq_none h'] at hh; cases hh
    refine ⟨g, 0, rfl, hgl, fun j hj => ?_⟩
    have := h.cells (g := g) rfl j (.int k (xs.getD j 0)) (by simp [List.getD_eq_getElem?_getD, List.getElem?_eq_getElem hj])
    simpa [Addr.add] using (by simpa [Addr.add] using this : w.cell? (if j = 0 then ⟨g, 0, none⟩ else ⟨g, j, none⟩) = _) |> fun hx => by
      by_cases hj0 : j = 0
      · subst hj0; simpa using hx
      · simpa [hj0] using hx

/-- The block g, one of the call's own from B on, is a row whose first n cells are the integers l (of kind k, element type e). -/
def RowI (e : TypeId) (k : IntKind) (B : Nat) (w : World) (g n c : Nat) (l : List Int) : Prop := w.ownsRow B e 1 (.slice (some ⟨g, 0, none⟩) n c) n (l.map (Value.int k))
section
variable {e : TypeId} {k : IntKind} {B : Nat} {w w' : World} {g n c : Nat} {l : List Int}
theorem RowI.len (h : RowI e k B w g n c l) : l.length = n := by have := h.1; simpa using this
theorem RowI.base (h : RowI e k B w g n c l) : B ≤ g ∧ g < w.heap.size := World.ownsRow.lt h g rfl
theorem RowI.cell (h : RowI e k B w g n c l) {j : Nat} (hj : j < n) : w.cell? ⟨g, j, none⟩ = some (.int k (l.getD j 0)) := by
  have hl := h.len
  have := World.ownsRow.cellAt h j (by omega)
  rw [List.getElem?_map, List.getElem?_eq_getElem (by omega)] at this
  simpa [List.getD_eq_getElem?_getD, List.getElem?_eq_getElem (show j < l.length by omega)] using this
theorem RowI.someCell (h : RowI e k B w g n c l) {j : Nat} (hj : j < n) : ∃ v, w.cell? ⟨g, j, none⟩ = some v := ⟨_, h.cell hj⟩
theorem RowI.frozen (h : RowI e k B w g n c l) (j : Nat) : w.frozen? ⟨g, j, none⟩ = false := World.ownsRow.frozenAt h j
theorem RowI.set (h : RowI e k B w g n c l) (j : Nat) (u : Int) : RowI e k B (w.setCell ⟨g, j, none⟩ (.int k u)) g n c (l.set j u) := by
  have := (World.ownsRow.stored h j (.int k u)).1
  unfold RowI
  rwa [List.map_set]
theorem RowI.ints (h : RowI e k B w g n c l) : Ints k w (some ⟨g, 0, none⟩) l := Ints.of_own h
end

theorem Below.drewN {B : Nat} {a w : World} (h : Below B a w) (n : Nat) : Below B a (w.drewN n) := ⟨h.os, h.tape, h.output, h.size, h.block⟩
theorem heap_at (w : World) (o : Obj) (r : Nat) (h : r = w.heap.size) : (w.alloc o).heap[r]? = some o := by subst h; exact heap_alloc_new w o
theorem heap_before (w : World) (o : Obj) (r : Nat) (x : Option Obj) (h : r < w.heap.size) (hx : w.heap[r]? = x) : (w.alloc o).heap[r]? = x := (heap_alloc_old w o h).trans hx
theorem Ints.of_new {k : IntKind} {w : World} {g : Nat} {xs : List Int} {t : TypeId} {fz : Nat × Nat} {cs : Array Value} (h : w.heap[g]? = some (.cells cs t fz)) (hc : cs.toList = xs.map (Value.int k)) : Ints k w (some ⟨g, 0, none⟩) xs := by
  intro _
  have hgl : g < w.heap.size := by
    rcases Nat.lt_or_ge g w.heap.size with h' | h'
    · exact h'
    · rw [Array.getElem?_eq_none h'] at h; cases h
  refine ⟨g, 0, rfl, hgl, fun j hj => ?_⟩
  have e : cs[j]? = some (.int k (xs.getD j 0)) := by
    rw [← Array.getElem?_toList, hc, List.getElem?_map, List.getElem?_eq_getElem hj]
    simp [List.getD_eq_getElem?_getD, List.getElem?_eq_getElem hj]
  simp [World.cell?, h, e]

theorem take_snoc_getD (xs : List Int) (k : Nat) (h : k < xs.length) : xs.take (k + 1) = xs.take k ++ [xs.getD k 0] := by
  rw [List.take_succ_eq_append_getElem h]; simp [List.getD_eq_getElem?_getD, List.getElem?_eq_getElem h]
end Go.Proofs.Ytcbccopmbkefgaa
