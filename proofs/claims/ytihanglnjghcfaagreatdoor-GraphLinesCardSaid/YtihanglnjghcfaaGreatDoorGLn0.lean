/- Words for memory that all texts of this seat use: a slice that reads as integers; how it is carried from world to world. No program's function is named here. -/
import Derived.Test.YtihanglnjghcfaaGreatDoorProg
import Derived.WalkKit
import Derived.WalkSpells
import Derived.Outline
import Derived.Lib.Hide
import Derived.Deep.QuietTactic
import Derived.BigQuiet
import Derived.Deep.AppendLies
import Derived.Deep.RegionLaw
import Derived.Deep.DeepCutAuto
import Derived.StillTailTactics
import Derived.Deep.RegionHeld3
import Derived.Laws.EntriesVeiled
import Derived.Laws.BytesArg
import Derived.Laws.IdiomStrings
namespace Go.Proofs.YtihanglnjghcfaaGreatDoor
open Go.RowKit

/-- The slice at address A reads as the integers xs of kind k. -/
def Ints (k : IntKind) (w : World) (A : Option Addr) (xs : List Int) : Prop :=
 0 < xs.length → ∃ b o, A = some ⟨b, o, none⟩ ∧ b < w.heap.size ∧ ∀ j, j < xs.length → w.cell? ⟨b, o + j, none⟩ = some (.int k (xs.getD j 0))

theorem Ints.below {k : IntKind} {w w' : World} {A : Option Addr} {xs : List Int} (h : Ints k w A xs) (hb : Below w.heap.size w w') : Ints k w' A xs := by
 intro hl
 obtain ⟨b, o, hA, hlt, hc⟩ := h hl
 exact ⟨b, o, hA, Nat.lt_of_lt_of_le hlt hb.size, fun j hj => (hb.cell (p := ⟨b, o + j, none⟩) hlt).trans (hc j hj)⟩
theorem Ints.nil {k : IntKind} {w : World} {A : Option Addr} : Ints k w A [] := fun h => absurd h (by simp)
/-- What a row of the call's own holds reads as the integers. -/
theorem Ints.of_own {k : IntKind} {w : World} {base : Nat} {e : TypeId} {A : Option Addr} {n c : Nat} {xs : List Int} (h : w.ownsRow base e 1 (.slice A n c) n (xs.map (Value.int k))) : Ints k w A xs := by
 intro hl
 have h1 := h.1
 simp at h1
 rcases h.2 with ⟨hv, rfl⟩ | ⟨g, cap, cur, hv, hg, hh, hn, hm, hs, ht⟩
 · omega
 · injection hv with hA hn' hc
   subst hA
   have hgl : g < w.heap.size := by
    rcases Nat.lt_or_ge g w.heap.size with h' | h'
    · exact h'
    · rw [Array.getElem?_eq_none h'] at hh; cases hh
   refine ⟨g, 0, rfl, hgl, fun j hj => ?_⟩
   have := h.cells (g := g) rfl j (.int k (xs.getD j 0)) (by simp [List.getD_eq_getElem?_getD, List.getElem?_eq_getElem hj])
   simpa [Addr.add] using (by simpa [Addr.add] using this : w.cell? (if j = 0 then ⟨g, 0, none⟩ else ⟨g, j, none⟩) = _) |> fun hx => by
    by_cases hj0 : j = 0
    · subst hj0; simpa using hx
    · simpa [hj0] using hx

/-- The block g, one of the call's own from B on, is a row whose first n cells are the integers l (of kind k, element type e). -/
def RowI (e : TypeId) (k : IntKind) (B : Nat) (w : World) (g n c : Nat) (l : List Int) : Prop := w.ownsRow B e 1 (.slice (some ⟨g, 0, none⟩) n c) n (l.map (Value.int k))
section
variable {e : TypeId} {k : IntKind} {B : Nat} {w w' : World} {g n c : Nat} {l : List Int}
theorem RowI.len (h : RowI e k B w g n c l) : l.length = n := by have := h.1; simpa using this
theorem RowI.base (h : RowI e k B w g n c l) : B ≤ g ∧ g < w.heap.size := World.ownsRow.lt h g rfl
theorem RowI.cell (h : RowI e k B w g n c l) {j : Nat} (hj : j < n) : w.cell? ⟨g, j, none⟩ = some (.int k (l.getD j 0)) := by
 have hl := h.len
 have := World.ownsRow.cellAt h j (by omega)
 rw [List.getElem?_map, List.getElem?_eq_getElem (by omega)] at this
 simpa [List.getD_eq_getElem?_getD, List.getElem?_eq_getElem (show j < l.length by omega)] using this
theorem RowI.frozen (h : RowI e k B w g n c l) (j : Nat) : w.frozen? ⟨g, j, none⟩ = false := World.ownsRow.frozenAt h j
theorem RowI.set (h : RowI e k B w g n c l) (j : Nat) (u : Int) : RowI e k B (w.setCell ⟨g, j, none⟩ (.int k u)) g n c (l.set j u) := by
 have := (World.ownsRow.stored h j (.int k u)).1
 unfold RowI
 rwa [List.map_set]
theorem RowI.ints (h : RowI e k B w g n c l) : Ints k w (some ⟨g, 0, none⟩) l := Ints.of_own h
end

theorem Below.drewN {B : Nat} {a w : World} (h : Below B a w) (n : Nat) : Below B a (w.drewN n) := ⟨h.os, h.tape, h.output, h.size, h.block⟩
/-- The one world is the other one behind some draws. -/
def Drawn (w w' : World) : Prop := ∃ n : Nat, w' = w.drewN n
theorem Drawn.refl (w : World) : Drawn w w := ⟨0, rfl⟩
theorem Drawn.more {w w' : World} (h : Drawn w w') (n : Nat) : Drawn w (w'.drewN n) := by
 obtain ⟨m, rfl⟩ := h
 exact ⟨m + n, World.drewN_drewN _ _ _⟩
theorem Drawn.cell {w w' : World} (h : Drawn w w') (p : Addr) : w'.cell? p = w.cell? p := by obtain ⟨m, rfl⟩ := h; rfl
theorem Drawn.frozen {w w' : World} (h : Drawn w w') (p : Addr) : w'.frozen? p = w.frozen? p := by obtain ⟨m, rfl⟩ := h; rfl
theorem Drawn.heap {w w' : World} (h : Drawn w w') : w'.heap = w.heap := by obtain ⟨m, rfl⟩ := h; rfl
theorem Drawn.below {B : Nat} {a w w' : World} (h : Drawn w w') (hb : Below B a w) : Below B a w' := by obtain ⟨m, rfl⟩ := h; exact Below.drewN hb m
theorem heap_at (w : World) (o : Obj) (r : Nat) (h : r = w.heap.size) : (w.alloc o).heap[r]? = some o := by subst h; exact heap_alloc_new w o
theorem Ints.of_new {k : IntKind} {w : World} {g : Nat} {xs : List Int} {t : TypeId} {fz : Nat × Nat} {cs : Array Value} (h : w.heap[g]? = some (.cells cs t fz)) (hc : cs.toList = xs.map (Value.int k)) : Ints k w (some ⟨g, 0, none⟩) xs := by
 intro _
 have hgl : g < w.heap.size := by
  rcases Nat.lt_or_ge g w.heap.size with h' | h'
  · exact h'
  · rw [Array.getElem?_eq_none h'] at h; cases h
 refine ⟨g, 0, rfl, hgl, fun j hj => ?_⟩
 have e : cs[j]? = some (.int k (xs.getD j 0)) := by
  rw [← Array.getElem?_toList, hc, List.getElem?_map, List.getElem?_eq_getElem hj]
  simp [List.getD_eq_getElem?_getD, List.getElem?_eq_getElem hj]
 simp [World.cell?, h, e]

/-- The block g has N cells of element type t, the first of which are the integers l. -/
def Pre (w : World) (g : Nat) (t : TypeId) (N : Nat) (k : IntKind) (l : List Int) : Prop :=
 ∃ cs : Array Value, w.heap[g]? = some (.cells cs t (0, 0)) ∧ cs.size = N ∧ l.length ≤ N ∧ ∀ j, j < l.length → cs[j]? = some (.int k (l.getD j 0))
section
variable {w w' : World} {g N : Nat} {t : TypeId} {k : IntKind} {l : List Int}
theorem Pre.cell (h : Pre w g t N k l) {j : Nat} (hj : j < l.length) : w.cell? ⟨g, j, none⟩ = some (.int k (l.getD j 0)) := by
 obtain ⟨cs, h1, h2, h3, h4⟩ := h
 rw [cell_of_row w g j cs t (0, 0) h1]; exact h4 j hj
theorem Pre.some_ (h : Pre w g t N k l) {j : Nat} (hj : j < N) : ∃ v, w.cell? ⟨g, j, none⟩ = some v := by
 obtain ⟨cs, h1, h2, h3, h4⟩ := h
 rw [cell_of_row w g j cs t (0, 0) h1]; exact ⟨_, Array.getElem?_eq_getElem (by omega)⟩
theorem Pre.frozen (h : Pre w g t N k l) (j : Nat) : w.frozen? ⟨g, j, none⟩ = false := by
 obtain ⟨cs, h1, _⟩ := h
 simp [World.frozen?, h1]
theorem Pre.blk (h : Pre w g t N k l) : g < w.heap.size := by
 obtain ⟨cs, h1, _⟩ := h
 exact (Array.getElem?_eq_some_iff.1 h1).1
theorem Pre.snoc (h : Pre w g t N k l) (hl : l.length < N) (v : Int) : Pre (w.setCell ⟨g, l.length, none⟩ (.int k v)) g t N k (l ++ [v]) := by
 obtain ⟨cs, h1, h2, h3, h4⟩ := h
 refine ⟨cs.setIfInBounds l.length (.int k v), by simp [World.setCell, Array.getElem?_modify, h1], by simpa using h2, by simp; omega, fun j hj => ?_⟩
 simp at hj
 by_cases e : j = l.length
 · subst e; simp [show l.length < cs.size by omega, List.getD_eq_getElem?_getD]
 · rw [Array.getElem?_setIfInBounds_ne (by omega), h4 j (by omega)]
   simp [List.getD_eq_getElem?_getD, List.getElem?_append_left (show j < l.length by omega)]
theorem Pre.setAt (h : Pre w g t N k l) {i : Nat} (hi : i < l.length) (v : Int) : Pre (w.setCell ⟨g, i, none⟩ (.int k v)) g t N k (l.set i v) := by
 obtain ⟨cs, h1, h2, h3, h4⟩ := h
 refine ⟨cs.setIfInBounds i (.int k v), by simp [World.setCell, Array.getElem?_modify, h1], by simpa using h2, by simpa using h3, fun j hj => ?_⟩
 simp at hj
 by_cases e : j = i
 · subst e; simp [show j < cs.size by omega, List.getD_eq_getElem?_getD, hj]
 · rw [Array.getElem?_setIfInBounds_ne (by omega), h4 j (by omega)]
   simp [List.getD_eq_getElem?_getD, List.getElem?_set_ne (show i ≠ j by omega)]
theorem Pre.same (h : Pre w g t N k l) (hw : w'.heap[g]? = w.heap[g]?) : Pre w' g t N k l := by
 obtain ⟨cs, h1, h2⟩ := h
 exact ⟨cs, hw.trans h1, h2⟩
theorem Pre.drew (h : Pre w g t N k l) : Pre w.drew g t N k l := h.same rfl
theorem Pre.drewN (h : Pre w g t N k l) (n : Nat) : Pre (w.drewN n) g t N k l := h.same rfl
theorem Pre.below (h : Pre w g t N k l) {B : Nat} (hb : Below B w w') (hg : g < B) : Pre w' g t N k l := h.same (hb.block g hg)
end

/-- The block g is a row of N cells of type t, none frozen; its cells are f. -/
def Cel (w : World) (g : Nat) (t : TypeId) (N : Nat) (f : Nat → Value) : Prop :=
 ∃ cs : Array Value, w.heap[g]? = some (.cells cs t (0, 0)) ∧ cs.size = N ∧ ∀ i, i < N → cs[i]? = some (f i)
section
variable {w w' : World} {g N : Nat} {t : TypeId} {f f' : Nat → Value}
theorem Cel.cell (h : Cel w g t N f) (i : Nat) (hi : i < N) : w.cell? ⟨g, i, none⟩ = some (f i) := by
 obtain ⟨cs, h1, h2, h3⟩ := h
 rw [cell_of_row w g i cs t (0, 0) h1]; exact h3 i hi
theorem Cel.frozen (h : Cel w g t N f) (i : Nat) : w.frozen? ⟨g, i, none⟩ = false := by
 obtain ⟨cs, h1, _⟩ := h
 simp [World.frozen?, h1]
theorem Cel.blk (h : Cel w g t N f) : g < w.heap.size := by
 obtain ⟨cs, h1, _⟩ := h
 exact (Array.getElem?_eq_some_iff.1 h1).1
theorem Cel.congr (h : Cel w g t N f) (hf : ∀ i, i < N → f i = f' i) : Cel w g t N f' := by
 obtain ⟨cs, h1, h2, h3⟩ := h
 exact ⟨cs, h1, h2, fun i hi => by rw [← hf i hi]; exact h3 i hi⟩
theorem Cel.set (h : Cel w g t N f) (i : Nat) (v : Value) : Cel (w.setCell ⟨g, i, none⟩ v) g t N (fun j => if j = i then v else f j) := by
 obtain ⟨cs, h1, h2, h3⟩ := h
 refine ⟨cs.setIfInBounds i v, by simp [World.setCell, Array.getElem?_modify, h1], by simpa using h2, fun j hj => ?_⟩
 by_cases e : j = i
 · subst e; simp [show j < cs.size by omega]
 · rw [Array.getElem?_setIfInBounds_ne (by omega), h3 j hj]; simp [e]
theorem Cel.same (h : Cel w g t N f) (hw : w'.heap[g]? = w.heap[g]?) : Cel w' g t N f := by
 obtain ⟨cs, h1, h2⟩ := h
 exact ⟨cs, hw.trans h1, h2⟩
theorem Cel.drew (h : Cel w g t N f) : Cel w.drew g t N f := h.same rfl
theorem Cel.drewN (h : Cel w g t N f) (n : Nat) : Cel (w.drewN n) g t N f := h.same rfl
theorem Cel.below (h : Cel w g t N f) {B : Nat} (hb : Below B w w') (hg : g < B) : Cel w' g t N f := h.same (hb.block g hg)
theorem Cel.alloc (h : Cel w g t N f) (o : Obj) : Cel (w.alloc o) g t N f := h.same (heap_alloc_old w o h.blk)
theorem Cel.setFar (h : Cel w g t N f) {a : Addr} (ha : g ≠ a.block) (v : Value) : Cel (w.setCell a v) g t N f := h.same (Below.heap_setCell _ _ _ _ ha)
theorem Cel.grown (h : Cel w g t N f) {row : Option Nat} (hg : w.grownBy w' row) (hr : row ≠ some g) : Cel w' g t N f := h.same (hg.block g h.blk (Ne.symm hr))
theorem Cel.new (w : World) (t : TypeId) (cs : Array Value) (f : Nat → Value) (h : ∀ i, i < cs.size → cs[i]? = some (f i)) : Cel (w.alloc (.cells cs t)) w.heap.size t cs.size f := ⟨cs, heap_alloc_new w _, rfl, h⟩
end
theorem Ints.drew {k : IntKind} {w : World} {A : Option Addr} {xs : List Int} (h : Ints k w A xs) : Ints k w.drew A xs := h
theorem Ints.heap {k : IntKind} {w w' : World} {A : Option Addr} {xs : List Int} (h : Ints k w A xs) (hw : w'.heap = w.heap) : Ints k w' A xs := by
 intro hl
 obtain ⟨b, o, hA, hlt, hc⟩ := h hl
 exact ⟨b, o, hA, by rw [hw]; exact hlt, fun j hj => (World.cell?_of_block (by rw [hw])).trans (hc j hj)⟩

theorem take_snoc_getD (xs : List Int) (k : Nat) (h : k < xs.length) : xs.take (k + 1) = xs.take k ++ [xs.getD k 0] := by
 rw [List.take_succ_eq_append_getElem h]; simp [List.getD_eq_getElem?_getD, List.getElem?_eq_getElem h]
end Go.Proofs.YtihanglnjghcfaaGreatDoor
namespace Go.Proofs.YtihanglnjghcfaaGreatDoor
open Go.RowKit

/-- The slice value v, of n elements of type e ('size' cells each), owns the cells xs: it is nil, or it lies somewhere in a block from base on that is not frozen. -/
def OwnS (w : World) (base : Nat) (e : TypeId) (size : Nat) (v : Value) (n : Nat) (xs : List Value) : Prop :=
 xs.length = n * size ∧
 ((v = .slice none 0 0 ∧ n = 0) ∨
  ∃ g off cap cur, v = .slice (some ⟨g, off, none⟩) n cap ∧ base ≤ g ∧ (∃ fr, w.heap[g]? = some (.cells cur e fr) ∧ (fr.2 ≤ fr.1 ∨ cur.size ≤ fr.1)) ∧ n ≤ cap ∧ cap ≤ maxLen ∧ off + cap * size ≤ cur.size ∧ (cur.toList.drop off).take (n * size) = xs)

/-- What is appended: a value that reads as m elements, the cells news. -/
structure Src (P : Program) (w : World) (size : Nat) (x : Value) (m : Nat) (news : List Value) : Prop where
 len : news.length = m * size
 one : ∀ u ∈ news, u.oneCell' = true
 run : ∀ w' : World, w'.heap = w.heap → (Builtin.lenOf x).run P w' = .ok m w' ∧ (Builtin.firstCells size m x).run P w' = .ok news.toArray w'

theorem run_storeCells_open (P : Program) (g o : Nat) (t : TypeId) (fz : Nat × Nat) : ∀ (vs : List Value) (i : Nat) (cur : Array Value) (w : World), w.heap[g]? = some (.cells cur t fz) → (fz.2 ≤ fz.1 ∨ cur.size ≤ fz.1) → o + i + vs.length ≤ cur.size → (∀ v ∈ vs, v.oneCell' = true) →
 (storeCells ⟨g, o, none⟩ vs i).run P w = .ok () (w.setRow g (cur.toList.take (o + i) ++ vs ++ cur.toList.drop (o + i + vs.length)).toArray)
 | [], i, cur, w, hg, _, _, _ => by
  simp only [storeCells, List.append_nil, List.length_nil, Nat.add_zero, List.take_append_drop, Array.toArray_toList]
  rw [setRow_self w g cur t fz hg]
  rfl
 | v :: rest, i, cur, w, hg, hfz, hl, h1 => by
  have hi : o + i < cur.size := by simp at hl; omega
  have hadd : (⟨g, o, none⟩ : Addr).add i = ⟨g, o + i, none⟩ := by unfold Addr.add; split <;> simp_all
  have hcell : w.cell? ⟨g, o + i, none⟩ = some cur[o + i] := by simp [World.cell?, hg, hi]
  have hfro : w.frozen? ⟨g, o + i, none⟩ = false := by
   obtain ⟨lo, hi'⟩ := fz
   simp only at hfz
   simp only [World.frozen?, hg, Bool.and_eq_false_iff, decide_eq_false_iff_not]
   omega
  have hst : (store ((⟨g, o, none⟩ : Addr).add i) v).run P w = .ok () (w.setRow g (cur.setIfInBounds (o + i) v)) := by
   rw [hadd, run_store P w _ v _ (h1 v (by simp)), hcell]
   simp [hfro, setCell_eq_setRow w g (o + i) cur t fz v hg]
  have ih := run_storeCells_open P g o t fz rest (i + 1) (cur.setIfInBounds (o + i) v) (w.setRow g (cur.setIfInBounds (o + i) v)) (setRow_heap w g cur _ t _ hg) (by simpa using hfz) (by simp at hl ⊢; omega) (fun x hx => h1 x (by simp [hx]))
  simp only [storeCells, Sem.run_bind, hst, Result.andThen_ok, ih, setRow_setRow]
  congr 3
  have e := list_seg_step cur.toList (o + i) v rest (by simp at hl ⊢; omega)
  simpa [Array.toList_setIfInBounds, Nat.add_assoc] using e

section
variable {P : Program} {w w' : World} {base size n m : Nat} {e : TypeId} {v x : Value} {xs news : List Value}

theorem OwnS.of_row (h : w.ownsRow base e size v n xs) : OwnS w base e size v n xs := by
 refine ⟨h.1, ?_⟩
 rcases h.2 with h' | ⟨g, cap, cur, h1, h2, h3, h4, h5, h6, h7⟩
 · exact .inl h'
 · exact .inr ⟨g, 0, cap, cur, h1, h2, ⟨_, h3, .inl (Nat.le_refl _)⟩, h4, h5, by omega, by simpa using h7⟩
theorem OwnS.nil (w : World) (base : Nat) (e : TypeId) (size : Nat) : OwnS w base e size (.slice none 0 0) 0 [] := ⟨by simp, .inl ⟨rfl, rfl⟩⟩
theorem OwnS.shape (h : OwnS w base e size v n xs) : ∃ A c, v = .slice A n c := by
 rcases h.2 with ⟨rfl, rfl⟩ | ⟨g, off, cap, cur, rfl, _⟩
 · exact ⟨_, _, rfl⟩
 · exact ⟨_, _, rfl⟩
theorem OwnS.lt (h : OwnS w base e size v n xs) : ∀ k, v.ownBlock = some k → base ≤ k ∧ k < w.heap.size := by
 intro k hk
 rcases h.2 with ⟨rfl, _⟩ | ⟨g, off, cap, cur, rfl, hb, ⟨_, hg, _⟩, _⟩
 · simp [Value.ownBlock] at hk
 · simp [Value.ownBlock] at hk
   subst hk
   exact ⟨hb, (Array.getElem?_eq_some_iff.1 hg).1⟩
theorem OwnS.heap (h : OwnS w base e size v n xs) (hk : ∀ k, v.ownBlock = some k → w'.heap[k]? = w.heap[k]?) : OwnS w' base e size v n xs := by
 refine ⟨h.1, ?_⟩
 rcases h.2 with hn | ⟨g, off, cap, cur, rfl, hb, ⟨fr, hgg, hfr⟩, rest⟩
 · exact .inl hn
 · exact .inr ⟨g, off, cap, cur, rfl, hb, ⟨fr, by rw [hk g rfl]; exact hgg, hfr⟩, rest⟩
theorem OwnS.kept {row : Option Nat} (h : OwnS w base e size v n xs) (hg : w.grownBy w' row) (hne : v.ownBlock = none ∨ v.ownBlock ≠ row) : OwnS w' base e size v n xs :=
 h.heap fun k hk => hg.block k (h.lt k hk).2 (by rw [← hk]; rcases hne with h' | h'; rw [h'] at hk; cases hk; exact h')
theorem OwnS.alloc (h : OwnS w base e size v n xs) (o : Obj) : OwnS (w.alloc o) base e size v n xs :=
 h.heap fun k hk => heap_alloc_old w o (h.lt k hk).2
theorem OwnS.drew (h : OwnS w base e size v n xs) : OwnS w.drew base e size v n xs := h.heap fun _ _ => rfl
theorem OwnS.setFar (h : OwnS w base e size v n xs) {a : Addr} (ha : v.ownBlock ≠ some a.block) (u : Value) : OwnS (w.setCell a u) base e size v n xs :=
 h.heap fun k hk => Below.heap_setCell _ _ _ _ (by rintro rfl; exact ha hk)
theorem OwnS.setLow (h : OwnS w base e size v n xs) {a : Addr} (ha : a.block < base) (u : Value) : OwnS (w.setCell a u) base e size v n xs :=
 h.setFar (fun h' => by have := h.lt _ h'; omega) u
theorem OwnS.base_ {base' : Nat} (h : OwnS w base e size v n xs) (hb : base' ≤ base) : OwnS w base' e size v n xs := by
 refine ⟨h.1, ?_⟩
 rcases h.2 with hn | ⟨g, off, cap, cur, rfl, hb', rest⟩
 · exact .inl hn
 · exact .inr ⟨g, off, cap, cur, rfl, by omega, rest⟩
/-- Its cells. -/
theorem OwnS.cells (h : OwnS w base e size v n xs) (hx : 0 < xs.length) : ∃ g off c, v = .slice (some ⟨g, off, none⟩) n c ∧ base ≤ g ∧ g < w.heap.size ∧ ∀ j, j < xs.length → w.cell? ⟨g, off + j, none⟩ = xs[j]? := by
 have hlen := h.1
 rcases h.2 with ⟨_, rfl⟩ | ⟨g, off, cap, cur, rfl, hb, hgg, hn, hm, hs, ht⟩
 · rw [hlen] at hx; simp at hx
 · obtain ⟨fr, hgg, _⟩ := hgg
   refine ⟨g, off, cap, rfl, hb, (Array.getElem?_eq_some_iff.1 hgg).1, fun j hj => ?_⟩
   rw [cell_of_row w g _ cur e fr hgg, ← ht, List.getElem?_take, if_pos (by omega), List.getElem?_drop]
   simp
theorem Src.vals {A : Option Addr} {c : Nat} (hl : news.length = m * size) (h1 : ∀ u ∈ news, u.oneCell' = true)
 (hc : 0 < news.length → ∃ ad, A = some ad ∧ ∀ j u, news[j]? = some u → w.cell? (ad.add j) = some u) : Src P w size (.slice A m c) m news := by
 refine ⟨hl, h1, fun w' hw => ⟨by simp [Builtin.lenOf], ?_⟩⟩
 cases A with
 | none =>
  have : news = [] := by
   cases news with
   | nil => rfl
   | cons a r => obtain ⟨ad, h, _⟩ := hc (by simp); cases h
  subst this
  simp [Builtin.firstCells]
 | some ad =>
  refine run_firstCells_some (P := P) w' size m ad m c news hl (fun j u hj => ?_)
  obtain ⟨ad', h, hcell⟩ := hc (by have := (List.getElem?_eq_some_iff.1 hj).1; omega)
  injection h with h
  subst h
  rw [← hcell j u hj]
  exact World.cell?_of_block (by rw [hw])
theorem Src.ints {k : IntKind} {A : Option Addr} {c : Nat} {ys : List Int} (h : Ints k w A ys) : Src P w 1 (.slice A ys.length c) ys.length (ys.map (Value.int k)) := by
 refine Src.vals (by simp) (ints_oneCell k ys) (fun hl => ?_)
 obtain ⟨b, o, hA, _, hc⟩ := h (by simpa using hl)
 refine ⟨⟨b, o, none⟩, hA, fun j u hj => ?_⟩
 rw [List.getElem?_map] at hj
 obtain ⟨y, hy, rfl⟩ := Option.map_eq_some_iff.1 hj
 have hjl := (List.getElem?_eq_some_iff.1 hy).1
 rw [Addr.add_lit, hc j hjl]
 simp [List.getD_eq_getElem?_getD, hy]
theorem Src.one_new {u : Value} {t : TypeId} (h1 : u.oneCell' = true) : Src P (w.alloc (.cells #[u] t)) 1 (.slice (some ⟨w.heap.size, 0, none⟩) 1 1) 1 [u] :=
 Src.vals rfl (by simpa using h1) (fun _ => ⟨_, rfl, cell_one_new w u t⟩)
theorem Src.new {us : List Value} {cs : Array Value} {t : TypeId} (hu : cs.toList = us) (h1 : ∀ u ∈ us, u.oneCell' = true) : Src P (w.alloc (.cells cs t)) 1 (.slice (some ⟨w.heap.size, 0, none⟩) us.length us.length) us.length us :=
 Src.vals (by simp) h1 (fun _ => ⟨_, rfl, by subst hu; exact World.news_of_block (heap_alloc_new w _)⟩)
theorem Src.drew (h : Src P w size x m news) : Src P w.drew size x m news := ⟨h.1, h.2, fun w' hw => h.3 w' hw⟩
theorem Src.same (h : Src P w size x m news) (hw : w'.heap = w.heap) : Src P w' size x m news := ⟨h.1, h.2, fun w'' hw' => h.3 w'' (hw'.trans hw)⟩
/-- The law. -/
theorem run_append_S (t tx ty : TypeId) (i : TypeInfo) (z : Value) (bytes : Nat) (u : TypeDesc) (ht : P.underlying t = some (.slice e)) (htx : P.underlying tx = some u) (hu : ∀ k, u ≠ .int k) (hi : P.info? e = some i) (hz : i.zero = some z)
 (hsize : i.size = size) (hby : i.bytes = bytes) (hzs : z.cells.size = size) (hown : OwnS w base e size v n xs) (hsrc : Src P w size x m news)
 (h63 : n + m ≤ maxLen) (hbytes : (n + m) * bytes ≤ 140737488355328) (hbase : base ≤ w.heap.size) :
 ∃ v' w', (Builtin.append_ #[t, tx] ty #[v, x]).run P w = .ok v' w' ∧ OwnS w' base e size v' (n + m) (xs ++ news) ∧ w.grownBy w' v.ownBlock ∧ (v'.ownBlock = v.ownBlock ∨ v'.ownBlock = some w.heap.size) := by
 subst hsize
 subst hby
 have hsmall : n + m ≤ 9223372036854775807 := by simp only [maxLen] at h63; omega
 have hl := hsrc.len
 have hlen : (xs ++ news).length = (n + m) * i.size := by rw [List.length_append, hown.1, hl, Nat.add_mul]
 obtain ⟨hr1, hr2⟩ := hsrc.run w rfl
 obtain ⟨hd1, hd2⟩ := hsrc.run w.drew rfl
 -- the arm that grows, whatever v is
 have grow : ∀ (A : Option Addr) (cap : Nat), v = .slice A n cap → cap < n + m → (Builtin.firstCells i.size n v).run P w.drew = .ok xs.toArray w.drew →
  ∃ v' w', (Builtin.append_ #[t, tx] ty #[v, x]).run P w = .ok v' w' ∧ OwnS w' base e i.size v' (n + m) (xs ++ news) ∧ w.grownBy w' v.ownBlock ∧ (v'.ownBlock = v.ownBlock ∨ v'.ownBlock = some w.heap.size) := by
  intro A cap hv hg hf
  have hn : ¬ (n + m ≤ cap) := by omega
  have h63' : ¬ (9223372036854775807 < ((n : Int) + (m : Int))) := by omega
  have h48 := growslice_fits hg hbytes
  have h48' : ¬ (281474976710656 < Builtin.nextslicecap (n + m) cap * i.bytes) := by omega
  have hge := grownCap_ge w (n + m) cap e
  have hcm : grownCap w (n + m) cap e ≤ maxLen := grownCap_le_maxLen w (n + m) cap e h63
  have hrun : (Builtin.append_ #[t, tx] ty #[v, x]).run P w = .ok (.slice (some ⟨w.heap.size, 0, none⟩) (n + m) (grownCap w (n + m) cap e))
   (w.drew.alloc (.cells (xs.toArray ++ news.toArray ++ Builtin.zeroCells z.cells (grownCap w (n + m) cap e - (n + m))) e)) := by
   subst hv
   simp [Builtin.append_, run_underlying ht, run_underlying htx, sizeOf, typeInfo, zeroValue, hi, hz, hr1, hn, h63', h48', Question.forced, hf, hd2, newRow, grownCap]
   congr 2
   apply Array.ext'
   simp [List.append_assoc]
  refine ⟨_, _, hrun, OwnS.of_row ⟨hlen, .inr ⟨w.heap.size, _, _, rfl, hbase, heap_alloc_new w.drew _, hge, hcm, ?_, ?_⟩⟩, ⟨rfl, rfl, rfl, by simp, fun k hk _ => heap_alloc_old w.drew _ hk⟩, .inr rfl⟩
  · simp only [Array.size_append, List.size_toArray, size_zeroCells, hzs, hown.1, hl, ← Nat.add_mul]
    congr 1
    omega
  · simp only [Array.toList_append, List.append_assoc]
    rw [← List.append_assoc, ← hlen]
    exact List.take_left
 rcases hown.2 with ⟨hv, hn0⟩ | ⟨g, off, cap, cur, hv, hbg, hg, hnc, hcm, hcs, htake⟩
 · subst hn0
   have hx : xs = [] := List.eq_nil_of_length_eq_zero (by simpa using hown.1)
   subst hx
   by_cases hm : m = 0
   · subst hm
     have hn : news = [] := List.eq_nil_of_length_eq_zero (by simpa using hl)
     subst hn
     subst hv
     refine ⟨.slice none 0 0, w, ?_, OwnS.nil w base e i.size, ⟨rfl, rfl, rfl, Nat.le_refl _, fun _ _ _ => rfl⟩, .inl rfl⟩
     simp [Builtin.append_, run_underlying ht, run_underlying htx, sizeOf, typeInfo, hi, hr1, hr2]
   · exact grow none 0 hv (by omega) (by subst hv; simp [Builtin.firstCells])
 · obtain ⟨fr, hg, hfr⟩ := hg
   by_cases hroom : n + m ≤ cap
   · have hfit : off + n * i.size + news.length ≤ cur.size := by
      rw [hl, Nat.add_assoc, ← Nat.add_mul]
      exact Nat.le_trans (Nat.add_le_add_left (Nat.mul_le_mul_right _ hroom) _) hcs
     have hst := run_storeCells_open P g (off + n * i.size) e fr news 0 cur w hg hfr (by simpa using hfit) hsrc.one
     simp only [Nat.add_zero] at hst
     have hrun : (Builtin.append_ #[t, tx] ty #[v, x]).run P w = .ok (.slice (some ⟨g, off, none⟩) (n + m) cap)
      (w.setRow g (cur.toList.take (off + n * i.size) ++ news ++ cur.toList.drop (off + n * i.size + news.length)).toArray) := by
      subst hv
      simp [Builtin.append_, run_underlying ht, run_underlying htx, sizeOf, typeInfo, hi, hr1, hr2, hroom, Addr.add_lit, hst]
     subst hv
     refine ⟨_, _, hrun, ⟨hlen, .inr ⟨g, off, cap, _, rfl, hbg, ⟨fr, setRow_heap w g cur _ e _ hg, ?_⟩, hroom, hcm, ?_, ?_⟩⟩, ⟨rfl, rfl, rfl, by simp, fun k _ hk => setRow_other w g k _ (fun e => hk (by simp [Value.ownBlock, e]))⟩, .inl rfl⟩
     · simp only [List.size_toArray, List.length_append, List.length_take, List.length_drop, Array.length_toList]
       omega
     · simp only [List.size_toArray, List.length_append, List.length_take, List.length_drop, Array.length_toList]
       omega
     · have hxl := hown.1
       have h1 : ((cur.toList.take (off + n * i.size) ++ news ++ cur.toList.drop (off + n * i.size + news.length)).toArray.toList.drop off) = (xs ++ news) ++ cur.toList.drop (off + n * i.size + news.length) := by
        simp only [List.append_assoc]
        rw [List.drop_append_of_le_length (by simp; omega), ← htake, List.drop_take]
        congr 2
        omega
       rw [h1, ← hlen]
       exact List.take_left
   · refine grow (some ⟨g, off, none⟩) cap hv (by omega) ?_
     subst hv
     refine run_firstCells_some (P := P) w.drew i.size n ⟨g, off, none⟩ n cap xs hown.1 (fun j y hj => ?_)
     have hjl := (List.getElem?_eq_some_iff.1 hj).1
     obtain ⟨g', off', c', hv', _, _, hc⟩ := hown.cells (by omega)
     injection hv' with hA _ _
     injection hA with hA
     injection hA with h1 h2 _
     subst h1; subst h2
     rw [Addr.add_lit, World.cell?_drew, hc j hjl, hj]

theorem wp_append_S {o : Oper} {a : Act} {K : Act → World → Prop} {Q : Exit → Act → World → Prop} (s y : Operand) (t tx : TypeId)
 (ho : o.op = .call { callee := .builtin .append, args := #[s, y], argTypes := #[t, tx] })
 (i : TypeInfo) (z : Value) (bytes : Nat) (u : TypeDesc) (ht : P.underlying t = some (.slice e)) (htx : P.underlying tx = some u) (hu : ∀ k, u ≠ .int k) (hi : P.info? e = some i) (hz : i.zero = some z)
 (hsize : i.size = size) (hby : i.bytes = bytes) (hzs : z.cells.size = size) (hs : a.eval s = v) (hy : a.eval y = x) (hown : OwnS w base e size v n xs) (hsrc : Src P w size x m news)
 (h63 : n + m ≤ maxLen) (hbytes : (n + m) * bytes ≤ 140737488355328) (hbase : base ≤ w.heap.size)
 (h : ∀ A c w', OwnS w' base e size (.slice A (n + m) c) (n + m) (xs ++ news) → w.grownBy w' v.ownBlock → ((Value.slice A (n + m) c).ownBlock = v.ownBlock ∨ (Value.slice A (n + m) c).ownBlock = some w.heap.size) → K (a.put o.dst (.slice A (n + m) c)) w') : o.wp P a w K Q := by
 obtain ⟨v', w', hr, h2, h3, h4⟩ := run_append_S (P := P) (w := w) t tx o.type i z bytes u ht htx hu hi hz hsize hby hzs hown hsrc h63 hbytes hbase
 obtain ⟨A, c, rfl⟩ := h2.shape
 unfold Oper.wp execOp
 simp only [ho, resolve, invoke, builtin, Sem.run_bind, Sem.run_pure, Result.andThen_ok, List.map_toArray, List.map_cons, List.map_nil, hs, hy, hr]
 exact h A c w' h2 h3 h4
theorem wpList_append_S {ops : Array Oper} {rest : List Oper} {o : Oper} {a : Act} {Q : Exit → Act → World → Prop} (hgd : o.guard = none) (s y : Operand) (t tx : TypeId)
 (ho : o.op = .call { callee := .builtin .append, args := #[s, y], argTypes := #[t, tx] })
 (i : TypeInfo) (z : Value) (bytes : Nat) (u : TypeDesc) (ht : P.underlying t = some (.slice e)) (htx : P.underlying tx = some u) (hu : ∀ k, u ≠ .int k) (hi : P.info? e = some i) (hz : i.zero = some z)
 (hsize : i.size = size) (hby : i.bytes = bytes) (hzs : z.cells.size = size) (hs : a.eval s = v) (hy : a.eval y = x) (hown : OwnS w base e size v n xs) (hsrc : Src P w size x m news)
 (h63 : n + m ≤ maxLen) (hbytes : (n + m) * bytes ≤ 140737488355328) (hbase : base ≤ w.heap.size)
 (h : ∀ A c w', OwnS w' base e size (.slice A (n + m) c) (n + m) (xs ++ news) → w.grownBy w' v.ownBlock → ((Value.slice A (n + m) c).ownBlock = v.ownBlock ∨ (Value.slice A (n + m) c).ownBlock = some w.heap.size) → wpList P ops Q rest (a.put o.dst (.slice A (n + m) c)) w') :
 wpList P ops Q (o :: rest) a w :=
 wpList_plain hgd fun _ hK => wp_append_S s y t tx ho i z bytes u ht htx hu hi hz hsize hby hzs hs hy hown hsrc h63 hbytes hbase fun A c w' h2 h3 h4 => hK _ _ (h A c w' h2 h3 h4)
theorem step_append_S {ops : Array Oper} {o : Oper} {a : Act} {K : Act → World → Prop} {Q : Exit → Act → World → Prop} {E : Prop} (hgd : o.guard = none) (s y : Operand) (t tx : TypeId)
 (ho : o.op = .call { callee := .builtin .append, args := #[s, y], argTypes := #[t, tx] })
 (i : TypeInfo) (z : Value) (bytes : Nat) (u : TypeDesc) (ht : P.underlying t = some (.slice e)) (htx : P.underlying tx = some u) (hu : ∀ k, u ≠ .int k) (hi : P.info? e = some i) (hz : i.zero = some z)
 (hsize : i.size = size) (hby : i.bytes = bytes) (hzs : z.cells.size = size) (hs : a.eval s = v) (hy : a.eval y = x) (hown : OwnS w base e size v n xs) (hsrc : Src P w size x m news)
 (h63 : n + m ≤ maxLen) (hbytes : (n + m) * bytes ≤ 140737488355328) (hbase : base ≤ w.heap.size)
 (h : ∀ A c w', OwnS w' base e size (.slice A (n + m) c) (n + m) (xs ++ news) → w.grownBy w' v.ownBlock → ((Value.slice A (n + m) c).ownBlock = v.ownBlock ∨ (Value.slice A (n + m) c).ownBlock = some w.heap.size) → K (a.put o.dst (.slice A (n + m) c)) w') :
 if Region.wanted o (yielded ops a.tmps) = true then Oper.wp P o a w K Q else E := by
 have hw : Region.wanted o (yielded ops a.tmps) = true := by simp [Region.wanted, hgd]
 rw [if_pos hw]
 exact wp_append_S s y t tx ho i z bytes u ht htx hu hi hz hsize hby hzs hs hy hown hsrc h63 hbytes hbase h
end
end Go.Proofs.YtihanglnjghcfaaGreatDoor
namespace Go.Proofs.YtihanglnjghcfaaGreatDoor
open Go.RowKit
set_option linter.unusedVariables false

theorem Tryz.info_u8 : (Tryz.prog.info? 5).map (fun i => (i.zero, i.size, i.bytes)) = some (some (.int .u8 0), 1, 1) := by kernel_rfl

/-- A word as four bytes, the highest first. -/
def be4 (n : Int) : List Int := [n / 16777216, n / 65536 % 256, n / 256 % 256, n % 256]

theorem bits_u32 (op : BinOp) (a b : Int) : 0 ≤ bits op .u32 a b ∧ bits op .u32 a b < 4294967296 := by
 unfold bits
 split <;> (try rw [IntKind.wrap_u32']) <;> omega
/-- Four bytes as a word, as the program puts it together. -/
def num4 (b0 b1 b2 b3 : Int) : Int := bits .or .u32 (bits .or .u32 (bits .or .u32 (b0 * 16777216) (b1 * 65536)) (b2 * 256)) b3

/-- A word turned to the left: m is two to the count, d two to what is left of 32. -/
def rotW (m d x : Int) : Int := bits .or .u32 (x * m % 4294967296) (x / d)
def rotN (n x : Int) : Int := if n = 1 then rotW 2 2147483648 x else if n = 5 then rotW 32 134217728 x else rotW 1073741824 4 x

end Go.Proofs.YtihanglnjghcfaaGreatDoor
namespace Go.Proofs.YtihanglnjghcfaaGreatDoor
open Go.RowKit
set_option linter.unusedVariables false

def fPar (b c d : Int) : Int := bits .xor .u32 (bits .xor .u32 b c) d
def fCh (b c d : Int) : Int := bits .or .u32 (bits .and .u32 b c) (bits .and .u32 (bits .xor .u32 IntKind.u32.max b) d)
def fMaj (b c d : Int) : Int := bits .or .u32 (bits .or .u32 (bits .and .u32 b c) (bits .and .u32 b d)) (bits .and .u32 c d)
theorem u32_unsigned : IntKind.u32.signed = false := rfl

def fT (t : Nat) (b c d : Int) : Int := if t < 20 then fCh b c d else if t < 40 then fPar b c d else if t < 60 then fMaj b c d else fPar b c d
def kT (t : Nat) : Int := if t < 20 then 1518500249 else if t < 40 then 1859775393 else if t < 60 then 2400959708 else 3395469782
structure H5 where
 a : Int
 b : Int
 c : Int
 d : Int
 e : Int
def H5.vals (h : H5) : Array Value := #[.int .u32 h.a, .int .u32 h.b, .int .u32 h.c, .int .u32 h.d, .int .u32 h.e]
def Word32 (x : Int) : Prop := 0 ≤ x ∧ x < 4294967296
def H5.ok (h : H5) : Prop := Word32 h.a ∧ Word32 h.b ∧ Word32 h.c ∧ Word32 h.d ∧ Word32 h.e

def wordAt (xs : List Int) (t : Nat) : Int := num4 (xs.getD (4 * t) 0) (xs.getD (4 * t + 1) 0) (xs.getD (4 * t + 2) 0) (xs.getD (4 * t + 3) 0)
def nextW (l : List Int) (t : Nat) : Int := rotN 1 (bits .xor .u32 (bits .xor .u32 (bits .xor .u32 (l.getD (t - 3) 0) (l.getD (t - 8) 0)) (l.getD (t - 14) 0)) (l.getD (t - 16) 0))
def schedTo (xs : List Int) : Nat → List Int
 | 0 => []
 | t + 1 => schedTo xs t ++ [if t < 16 then wordAt xs t else nextW (schedTo xs t) t]
def stepH (xs : List Int) (t : Nat) (s : H5) : H5 :=
 ⟨(rotN 5 s.a + fT t s.b s.c s.d + s.e + kT t + (schedTo xs 80).getD t 0) % 4294967296, s.a, rotN 30 s.b, s.c, s.d⟩
def runH (xs : List Int) (h : H5) : Nat → H5
 | 0 => h
 | t + 1 => stepH xs t (runH xs h t)
def mixH (h : H5) (xs : List Int) : H5 :=
 let s := runH xs h 80
 ⟨(h.a + s.a) % 4294967296, (h.b + s.b) % 4294967296, (h.c + s.c) % 4294967296, (h.d + s.d) % 4294967296, (h.e + s.e) % 4294967296⟩

theorem schedTo_len (xs : List Int) (t : Nat) : (schedTo xs t).length = t := by
 induction t with
 | zero => rfl
 | succ t ih => rw [schedTo]; simp [ih]
theorem rotN_ok (n x : Int) : Word32 (rotN n x) := by
 unfold rotN rotW
 repeat' split
 all_goals exact bits_u32 _ _ _
theorem runH_ok (xs : List Int) (h : H5) (hh : h.ok) (t : Nat) : (runH xs h t).ok := by
 induction t with
 | zero => exact hh
 | succ t ih =>
  obtain ⟨h1, h2, h3, h4, h5⟩ := ih
  rw [runH, stepH]
  refine ⟨⟨Int.emod_nonneg _ (by decide), Int.emod_lt_of_pos _ (by decide)⟩, h1, ?_, h3, h4⟩
  dsimp only
  exact rotN_ok _ _
theorem mixH_ok (h : H5) (xs : List Int) : (mixH h xs).ok :=
 ⟨⟨Int.emod_nonneg _ (by decide), Int.emod_lt_of_pos _ (by decide)⟩, ⟨Int.emod_nonneg _ (by decide), Int.emod_lt_of_pos _ (by decide)⟩, ⟨Int.emod_nonneg _ (by decide), Int.emod_lt_of_pos _ (by decide)⟩, ⟨Int.emod_nonneg _ (by decide), Int.emod_lt_of_pos _ (by decide)⟩, ⟨Int.emod_nonneg _ (by decide), Int.emod_lt_of_pos _ (by decide)⟩⟩
end Go.Proofs.YtihanglnjghcfaaGreatDoor
namespace Go.Proofs.YtihanglnjghcfaaGreatDoor
open Go.RowKit
section
variable {P : Program} {w : World} {g N off : Nat} {t ty : TypeId} {f : Nat → Value} {vs : Array Value} {d : TypeDesc}

theorem run_load_part (h : Cel w g t N f) (hu : P.underlying ty = some d) (hd : (match d with | .struct _ | .array _ _ => true | _ => false) = true) (hi : (P.info? ty).map (·.size) = some vs.size)
 (hn : off + vs.size ≤ N) (hv : ∀ j, j < vs.size → vs[j]? = some (f (off + j))) : (loadVar ty ⟨g, off, none⟩).run P w = .ok (.agg vs) w := by
 have hl : (loadCells ⟨g, off, none⟩ vs.toList.length).run P w = .ok vs.toList.toArray w :=
  run_loadCells_list (P := P) w ⟨g, off, none⟩ vs.toList (fun j v hj => by
   have hjl : j < vs.size := by have := (List.getElem?_eq_some_iff.1 hj).1; simpa using this
   rw [Addr.add_lit, h.cell (off + j) (by omega), ← hv j hjl, ← hj]
   simp)
 cases hq : P.info? ty with
 | none => simp [hq] at hi
 | some i =>
  have hs : i.size = vs.size := by simpa [hq] using hi
  have hagg : (isAgg ty).run P w = .ok true w := by
   unfold isAgg
   rw [Sem.run_bind, run_underlying hu w]
   cases d <;> simp_all
  simp only [Array.length_toList, Array.toArray_toList] at hl
  simp [loadVar, Sem.run_bind, hagg, sizeOf, typeInfo, hq, hs, hl]
theorem results_cel {fn : Func} {p : Tmp} {ty : TypeId} {vs : Array Value} (hr : fn.results = #[.cell p ty]) (tmps : Array Value) (hp : tmps.getD p undef = .pointer (some ⟨g, 0, none⟩)) (h : Cel w g t N f)
 (hu : P.underlying ty = some d) (hd : (match d with | .struct _ | .array _ _ => true | _ => false) = true) (hi : (P.info? ty).map (·.size) = some vs.size) (hn : vs.size ≤ N) (hv : ∀ j, j < vs.size → vs[j]? = some (f j)) :
 (results fn tmps).run P w = .ok (.agg vs) w := by
 have hp' : tmps[p]?.getD undef = .pointer (some ⟨g, 0, none⟩) := by simpa using hp
 have := run_load_part (P := P) (ty := ty) (vs := vs) (off := 0) h hu hd hi (by omega) (fun j hj => by rw [Nat.zero_add]; exact hv j hj)
 simp [results, hr, hp', asAddr, this]
theorem results_cel2 {fn : Func} {p q : Tmp} {ty : TypeId} {vs : Array Value} (hr : fn.results = #[.cell p ty, .tmp q]) (tmps : Array Value) (b : Value) (hp : tmps.getD p undef = .pointer (some ⟨g, 0, none⟩)) (hq : tmps.getD q undef = b) (h : Cel w g t N f)
 (hu : P.underlying ty = some d) (hd : (match d with | .struct _ | .array _ _ => true | _ => false) = true) (hi : (P.info? ty).map (·.size) = some vs.size) (hn : vs.size ≤ N) (hv : ∀ j, j < vs.size → vs[j]? = some (f j)) :
 (results fn tmps).run P w = .ok (.tuple #[.agg vs, b]) w := by
 have hp' : tmps[p]?.getD undef = .pointer (some ⟨g, 0, none⟩) := by simpa using hp
 have hq' : tmps[q]?.getD undef = b := by simpa using hq
 have := run_load_part (P := P) (ty := ty) (vs := vs) (off := 0) h hu hd hi (by omega) (fun j hj => by rw [Nat.zero_add]; exact hv j hj)
 simp [results, hr, hp', hq', asAddr, this]
end
end Go.Proofs.YtihanglnjghcfaaGreatDoor
namespace Go.Proofs.YtihanglnjghcfaaGreatDoor
open Go.RowKit
set_option linter.unusedVariables false

/-! ### The CRC's numbers -/
def crcBit (c : Nat) : Nat := if c % 2 = 1 then (c / 2) ^^^ 3988292384 else c / 2
def crcN : Nat → Nat → Nat
 | 0, c => c
 | n + 1, c => crcBit (crcN n c)
def crcTab (i : Nat) : Nat := crcN 8 i

end Go.Proofs.YtihanglnjghcfaaGreatDoor
namespace Go.Proofs.YtihanglnjghcfaaGreatDoor
open Go.RowKit
set_option linter.unusedVariables false

def h0 : H5 := ⟨1732584193, 4023233417, 2562383102, 271733878, 3285377520⟩

end Go.Proofs.YtihanglnjghcfaaGreatDoor
namespace Go.Proofs.YtihanglnjghcfaaGreatDoor
open Go.RowKit
set_option linter.unusedVariables false

structure Chg (S : Nat → Prop) (w w' : World) : Prop where
 os : w'.os = w.os
 tape : w'.tape = w.tape
 output : w'.output = w.output
 size : w.heap.size ≤ w'.heap.size
 block : ∀ k, k < w.heap.size → ¬ S k → w'.heap[k]? = w.heap[k]?
section
variable {S S' : Nat → Prop} {w w1 w2 : World}
theorem Chg.refl (S : Nat → Prop) (w : World) : Chg S w w := ⟨rfl, rfl, rfl, Nat.le_refl _, fun _ _ _ => rfl⟩
theorem Chg.trans (h : Chg S w w1) (k : Chg S' w1 w2) (hS : ∀ i, i < w.heap.size → S' i → S i) : Chg S w w2 :=
 ⟨k.os.trans h.os, k.tape.trans h.tape, k.output.trans h.output, Nat.le_trans h.size k.size, fun i hi hn => (k.block i (Nat.lt_of_lt_of_le hi h.size) (fun h' => hn (hS i hi h'))).trans (h.block i hi hn)⟩
theorem Chg.of_below (h : Below w.heap.size w w1) : Chg S w w1 := ⟨h.os, h.tape, h.output, h.size, fun k hk _ => h.block k hk⟩
theorem Chg.of_grown {row : Option Nat} (h : w.grownBy w1 row) (hS : ∀ k, row = some k → S k) : Chg S w w1 :=
 ⟨h.os, h.tape, h.output, h.size, fun k hk hn => h.block k hk (fun e => hn (hS k e.symm))⟩
theorem Chg.drew (h : Chg S w w1) : Chg S w w1.drew := ⟨h.os, h.tape, h.output, h.size, h.block⟩
theorem Chg.drewN (h : Chg S w w1) (n : Nat) : Chg S w (w1.drewN n) := ⟨h.os, h.tape, h.output, h.size, h.block⟩
theorem Chg.alloc (h : Chg S w w1) (o : Obj) : Chg S w (w1.alloc o) := h.trans (S' := fun _ => False) (Chg.of_below ((Below.refl _ _).alloc (Nat.le_refl _) o)) (fun _ _ h => h.elim)
theorem Chg.setCell (h : Chg S w w1) {a : Addr} (ha : S a.block ∨ w.heap.size ≤ a.block) (u : Value) : Chg S w (w1.setCell a u) :=
 ⟨h.os, h.tape, h.output, by simpa [World.setCell] using h.size, fun k hk hn => (Below.heap_setCell _ _ _ _ (by rintro rfl; rcases ha with h' | h'; exact hn h'; omega)).trans (h.block k hk hn)⟩
theorem Chg.below (h : Chg S w w1) {B : Nat} (hB : B ≤ w.heap.size) (hS : ∀ k, k < B → ¬ S k) : Below B w w1 := ⟨h.os, h.tape, h.output, h.size, fun k hk => h.block k (by omega) (hS k hk)⟩
theorem Chg.mono (h : Chg S w w1) (hS : ∀ k, k < w.heap.size → S k → S' k) : Chg S' w w1 := ⟨h.os, h.tape, h.output, h.size, fun k hk hn => h.block k hk (fun h' => hn (hS k hk h'))⟩
theorem Cel.chg {g N : Nat} {t : TypeId} {f : Nat → Value} (h : Cel w g t N f) (hc : Chg S w w1) (hn : ¬ S g) : Cel w1 g t N f := h.same (hc.block g h.blk hn)
theorem OwnS.chg {base : Nat} {e : TypeId} {size n : Nat} {v : Value} {xs : List Value} (h : OwnS w base e size v n xs) (hc : Chg S w w1) (hn : ∀ k, v.ownBlock = some k → ¬ S k) : OwnS w1 base e size v n xs :=
 h.heap fun k hk => hc.block k (h.lt k hk).2 (hn k hk)
theorem Ints.chg {k : IntKind} {A : Option Addr} {xs : List Int} (h : Ints k w A xs) (hc : Chg S w w1) (hn : ∀ b o, A = some ⟨b, o, none⟩ → ¬ S b) : Ints k w1 A xs := by
 intro hl
 obtain ⟨b, o, hA, hlt, hcell⟩ := h hl
 exact ⟨b, o, hA, Nat.lt_of_lt_of_le hlt hc.size, fun j hj => (World.cell?_of_block (hc.block b hlt (hn b o hA))).trans (hcell j hj)⟩
theorem OwnS.ints {base : Nat} {e : TypeId} {n c : Nat} {k : IntKind} {A : Option Addr} {xs : List Int} (h : OwnS w base e 1 (.slice A n c) n (xs.map (Value.int k))) : Ints k w A xs := by
 intro hl
 obtain ⟨g, off, c', hv, _, hlt, hc⟩ := h.cells (by simpa using hl)
 injection hv with hA _ _
 refine ⟨g, off, hA, hlt, fun j hj => ?_⟩
 rw [hc j (by simpa using hj)]
 simp [List.getD_eq_getElem?_getD, hj]
theorem OwnS.cap {base : Nat} {e : TypeId} {size n c : Nat} {A : Option Addr} {xs : List Value} (h : OwnS w base e size (.slice A n c) n xs) : n ≤ c := by
 rcases h.2 with ⟨hv, rfl⟩ | ⟨g', off, cap, cur, hv, _, _, hn, _⟩
 · omega
 · injection hv with _ _ hc; omega
/-- A row's block and a block of another element type are not the same. -/
theorem OwnS.ne_cel {base : Nat} {e t : TypeId} {size n g N : Nat} {v : Value} {xs : List Value} {f : Nat → Value} (h : OwnS w base e size v n xs) (hc : Cel w g t N f) (hne : e ≠ t) : v.ownBlock ≠ some g := by
 rcases h.2 with ⟨rfl, _⟩ | ⟨g', off, cap, cur, rfl, _, ⟨fr, hh, _⟩, _⟩
 · simp [Value.ownBlock]
 · intro he
   simp [Value.ownBlock] at he
   subst he
   obtain ⟨cs, h1, _⟩ := hc
   rw [hh] at h1
   injection h1 with h1
   injection h1 with _ h2
   exact hne h2
end
end Go.Proofs.YtihanglnjghcfaaGreatDoor
namespace Go.Proofs.YtihanglnjghcfaaGreatDoor
open Go.RowKit
set_option linter.unusedVariables false

/-- n blocks of r taken into h. -/
def fb : Nat → H5 → List Int → H5
 | 0, h, _ => h
 | n + 1, h, r => fb n (mixH h r) (r.drop 64)
section
variable {g : Nat} {w w' : World} {v : Value} {kind len crc a b : Int} {h : H5} {rest : List Int} {tab : Nat → Int}
end
end Go.Proofs.YtihanglnjghcfaaGreatDoor
namespace Go.Proofs.YtihanglnjghcfaaGreatDoor
open Go.RowKit
set_option linter.unusedVariables false

def Bytes (xs : List Int) : Prop := ∀ x ∈ xs, 0 ≤ x ∧ x < 256
theorem fb_ok (n : Nat) : ∀ (h : H5) (r : List Int), h.ok → (fb n h r).ok := by
 induction n with
 | zero => exact fun h r hh => hh
 | succ n ih => exact fun h r hh => ih _ _ (mixH_ok h r)
theorem fb_succ (n : Nat) : ∀ (h : H5) (r : List Int), fb (n + 1) h r = mixH (fb n h r) (r.drop (64 * n)) := by
 induction n with
 | zero => intro h r; simp [fb]
 | succ n ih => intro h r; rw [fb, ih, fb, List.drop_drop]; congr 2; omega

end Go.Proofs.YtihanglnjghcfaaGreatDoor
namespace Go.Proofs.YtihanglnjghcfaaGreatDoor
open Go.RowKit
set_option linter.unusedVariables false

def crcStep (c x : Nat) : Nat := (c / 256) ^^^ crcTab ((c % 256) ^^^ x)
def crcTo (c : Nat) (xs : List Int) : Nat := xs.foldl (fun c x => crcStep c x.toNat) c
theorem Bytes.take {xs : List Int} (h : Bytes xs) (k : Nat) : Bytes (xs.take k) := fun x hx => h x (List.mem_of_mem_take hx)
theorem Bytes.at_ {xs : List Int} (h : Bytes xs) (k : Nat) (hk : k < xs.length) : 0 ≤ xs.getD k 0 ∧ xs.getD k 0 < 256 := by
 rw [List.getD_eq_getElem?_getD, List.getElem?_eq_getElem hk]; exact h _ (List.getElem_mem hk)

def adStep (s : Int × Int) (x : Int) : Int × Int := ((s.1 + x) % 65521, (s.2 + (s.1 + x) % 65521) % 65521)
def adTo (s : Int × Int) (xs : List Int) : Int × Int := xs.foldl adStep s
end Go.Proofs.YtihanglnjghcfaaGreatDoor
namespace Go.Proofs.YtihanglnjghcfaaGreatDoor
open Go.RowKit
set_option linter.unusedVariables false

def AskPost (w : World) (out : List Int) (e : Ending) (w' : World) : Prop :=
 ∃ A c, e = .returned (.slice A out.length c) ∧ OwnS w' w.heap.size 5 1 (.slice A out.length c) out.length (out.map (Value.int .u8)) ∧ Below w.heap.size w w'

theorem OwnS.empty {w : World} {base : Nat} {e : TypeId} {cs : Array Value} {g c : Nat} (hb : base ≤ g) (h : w.heap[g]? = some (.cells cs e)) (hc : c ≤ maxLen) (hs : c ≤ cs.size) : OwnS w base e 1 (.slice (some ⟨g, 0, none⟩) 0 c) 0 [] :=
 ⟨rfl, .inr ⟨g, 0, c, cs, rfl, hb, ⟨_, h, .inl (Nat.le_refl _)⟩, Nat.zero_le _, hc, by omega, by simp⟩⟩

theorem make_bytes (c : Nat) (hc : c ≤ 281474976710656) (w : World) : (Instr.makeSlice 48 (.int .i64 0) (.int .i64 (c : Int))).run Tryz.prog w = .ok (.slice (some ⟨w.heap.size, 0, none⟩) 0 c) (w.alloc (.cells (madeCells #[.int .u8 0] c) 5)) := by
 obtain ⟨i0, hi, hz0, hz1, hz2⟩ := info_parts Tryz.info_u8
 have hr := run_make (P := Tryz.prog) w 48 5 i0 (.int .u8 0) Tryz.underlying48 hi hz0 .i64 .i64 0 c (Int.le_refl _) (by omega) (by rw [hz2]; omega) (by omega)
 simp only [Int.toNat_zero, Int.toNat_natCast, hz1, Nat.mul_one] at hr
 exact hr

end Go.Proofs.YtihanglnjghcfaaGreatDoor
namespace Go.Proofs.YtihanglnjghcfaaGreatDoor
open Go.RowKit
set_option linter.unusedVariables false

def padN (L : Nat) : Nat := (119 - L % 64) % 64
theorem padN_le (L : Nat) : padN L ≤ 63 := by unfold padN; omega
theorem padN_lt (L k : Nat) (h : k < padN L) : ((L + 1 + k : Nat) : Int) % 64 ≠ 56 := by unfold padN at h; omega
theorem padN_eq (L : Nat) : (L + 1 + padN L) % 64 = 56 := by unfold padN; omega
def padTo (r : List Int) (k : Nat) : List Int := r ++ 128 :: List.replicate k 0
theorem padTo_len (r : List Int) (k : Nat) : (padTo r k).length = r.length + 1 + k := by unfold padTo; simp; omega
theorem padTo_succ (r : List Int) (k : Nat) : padTo r (k + 1) = padTo r k ++ [0] := by unfold padTo; rw [List.replicate_succ']; simp

def hF (k : H5) (i : Nat) : Value := if i = 0 then .int .u32 k.a else if i = 1 then .int .u32 k.b else if i = 2 then .int .u32 k.c else if i = 3 then .int .u32 k.d else .int .u32 k.e
def H5.nth (k : H5) (i : Nat) : Int := if i = 0 then k.a else if i = 1 then k.b else if i = 2 then k.c else if i = 3 then k.d else k.e
theorem H5.nth_ok (k : H5) (h : k.ok) (i : Nat) : 0 ≤ H5.nth k i ∧ H5.nth k i < 4294967296 := by
 unfold H5.nth
 obtain ⟨h1, h2, h3, h4, h5⟩ := h
 repeat (split; assumption)
 assumption
def shaTo (k : H5) : Nat → List Int
 | 0 => []
 | n + 1 => shaTo k n ++ be4 (H5.nth k n)
theorem shaTo_len (k : H5) (n : Nat) : (shaTo k n).length = 4 * n := by
 induction n with
 | zero => rfl
 | succ n ih => rw [shaTo, List.length_append, ih]; simp [be4]; omega
/-- The rest with its padding and its length behind it. -/
def shaMsg (rest : List Int) (len : Int) : List Int := padTo rest (padN rest.length) ++ be4 (IntKind.u32.wrap (len / 536870912)) ++ be4 (IntKind.u32.wrap (IntKind.u64.wrap (len * 8)))
def shaOut (h : H5) (rest : List Int) (len : Int) : List Int := shaTo (fb ((rest.length + 1 + padN rest.length + 8) / 64) h (shaMsg rest len)) 5
def lenOf : Value → Nat
 | .slice _ n _ => n
 | _ => 0
end Go.Proofs.YtihanglnjghcfaaGreatDoor
namespace Go.Proofs.YtihanglnjghcfaaGreatDoor
open Go.RowKit
set_option linter.unusedVariables false

def adOut (xs : List Int) : List Int := be4 ((adTo (1, 0) xs).2 * 65536 + (adTo (1, 0) xs).1)
def crcOut (xs : List Int) : List Int := be4 (4294967295 - (crcTo 4294967295 xs : Nat))
theorem AskPost.below {w w1 : World} {out : List Int} {e : Ending} {w' : World} (hb : Below w.heap.size w w1) (h : AskPost w1 out e w') : AskPost w out e w' := by
 obtain ⟨A, c, h1, h2, h3⟩ := h
 exact ⟨A, c, h1, h2.base_ hb.size, hb.trans (h3.mono hb.size)⟩

def shaAll (xs : List Int) : List Int := shaOut (fb (xs.length / 64) h0 xs) (xs.drop (64 * (xs.length / 64))) (0 + (xs.length : Int))
theorem h0_ok : h0.ok := by unfold H5.ok Word32 h0; decide
end Go.Proofs.YtihanglnjghcfaaGreatDoor
namespace Go.Proofs.YtihanglnjghcfaaGreatDoor
open Go.RowKit
set_option linter.unusedVariables false

def bytesOf (s : ByteArray) : List Int := s.data.toList.map fun b => (b.toNat : Int)
theorem bytesOf_len (s : ByteArray) : (bytesOf s).length = s.size := by unfold bytesOf; rw [List.length_map, Array.length_toList]; rfl
theorem bytesOf_at (s : ByteArray) (k : Nat) (h : k < s.size) : (bytesOf s).getD k 0 = ((s[k]'h).toNat : Int) := by
 have h2 : k < s.data.toList.length := by rw [Array.length_toList]; exact h
 unfold bytesOf
 rw [List.getD_eq_getElem?_getD, List.getElem?_map, List.getElem?_eq_getElem h2, Array.getElem_toList]
 rfl
theorem bytesOf_ok (s : ByteArray) : Bytes (bytesOf s) := fun x hx => by
 obtain ⟨b, _, rfl⟩ := List.mem_map.1 hx
 have := b.toNat_lt
 omega

theorem OwnS.of_str (w : World) (s : ByteArray) (e : TypeId) (c : Nat) (h1 : s.size ≤ c) (h2 : c ≤ maxLen) :
 OwnS (w.alloc (.cells (bytesRow s c) e ((bytesRow s c).size, (bytesRow s c).size + 1))) w.heap.size e 1 (.slice (some ⟨w.heap.size, 0, none⟩) s.size c) s.size ((bytesOf s).map (Value.int .u8)) := by
 have hs : (bytesRow s c).size = c := by unfold bytesRow; simp; have : s.data.size = s.size := rfl; omega
 refine ⟨by rw [List.length_map, bytesOf_len, Nat.mul_one], .inr ⟨w.heap.size, 0, c, bytesRow s c, rfl, Nat.le_refl _, ⟨_, heap_alloc_new w _, .inr (Nat.le_refl _)⟩, h1, h2, by omega, ?_⟩⟩
 unfold bytesRow bytesOf
 rw [Array.toList_append, List.drop_zero, Nat.mul_one, List.take_append_of_le_length (by simp)]
 rw [List.take_of_length_le (by simp)]
 simp
theorem Src.one_at {P : Program} {w : World} {u : Value} {t : TypeId} {g : Nat} (hg : g = w.heap.size) (h1 : u.oneCell' = true) : Src P (w.alloc (.cells #[u] t)) 1 (.slice (some ⟨g, 0, none⟩) 1 1) 1 [u] := by
 subst hg; exact Src.one_new h1
theorem cell_beside (w : World) (g i j : Nat) (v : Value) (h : i ≠ j) : (w.setCell ⟨g, i, none⟩ v).cell? ⟨g, j, none⟩ = w.cell? ⟨g, j, none⟩ :=
 World.cell?_setCell_other _ _ _ _ (by intro he; injection he with _ h2 _; exact h h2)
end Go.Proofs.YtihanglnjghcfaaGreatDoor
namespace Go.Proofs.YtihanglnjghcfaaGreatDoor
open Go.RowKit
set_option linter.unusedVariables false

theorem be4_ok (n : Int) (h0 : 0 ≤ n) (h1 : n < 4294967296) : Bytes (be4 n) := fun x hx => by
 simp only [be4, List.mem_cons, List.not_mem_nil, or_false] at hx
 rcases hx with rfl | rfl | rfl | rfl <;> omega
end Go.Proofs.YtihanglnjghcfaaGreatDoor
namespace Go.Proofs.YtihanglnjghcfaaGreatDoor
open Go.RowKit
set_option linter.unusedVariables false

theorem bytesOf_str (xs : List Int) (h : Bytes xs) : bytesOf (strOfNums xs) = xs := by
 unfold bytesOf
 rw [strOfNums_data, List.map_map]
 refine (List.map_congr_left (g := id) fun x hx => ?_).trans (List.map_id xs)
 have := h x hx
 simp only [Function.comp, id]
 rw [UInt8.toNat_ofNat', Nat.mod_eq_of_lt (by omega)]
 omega
theorem strOfNums_bytes (s : ByteArray) : strOfNums (bytesOf s) = s := by
 unfold strOfNums bytesOf
 rw [List.map_map]
 have : (s.data.toList.map ((fun n : Int => UInt8.ofNat n.toNat) ∘ fun b => ((b.toNat : Nat) : Int))) = s.data.toList := by
  refine (List.map_congr_left (g := id) fun x hx => ?_).trans (List.map_id _)
  simp
 rw [this]
theorem run_str_ints {P : Program} {w : World} (src dst e : TypeId) (hs : P.underlying src = some (.slice e)) (he : P.underlying e = some (.int .u8)) (hd : P.underlying dst = some .string) (A : Option Addr) (c : Nat) (xs : List Int) (h : Ints .u8 w A xs) :
 (convert src dst (.slice A xs.length c)).run P w = .ok (.string (strOfNums xs)) w := by
 by_cases hx : 0 < xs.length
 · obtain ⟨b, o, rfl, _, hc⟩ := h hx
   exact run_convert_bytes_arg w src e hs he b o xs.length c xs rfl (fun i hi => hc i hi) dst hd
 · have hn : xs = [] := List.length_eq_zero_iff.1 (by omega)
   subst hn
   cases A with
   | none => exact run_convert_bytes_nil w src e hs he _ c dst hd
   | some a => exact run_convert_bytes_back w src dst e a c [] hs he hd (fun j hj => by cases hj)
end Go.Proofs.YtihanglnjghcfaaGreatDoor
namespace Go.Proofs.YtihanglnjghcfaaGreatDoor
open Go.RowKit
set_option linter.unusedVariables false

def wordsL : List Int → List Int
 | [] => []
 | x :: xs => be4 x ++ wordsL xs
theorem wordsL_snoc (xs : List Int) (x : Int) : wordsL (xs ++ [x]) = wordsL xs ++ be4 x := by
 induction xs with
 | nil => simp [wordsL]
 | cons y ys ih => simp [wordsL, ih]
theorem wordsL_len (xs : List Int) : (wordsL xs).length = 4 * xs.length := by
 induction xs with
 | nil => rfl
 | cons y ys ih => simp [wordsL, be4, ih]; omega
def Words (xs : List Int) : Prop := ∀ x ∈ xs, 0 ≤ x ∧ x < 4294967296
theorem Words.at_ {xs : List Int} (h : Words xs) (k : Nat) (hk : k < xs.length) : 0 ≤ xs.getD k 0 ∧ xs.getD k 0 < 4294967296 := by
 rw [List.getD_eq_getElem?_getD, List.getElem?_eq_getElem hk]; exact h _ (List.getElem_mem hk)
theorem wordsL_ok (xs : List Int) (h : Words xs) : Bytes (wordsL xs) := by
 induction xs with
 | nil => intro x hx; cases hx
 | cons y ys ih =>
  intro x hx
  rcases List.mem_append.1 hx with hx | hx
  · exact be4_ok y (h y (by simp)).1 (h y (by simp)).2 x hx
  · exact ih (fun z hz => h z (by simp [hz])) x hx

set_option maxRecDepth 100000 in
set_option maxHeartbeats 2000000 in
theorem words_any (A : Option Addr) (n c : Nat) (xs : List Int) (w : World) (hI : Ints .u32 w A xs) (hn : xs.length = n) (hb : Words xs) (hsz : n ≤ 1000000) :
 Calls Tryz.prog 78 #[.slice A n c] w (AskPost w (wordsL xs)) := by
 subst hn
 obtain ⟨i0, hi, hz0, hz1, hz2⟩ := info_parts Tryz.info_u8
 go_enter Tryz.func78, Tryz.ntmps78
 go_wp2
 go_loopw [3, 4] (fun out i wr => ∃ (k : Nat) (A : Option Addr) (c : Nat), k ≤ xs.length ∧ i = .int .i64 k ∧ out = .slice A (wordsL (xs.take k)).length c ∧ OwnS wr w.heap.size 5 1 (.slice A (wordsL (xs.take k)).length c) (wordsL (xs.take k)).length ((wordsL (xs.take k)).map (Value.int .u8)) ∧ Below w.heap.size w wr) (fun _ i _ => xs.length - (intOf i).toNat)
 case atStart => exact ⟨0, none, 0, by omega, rfl, rfl, OwnS.nil _ _ _ _, Below.refl _ _⟩
 case round =>
  obtain ⟨k, A9, c9, hk9, rfl, rfl, ho, hB⟩ := hrel
  by_cases hlt : k < xs.length
  · have hx := hb.at_ k hlt
    have HN : Hid (wordsL (xs.take (k + 1)) = wordsL (xs.take k) ++ be4 (xs.getD k 0)) := by show _ = _; rw [take_snoc_getD xs k hlt, wordsL_snoc]
    have hll : (wordsL (xs.take k)).length ≤ 140737488355000 := by rw [wordsL_len, List.length_take_of_le hk9]; omega
    obtain ⟨b, o, rfl, hbl, hcell⟩ := hI (by omega)
    have hc := (hB.cell (p := ⟨b, o + k, none⟩) hbl).trans (hcell k hlt)
    clear hcell hI
    generalize xs.getD k 0 = x at *
    generalize wordsL (xs.take k) = l at *
    have hkI : (k : Int) < xs.length := by omega
    have hbr : b < wr.heap.size := Nat.lt_of_lt_of_le hbl hB.size
    have hne : (Value.slice A9 l.length c9).ownBlock ≠ some b := fun h => by have := ho.lt b h; omega
    have e1 : IntKind.u8.wrap (x / 16777216) = x / 16777216 := by rw [IntKind.wrap_u8]; omega
    have e2 : IntKind.u8.wrap (x / 65536) = x / 65536 % 256 := IntKind.wrap_u8 _
    have e3 : IntKind.u8.wrap (x / 256) = x / 256 % 256 := IntKind.wrap_u8 _
    have e4 : IntKind.u8.wrap x = x % 256 := IntKind.wrap_u8 _
    go_wp2
    go_region_held3 (fun w' => w'.cell? ⟨b, o + k, none⟩ = some (.int .u32 x)) (first | exact hk2 | go_keep) ((refine step_append_S rfl (.tmp 11) (.tmp 35) 48 48 rfl i0 (.int .u8 0) 1 (.slice 5) Tryz.underlying48 Tryz.underlying48 (fun _ h => by cases h) hi hz0 hz1 hz2 rfl rfl rfl ((ho.alloc _).drew) ((Src.new (us := (be4 x).map (Value.int .u8)) rfl (ints_oneCell .u8 (be4 x))).drew) ?_ ?_ ?_ ?_; (simp only [be4, List.length_map, List.length_cons, List.length_nil]; unfold maxLen; omega); (simp only [be4, List.length_map, List.length_cons, List.length_nil]; omega); (have := hB.size; simp; omega); intro A2 c2 w2 ho2 hg2 hw2; have hk2 := (hg2.cell_far ⟨b, o + k, none⟩ (by simp; omega) (Ne.symm hne)).trans ((World.cell?_alloc_lt wr _ ⟨b, o + k, none⟩ hbr).trans hc)))
    go_wp2
    go_roundw
    case rel =>
     have hB' := hB.size
     refine ⟨k + 1, A2, c2, by omega, by go_num, ?_, ?_, ?_⟩
     · rw [HN.out, List.length_append]; first | done | rfl
     · rw [HN.out, List.length_append, List.map_append]; exact ho2
     · exact ((hB.alloc (by omega) _).drew).grown hg2 (by simp; omega) (fun q h => (ho.lt q h).1)
    case measure => simp [intOf]; omega
  · obtain rfl : k = xs.length := by omega
    rw [List.take_length] at ho ⊢
    go_wp2
    go_ret
    exact ⟨A9, c9, rfl, ho, hB⟩
end Go.Proofs.YtihanglnjghcfaaGreatDoor
namespace Go.Proofs.YtihanglnjghcfaaGreatDoor
open Go.RowKit
set_option linter.unusedVariables false

set_option maxRecDepth 100000 in
theorem rol_any (x n : Int) (w : World) (h0 : 0 ≤ x) (h1 : x < 4294967296) (hn : n = 1 ∨ n = 5 ∨ n = 30) :
 Calls Tryz.prog 79 #[.int .u32 x, .int .i64 n] w fun e w' => e = .returned (.int .u32 (rotN n x)) ∧ ∃ nq, w' = w.drewN nq := by
 rcases hn with rfl | rfl | rfl
 all_goals
  go_enter Tryz.func79, Tryz.ntmps79
  go_wp2
  go_quiet (fail)
  go_wp2
  go_ret
  exact ⟨rfl, _, rfl⟩
end Go.Proofs.YtihanglnjghcfaaGreatDoor
