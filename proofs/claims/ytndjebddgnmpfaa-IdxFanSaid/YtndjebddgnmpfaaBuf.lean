/- Rows of bytes that a call makes one beside the other, each in a block of its own. -/
import Derived.Test.YtndjebddgnmpfaaChg
import Derived.Test.YtndjebddgnmpfaaSumA
namespace Go.Proofs.Ytndjebddgnmpfaa
open Go.RowKit
set_option linter.unusedVariables false

/-- Two rows of unlike element types do not share a block. -/
theorem OwnS.ne_own {w : World} {b b' : Nat} {e t : TypeId} {sz sz' n n' : Nat} {v u : Value} {xs ys : List Value} (h : OwnS w b e sz v n xs) (h' : OwnS w b' t sz' u n' ys) (hne : e ≠ t) : ∀ k, v.ownBlock = some k → u.ownBlock ≠ some k := by
  intro k hk hu
  rcases h.2 with ⟨rfl, _⟩ | ⟨g, off, cap, cur, rfl, _, ⟨fr, hh, _⟩, _⟩
  · simp [Value.ownBlock] at hk
  · rcases h'.2 with ⟨rfl, _⟩ | ⟨g', off', cap', cur', rfl, _, ⟨fr', hh', _⟩, _⟩
    · simp [Value.ownBlock] at hu
    · simp only [Value.ownBlock] at hk hu
      injection hk with hk
      injection hu with hu
      subst hk
      rw [hu, hh] at hh'
      injection hh' with h1
      injection h1 with _ h2
      exact hne h2
structure Bufs (W w : World) (L : List (Value × List Int)) : Prop where
  low : Below W.heap.size W w
  own : ∀ (i : Nat) (v : Value) (xs : List Int), L[i]? = some (v, xs) → OwnS w W.heap.size 5 1 v xs.length (xs.map (Value.int .u8))
  apart : ∀ (i j : Nat) (v : Value) (xs : List Int) (u : Value) (ys : List Int), i ≠ j → L[i]? = some (v, xs) → L[j]? = some (u, ys) → ∀ k, v.ownBlock = some k → u.ownBlock ≠ some k
section
variable {W w w' : World} {L : List (Value × List Int)}
theorem Bufs.nils (n : Nat) (h : Below W.heap.size W w) : Bufs W w (List.replicate n (Value.slice none 0 0, ([] : List Int))) := by
  have key : ∀ (i : Nat) (v : Value) (xs : List Int), (List.replicate n (Value.slice none 0 0, ([] : List Int)))[i]? = some (v, xs) → v = Value.slice none 0 0 ∧ xs = [] := fun i v xs hi => by
    have := List.mem_of_getElem? hi
    have := List.eq_of_mem_replicate this
    exact ⟨congrArg Prod.fst this, congrArg Prod.snd this⟩
  refine ⟨h, fun i v xs hi => ?_, fun i j v xs u ys _ hi hj k hk => ?_⟩
  · obtain ⟨rfl, rfl⟩ := key i v xs hi
    exact OwnS.nil _ _ _ _
  · obtain ⟨rfl, rfl⟩ := key i v xs hi
    simp only [Value.ownBlock] at hk; cases hk
theorem Bufs.first (n : Nat) {v : Value} {xs : List Int} (h : Below W.heap.size W w) (ho : OwnS w W.heap.size 5 1 v xs.length (xs.map (Value.int .u8))) : Bufs W w ((v, xs) :: List.replicate n (Value.slice none 0 0, ([] : List Int))) := by
  have hn := Bufs.nils (W := W) (w := w) n h
  have key : ∀ (i : Nat) (v : Value) (xs : List Int), (List.replicate n (Value.slice none 0 0, ([] : List Int)))[i]? = some (v, xs) → v = Value.slice none 0 0 ∧ xs = [] := fun i v xs hi => by
    have := List.mem_of_getElem? hi
    have := List.eq_of_mem_replicate this
    exact ⟨congrArg Prod.fst this, congrArg Prod.snd this⟩
  refine ⟨h, fun i u ys hi => ?_, fun i j u ys p qs hij hi hj k hk hq => ?_⟩
  · cases i with
    | zero =>
      simp only [List.getElem?_cons_zero, Option.some.injEq, Prod.mk.injEq] at hi
      obtain ⟨rfl, rfl⟩ := hi
      exact ho
    | succ i => exact hn.own i u ys (by simpa using hi)
  · cases i with
    | zero =>
      cases j with
      | zero => exact hij rfl
      | succ j =>
        obtain ⟨rfl, _⟩ := key j p qs (by simpa using hj)
        simp only [Value.ownBlock] at hq
        cases hq
    | succ i =>
      obtain ⟨rfl, _⟩ := key i u ys (by simpa using hi)
      simp only [Value.ownBlock] at hk
      cases hk
theorem Bufs.below (h : Bufs W w L) (hb : Below w.heap.size w w') : Bufs W w' L :=
  ⟨h.low.trans (hb.mono h.low.size), fun i v xs hi => (h.own i v xs hi).chg (Chg.of_below (S := fun _ => False) hb) (fun _ _ h => h), h.apart⟩
theorem Bufs.drew (h : Bufs W w L) : Bufs W w.drew L := h.below (Below.refl _ _).drew
theorem Bufs.drewN (h : Bufs W w L) (n : Nat) : Bufs W (w.drewN n) L := h.below (Below.drewN (Below.refl _ _) n)
theorem Bufs.chg (h : Bufs W w L) {S : Nat → Prop} (hc : Chg S w w') (hS : ∀ k, S k → W.heap.size ≤ k) (hn : ∀ (i : Nat) (v : Value) (xs : List Int), L[i]? = some (v, xs) → ∀ k, v.ownBlock = some k → ¬ S k) : Bufs W w' L :=
  ⟨h.low.trans (hc.below h.low.size (fun k hk hs => by have := hS k hs; omega)), fun i v xs hi => (h.own i v xs hi).chg hc (hn i v xs hi), h.apart⟩
/-- A cell of a block of another element type is stored. -/
theorem Bufs.setCel (h : Bufs W w L) {g N : Nat} {t : TypeId} {f : Nat → Value} (hc : Cel w g t N f) (ht : 5 ≠ t) (hg : W.heap.size ≤ g) (o : Nat) (u : Value) : Bufs W (w.setCell ⟨g, o, none⟩ u) L :=
  h.chg (S := fun k => k = g) ((Chg.refl (fun k => k = g) w).setCell (a := ⟨g, o, none⟩) (.inl rfl) u) (fun k hk => by omega) (fun i v xs hi k hk hs => by subst hs; exact (h.own i v xs hi).ne_cel hc ht hk)
theorem Bufs.get (h : Bufs W w L) (i : Nat) {v : Value} {xs : List Int} (hi : L[i]? = some (v, xs)) : OwnS w W.heap.size 5 1 v xs.length (xs.map (Value.int .u8)) := h.own i v xs hi
/-- What an append to the i-th leaves. -/
theorem Bufs.grown (h : Bufs W w L) (i : Nat) {v v' : Value} {xs ys : List Int} (hi : L[i]? = some (v, xs)) (hg : w.grownBy w' v.ownBlock) (ho : OwnS w' W.heap.size 5 1 v' ys.length (ys.map (Value.int .u8)))
    (hw : v'.ownBlock = v.ownBlock ∨ ∃ k, v'.ownBlock = some k ∧ w.heap.size ≤ k) : Bufs W w' (L.set i (v', ys)) := by
  have hlt := (List.getElem?_eq_some_iff.1 hi).1
  have hchg : Chg (fun k => v.ownBlock = some k) w w' := Chg.of_grown hg (fun k hk => hk)
  refine ⟨h.low.trans (hchg.below h.low.size (fun k hk hs => by have := ((h.own i v xs hi).lt k hs).1; omega)), fun j u zs hj => ?_, fun j l u zs p qs hjl hj hl k hk => ?_⟩
  · rw [List.getElem?_set] at hj
    by_cases hij : i = j
    · rw [if_pos hij, if_pos hlt] at hj
      injection hj with hj
      injection hj with h1 h2
      subst h1; subst h2
      exact ho
    · rw [if_neg hij] at hj
      exact (h.own j u zs hj).chg hchg (fun k hk hs => h.apart i j v xs u zs hij hi hj k hs hk)
  · rw [List.getElem?_set] at hj hl
    have far : ∀ m q rs, i ≠ m → L[m]? = some (q, rs) → ∀ k, v'.ownBlock = some k → q.ownBlock ≠ some k := fun m q rs him hm k hk hq => by
      rcases hw with hw | ⟨g, hw, hgt⟩
      · rw [hw] at hk
        exact h.apart i m v xs q rs him hi hm k hk hq
      · rw [hw] at hk
        injection hk with hk
        have := ((h.own m q rs hm).lt k hq).2
        omega
    by_cases hij : i = j
    · rw [if_pos hij, if_pos hlt] at hj
      injection hj with hj
      injection hj with h1 h2
      subst h1; subst h2
      rw [if_neg (fun h => hjl (hij.symm.trans h))] at hl
      exact far l p qs (fun h => hjl (hij.symm.trans h)) hl k hk
    · rw [if_neg hij] at hj
      by_cases hil : i = l
      · rw [if_pos hil, if_pos hlt] at hl
        injection hl with hl
        injection hl with h1 h2
        subst h1; subst h2
        exact fun hp => far j u zs hij hj k hp hk
      · rw [if_neg hil] at hl
        exact h.apart j l u zs p qs hjl hj hl k hk
/-- What a call that appends leaves. -/
theorem Bufs.app (h : Bufs W w L) (i : Nat) {v : Value} {xs news : List Int} (hi : L[i]? = some (v, xs)) {e : Ending} (ha : AppPost w W.heap.size 5 v xs.length (xs.map (Value.int .u8)) (news.map (Value.int .u8)) e w') :
    ∃ A c, e = .returned (.slice A (xs ++ news).length c) ∧ Bufs W w' (L.set i (.slice A (xs ++ news).length c, xs ++ news)) ∧ w.grownBy w' v.ownBlock := by
  obtain ⟨A, c, rfl, ho, hg, hw⟩ := ha
  have hl : xs.length + (news.map (Value.int .u8)).length = (xs ++ news).length := by simp
  rw [hl, ← List.map_append] at ho
  rw [hl] at hw ⊢
  exact ⟨A, c, rfl, h.grown i hi hg ho hw, hg⟩
theorem Bufs.kept (h : Bufs W w L) (i : Nat) {v : Value} {xs : List Int} (hi : L[i]? = some (v, xs)) (hg : w.grownBy w' v.ownBlock) {g N : Nat} {t : TypeId} {f : Nat → Value} (hc : Cel w g t N f) (ht : 5 ≠ t) : Cel w' g t N f :=
  hc.chg (Chg.of_grown (S := fun k => v.ownBlock = some k) hg (fun _ h => h)) (fun hk => (h.own i v xs hi).ne_cel hc ht hk)
theorem Bufs.keptRow (h : Bufs W w L) (i : Nat) {v u : Value} {xs : List Int} (hi : L[i]? = some (v, xs)) (hg : w.grownBy w' v.ownBlock) {b sz n : Nat} {t : TypeId} {ys : List Value} (hr : OwnS w b t sz u n ys) (ht : 5 ≠ t) : OwnS w' b t sz u n ys :=
  hr.chg (Chg.of_grown (S := fun k => v.ownBlock = some k) hg (fun _ h => h)) (fun k hk hs => (h.own i v xs hi).ne_own hr ht k hs hk)
end
/-- Between two appends, one behind the other, to the i1-th and the i2-th row; K: what else is kept. -/
def IApp0 (W : World) (K : World → Prop) (L : List (Value × List Int)) (i1 : Nat) (y1 : List Int) (v : Value) (w : World) : Prop :=
  K w ∧ (∃ A c, v = .slice A y1.length c) ∧ Bufs W w (L.set i1 (v, y1))
def IAppB (W : World) (K : World → Prop) (L : List (Value × List Int)) (i1 i2 : Nat) (y1 y2 : List Int) (v u : Value) (w : World) : Prop :=
  K w ∧ (∃ A c, v = .slice A y1.length c) ∧ (∃ A c, u = .slice A y2.length c) ∧ Bufs W w ((L.set i1 (v, y1)).set i2 (u, y2))
/-- names = append(names, ..); crcs = append(crcs, ..), each to its own place. -/
def IApp2 (W : World) (K : World → Prop) (L : List (Value × List Int)) (i1 i2 : Nat) (y1 y2 : List Int) (w0 : World) : List Value → World → Prop
  | [], w => w = w0
  | [v], w => IApp0 W K L i1 y1 v w
  | [v, u], w => IAppB W K L i1 i2 y1 y2 v u w
  | [v, u, v'], w => IAppB W K L i1 i2 y1 y2 v u w ∧ v' = v
  | v :: u :: v' :: u' :: _, w => IAppB W K L i1 i2 y1 y2 v u w ∧ v' = v ∧ u' = u
/-- far = append(append(far, ..), ..). -/
def IApp3 (W : World) (K : World → Prop) (L : List (Value × List Int)) (i : Nat) (y1 y2 : List Int) (w0 : World) : List Value → World → Prop
  | [], w => w = w0
  | [v], w => IApp0 W K L i y1 v w
  | [v, u], w => IAppB W K L i i y1 y2 v u w
  | v :: u :: u' :: _, w => IAppB W K L i i y1 y2 v u w ∧ u' = u
/-- A number's cells and bytes do not lie in one block. -/
theorem Ints.ne_cel {w : World} {b o g N : Nat} {t : TypeId} {f : Nat → Value} {xs : List Int} (h : Ints .u8 w (some ⟨b, o, none⟩) xs) (hl : 0 < xs.length) (hc : Cel w g t N f) (hf : ∀ i, ∃ x, f i = .int .i64 x) : b ≠ g := by
  rintro rfl
  obtain ⟨b', o', hA, _, hcell⟩ := h hl
  injection hA with hA
  injection hA with h1 h2
  subst h1; subst h2
  have h0 := hcell 0 hl
  obtain ⟨cs, hh, hs, hcs⟩ := hc
  rw [cell_of_row w _ _ cs t (0, 0) hh] at h0
  have hlt := (Array.getElem?_eq_some_iff.1 h0).1
  obtain ⟨x, hx⟩ := hf (o + 0)
  rw [hcs (o + 0) (by omega), hx] at h0
  cases h0
end Go.Proofs.Ytndjebddgnmpfaa
