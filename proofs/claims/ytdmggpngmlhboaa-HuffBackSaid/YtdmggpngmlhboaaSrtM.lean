/- A row of elements in memory: what a place holds, what a store and an exchange leave. No program's function is named here. -/
import Derived.Test.YtdmggpngmlhboaaChg
import Derived.Test.YtdmggpngmlhboaaSrtP
namespace Go.Proofs.Ytdmggpngmlhboaa
open Go.RowKit
set_option linter.unusedVariables false

/-- Cells laid one behind the other. -/
def putCells (w : World) (g : Nat) : Nat → List Value → World
  | _, [] => w
  | o, v :: vs => putCells (w.setCell ⟨g, o, none⟩ v) g (o + 1) vs
section
variable {α : Type} {w w' : World} {T : TypeId} {sz g off cap : Nat} {enc : α → List Value} {L : List α}
/-- A row of elements that lies in a block at a place. -/
structure SRow (w : World) (T : TypeId) (sz : Nat) (enc : α → List Value) (g off cap : Nat) (L : List α) : Prop where
  own : OwnS w 0 T sz (.slice (some ⟨g, off, none⟩) L.length cap) L.length (L.flatMap enc)
  enc : ∀ x, (enc x).length = sz
theorem flat_length (he : ∀ x, (enc x).length = sz) (L : List α) : (L.flatMap enc).length = L.length * sz := by
  induction L with
  | nil => simp
  | cons x L ih => rw [List.flatMap_cons, List.length_append, he, ih, List.length_cons, Nat.succ_mul]; omega
theorem flat_at (he : ∀ x, (enc x).length = sz) : ∀ (L : List α) (i c : Nat) (x : α), L[i]? = some x → c < sz → (L.flatMap enc)[i * sz + c]? = (enc x)[c]?
  | [], _, _, _, h, _ => by simp at h
  | y :: L, 0, c, x, h, hc => by
    simp at h
    subst h
    rw [List.flatMap_cons, Nat.zero_mul, Nat.zero_add, List.getElem?_append_left (by rw [he]; exact hc)]
  | y :: L, i + 1, c, x, h, hc => by
    rw [List.flatMap_cons, List.getElem?_append_right (by rw [he, Nat.succ_mul]; omega), he, show (i + 1) * sz + c - sz = i * sz + c by rw [Nat.succ_mul]; omega]
    exact flat_at he L i c x (by simpa using h) hc
theorem SRow.cell (h : SRow w T sz enc g off cap L) {i c : Nat} {x : α} (hi : L[i]? = some x) (hc : c < sz) : w.cell? ⟨g, off + i * sz + c, none⟩ = some ((enc x).getD c undef) := by
  have hlt : i < L.length := (List.getElem?_eq_some_iff.1 hi).1
  have hmul : i * sz + c < L.length * sz := by
    have h1 : (i + 1) * sz ≤ L.length * sz := Nat.mul_le_mul_right _ hlt
    rw [Nat.succ_mul] at h1
    omega
  have hfl := flat_length h.enc L
  obtain ⟨g', off', c', hv, _, _, hcell⟩ := h.own.cells (by rw [hfl]; omega)
  injection hv with hA
  injection hA with hA
  injection hA with h1 h2
  subst h1; subst h2
  rw [Nat.add_assoc, hcell _ (by rw [hfl]; exact hmul), flat_at h.enc L i c x hi hc, List.getD_eq_getElem?_getD, List.getElem?_eq_getElem (by rw [h.enc]; exact hc)]
  rfl
theorem SRow.blk (h : SRow w T sz enc g off cap L) : g < w.heap.size := (h.own.lt g rfl).2
theorem SRow.capLe (h : SRow w T sz enc g off cap L) : L.length ≤ cap ∧ cap ≤ maxLen := by
  rcases h.own.2 with ⟨hv, _⟩ | ⟨g', off', cap', cur, hv, _, _, hn, hm, _⟩
  · cases hv
  · injection hv with _ _ hc
    subst hc
    exact ⟨hn, hm⟩
theorem SRow.there (h : SRow w T sz enc g off cap L) : ∃ cur fr, w.heap[g]? = some (.cells cur T fr) ∧ (fr.2 ≤ fr.1 ∨ cur.size ≤ fr.1) ∧ off + cap * sz ≤ cur.size := by
  rcases h.own.2 with ⟨hv, _⟩ | ⟨g', off', cap', cur, hv, _, ⟨fr, hg, hf⟩, hn, hm, hs, _⟩
  · cases hv
  · injection hv with hA _ hc
    injection hA with hA
    injection hA with h1 h2
    subst h1; subst h2; subst hc
    exact ⟨cur, fr, hg, hf, hs⟩
theorem SRow.frozen (h : SRow w T sz enc g off cap L) {o : Nat} (ho : o < off + cap * sz) : w.frozen? ⟨g, o, none⟩ = false := by
  obtain ⟨cur, ⟨lo, hi⟩, hg, hf, hs⟩ := h.there
  simp only at hf
  simp only [World.frozen?, hg, Bool.and_eq_false_iff, decide_eq_false_iff_not]
  omega
theorem SRow.freeAt (h : SRow w T sz enc g off cap L) {i c : Nat} (hi : i < L.length) (hc : c < sz) : w.frozen? ⟨g, off + i * sz + c, none⟩ = false := by
  have h1 : (i + 1) * sz ≤ L.length * sz := Nat.mul_le_mul_right _ hi
  have h2 : L.length * sz ≤ cap * sz := Nat.mul_le_mul_right _ h.capLe.1
  rw [Nat.succ_mul] at h1
  exact h.frozen (by omega)
theorem SRow.of_chg (h : SRow w T sz enc g off cap L) {S : Nat → Prop} (hc : Chg S w w') (hn : ¬ S g) : SRow w' T sz enc g off cap L :=
  ⟨h.own.chg hc (fun k hk => by injection hk with hk; subst hk; exact hn), h.enc⟩
theorem SRow.below (h : SRow w T sz enc g off cap L) (hb : Below w.heap.size w w') : SRow w' T sz enc g off cap L := h.of_chg (S := fun _ => False) (Chg.of_below hb) (fun h => h)
theorem OwnS.setAt {base n j : Nat} {e : TypeId} {size : Nat} {xs : List Value} (h : OwnS w base e size (.slice (some ⟨g, off, none⟩) n cap) n xs) (hj : j < xs.length) (u : Value) :
    OwnS (w.setCell ⟨g, off + j, none⟩ u) base e size (.slice (some ⟨g, off, none⟩) n cap) n (xs.set j u) := by
  refine ⟨by rw [List.length_set]; exact h.1, ?_⟩
  rcases h.2 with ⟨hv, _⟩ | ⟨g', off', cap', cur, hv, hb, ⟨fr, hg, hf⟩, hn, hm, hs, ht⟩
  · cases hv
  · injection hv with hA _ hc
    injection hA with hA
    injection hA with h1 h2
    subst h1; subst h2; subst hc
    have hl := h.1
    have hmul : n * size ≤ cap * size := Nat.mul_le_mul_right _ hn
    refine .inr ⟨g, off, cap, cur.setIfInBounds (off + j) u, rfl, hb, ⟨fr, ?_, by rw [Array.size_setIfInBounds]; exact hf⟩, hn, hm, by rw [Array.size_setIfInBounds]; exact hs, ?_⟩
    · simp [World.setCell, Array.getElem?_modify, hg]
    · rw [Array.toList_setIfInBounds, ← ht]
      apply List.ext_getElem?
      intro i
      rw [List.getElem?_set, List.length_take, List.length_drop, Array.length_toList, List.getElem?_take, List.getElem?_take, List.getElem?_drop, List.getElem?_drop, List.getElem?_set, Array.length_toList]
      by_cases hij : j = i
      · subst hij
        rw [if_pos rfl, if_pos rfl, if_pos (by omega), if_pos (by omega), if_pos (by omega)]
      · rw [if_neg (show ¬ off + j = off + i by omega), if_neg hij]
theorem putCells_heap : ∀ (vs : List Value) (w : World) (o k : Nat), k ≠ g → (putCells w g o vs).heap[k]? = w.heap[k]?
  | [], _, _, _, _ => rfl
  | v :: vs, w, o, k, h => by rw [putCells, putCells_heap vs _ _ k h, Below.heap_setCell _ _ _ _ h]
theorem putCells_chg {S : Nat → Prop} (hg : S g) : ∀ (vs : List Value) (w : World) (o : Nat), Chg S w (putCells w g o vs)
  | [], w, _ => Chg.refl _ _
  | v :: vs, w, o => ((Chg.refl S w).setCell (a := ⟨g, o, none⟩) (.inl hg) v).trans (putCells_chg hg vs _ _) (fun _ _ h => h)
theorem OwnS.putAt {base n : Nat} {e : TypeId} {size : Nat} : ∀ (vs : List Value) (j : Nat) (xs : List Value) (w : World), OwnS w base e size (.slice (some ⟨g, off, none⟩) n cap) n xs → j + vs.length ≤ xs.length →
    OwnS (putCells w g (off + j) vs) base e size (.slice (some ⟨g, off, none⟩) n cap) n (xs.take j ++ vs ++ xs.drop (j + vs.length))
  | [], j, xs, w, h, hj => by
    have e : xs.take j ++ [] ++ xs.drop (j + ([] : List Value).length) = xs := by simp
    rw [e]; exact h
  | v :: vs, j, xs, w, h, hj => by
    simp only [List.length_cons] at hj
    have h1 := OwnS.putAt vs (j + 1) (xs.set j v) _ (h.setAt (by omega) v) (by rw [List.length_set]; omega)
    rw [putCells, Nat.add_assoc]
    have e : (xs.set j v).take (j + 1) ++ vs ++ (xs.set j v).drop (j + 1 + vs.length) = xs.take j ++ v :: vs ++ xs.drop (j + (v :: vs).length) := by
      rw [List.drop_set_of_lt (by omega), List.take_add_one, List.take_set_of_le (by omega), List.getElem?_set_self (by omega)]
      simp [Nat.add_assoc, Nat.add_comm 1]
    rwa [e] at h1
theorem flat_set (he : ∀ x, (enc x).length = sz) : ∀ (L : List α) (i : Nat) (x : α), i < L.length → (L.set i x).flatMap enc = (L.flatMap enc).take (i * sz) ++ enc x ++ (L.flatMap enc).drop (i * sz + (enc x).length)
  | [], _, _, h => by simp at h
  | y :: L, 0, x, h => by
    rw [List.set_cons_zero, List.flatMap_cons, List.flatMap_cons, Nat.zero_mul, List.take_zero, List.nil_append, Nat.zero_add, he, List.drop_left' (he y)]
  | y :: L, i + 1, x, h => by
    simp only [List.length_cons] at h
    have hy := he y
    have t1 : ∀ (F : List Value) (n : Nat), (enc y ++ F).take (n + sz) = enc y ++ F.take n := fun F n => by
      rw [List.take_append, List.take_of_length_le (show (enc y).length ≤ n + sz by omega), hy, Nat.add_sub_cancel]
    have d1 : ∀ (F : List Value) (n : Nat), (enc y ++ F).drop (n + sz) = F.drop n := fun F n => by
      rw [List.drop_append, List.drop_of_length_le (show (enc y).length ≤ n + sz by omega), hy, Nat.add_sub_cancel, List.nil_append]
    rw [List.set_cons_succ, List.flatMap_cons, List.flatMap_cons, flat_set he L i x (by omega), Nat.succ_mul, t1, show i * sz + sz + (enc x).length = i * sz + (enc x).length + sz by omega, d1]
    simp [List.append_assoc]
theorem SRow.put (h : SRow w T sz enc g off cap L) {i : Nat} (hi : i < L.length) (x : α) : SRow (putCells w g (off + i * sz) (enc x)) T sz enc g off cap (L.set i x) := by
  have h1 : (i + 1) * sz ≤ L.length * sz := Nat.mul_le_mul_right _ hi
  rw [Nat.succ_mul] at h1
  refine ⟨?_, h.enc⟩
  have := OwnS.putAt (enc x) (i * sz) _ _ h.own (by rw [flat_length h.enc, h.enc]; exact h1)
  rw [← flat_set h.enc L i x hi] at this
  rw [List.length_set]
  exact this
/-- Two places exchanged. -/
theorem set_set (p q s : List α) (x y : α) : ((p ++ x :: q ++ y :: s).set p.length y).set (p.length + 1 + q.length) x = p ++ y :: q ++ x :: s := by
  rw [List.append_assoc, List.set_append_right _ _ (Nat.le_refl _), Nat.sub_self]
  simp only [List.cons_append, List.set_cons_zero]
  rw [List.set_append_right _ _ (by omega), show p.length + 1 + q.length - p.length = q.length + 1 by omega, List.set_cons_succ, List.set_append_right _ _ (Nat.le_refl _), Nat.sub_self]
  simp
theorem set_set' (p q s : List α) (x y : α) : ((p ++ x :: q ++ y :: s).set (p.length + 1 + q.length) x).set p.length y = p ++ y :: q ++ x :: s := by
  rw [List.set_comm _ _ (by omega)]
  exact set_set p q s x y
theorem at_1 (p q s : List α) (x y : α) : (p ++ x :: q ++ y :: s)[p.length]? = some x := by
  rw [List.append_assoc, List.getElem?_append_right (Nat.le_refl _), Nat.sub_self]; rfl
theorem at_2 (p q s : List α) (x y : α) : (p ++ x :: q ++ y :: s)[p.length + 1 + q.length]? = some y := by
  rw [List.append_assoc, List.getElem?_append_right (by omega), show p.length + 1 + q.length - p.length = q.length + 1 by omega, List.cons_append, List.getElem?_cons_succ, List.getElem?_append_right (Nat.le_refl _), Nat.sub_self]; rfl
end
end Go.Proofs.Ytdmggpngmlhboaa
