/- FsOrder: rows that are made and filled; numbers. -/
import Derived.Test.YtmoaabjiokjjlaaFsS
import Derived.Test.YtmoaabjiokjjlaaFsOrderP
import Derived.Laws.MakeOwn
namespace Go.Proofs.Ytmoaabjiokjjlaa
open Go.RowKit Go.Maps
set_option linter.unusedVariables false
set_option linter.unusedSimpArgs false

theorem and15o (n : Int) : ∃ N : Nat, bits .and .i64 n 15 = (N : Int) ∧ N < 16 := by
  have h127 : (BitVec.ofInt 64 15).toNat = 2 ^ 4 - 1 := by decide
  have key : (BitVec.ofInt 64 n &&& BitVec.ofInt 64 15).toNat = (n % ((2 ^ 64 : Nat) : Int)).toNat % 2 ^ 4 := by
    rw [BitVec.toNat_and, BitVec.toNat_ofInt, h127, Nat.and_two_pow_sub_one_eq_mod]
  refine ⟨(n % ((2 ^ 64 : Nat) : Int)).toNat % 2 ^ 4, ?_, by omega⟩
  show IntKind.i64.wrap ((BitVec.ofInt 64 n &&& BitVec.ofInt 64 15).toNat : Nat) = _
  rw [key, IntWalk.i64_in _ (by omega)]
theorem and255o (n : Int) : ∃ N : Nat, bits .and .i64 n 255 = (N : Int) ∧ N < 256 := by
  have h127 : (BitVec.ofInt 64 255).toNat = 2 ^ 8 - 1 := by decide
  have key : (BitVec.ofInt 64 n &&& BitVec.ofInt 64 255).toNat = (n % ((2 ^ 64 : Nat) : Int)).toNat % 2 ^ 8 := by
    rw [BitVec.toNat_and, BitVec.toNat_ofInt, h127, Nat.and_two_pow_sub_one_eq_mod]
  refine ⟨(n % ((2 ^ 64 : Nat) : Int)).toNat % 2 ^ 8, ?_, by omega⟩
  show IntKind.i64.wrap ((BitVec.ofInt 64 n &&& BitVec.ofInt 64 255).toNat : Nat) = _
  rw [key, IntWalk.i64_in _ (by omega)]
def szO (xs : List Int) (i : Nat) : Nat := match xs[i]? with | none => 5 | some x => (bits .and .i64 x 255).toNat
theorem szO_some {xs : List Int} {i : Nat} {x : Int} (h : xs[i]? = some x) : bits .and .i64 x 255 = (szO xs i : Int) := by
  obtain ⟨N, hN, _⟩ := and255o x
  unfold szO
  rw [h]
  show _ = (((bits .and .i64 x 255).toNat : Nat) : Int)
  rw [hN]
  rfl
theorem szO_none {xs : List Int} {i : Nat} (h : xs.length ≤ i) : szO xs i = 5 := by unfold szO; rw [List.getElem?_eq_none h]
theorem szO_le (xs : List Int) (i : Nat) : szO xs i ≤ 255 := by
  unfold szO
  split
  · omega
  · next x _ =>
    obtain ⟨N, hN, hb⟩ := and255o x
    rw [hN]
    omega
def flB (i z : Nat) : List Int := (List.range z).map fun (t : Nat) => IntKind.u8.wrap ((i : Int) + (t : Int))
theorem flB_len (i z : Nat) : (flB i z).length = z := by simp [flB]
def fO (xs : List Int) (i : Nat) : List Int := flB i (szO xs i)
theorem fO_len (xs : List Int) (i : Nat) : (fO xs i).length = szO xs i := flB_len _ _
def fillO (i z k : Nat) : List Int := flB i k ++ List.replicate (z - k) 0
theorem fillO_len {i z k : Nat} (h : k ≤ z) : (fillO i z k).length = z := by simp [fillO, flB_len]; omega
theorem fillO_zero (i z : Nat) : fillO i z 0 = List.replicate z 0 := by simp [fillO, flB]
theorem fillO_all (i z : Nat) : fillO i z z = flB i z := by simp [fillO]
theorem fillO_set {i z k : Nat} (h : k < z) : (fillO i z k).set k (IntKind.u8.wrap ((i : Int) + (k : Int))) = fillO i z (k + 1) := by
  unfold fillO
  rw [show z - k = (z - (k + 1)) + 1 by omega, List.replicate_succ, List.set_append_right _ _ (by rw [flB_len]; exact Nat.le_refl _), flB_len, Nat.sub_self, List.set_cons_zero]
  simp [flB, List.range_succ]
theorem made_zero (n : Nat) : (madeCells #[.int .u8 0] n).toList = List.replicate n (Value.int .u8 0) := by
  apply List.ext_getElem
  · simp [madeCells]
  · intro i h1 h2
    simp [madeCells, Nat.mod_one]
theorem makeO (w : World) (z : Nat) (hz : z ≤ 255) : (Instr.makeSlice 27 (.int .i64 (z : Int)) (.int .i64 (z : Int))).run Try.prog w = .ok (.slice (some ⟨w.heap.size, 0, none⟩) z z) (w.alloc (.cells (madeCells #[.int .u8 0] z) 5)) := by
  obtain ⟨i0, hi, hz0, hz1, hz2⟩ := info_parts info_u8'
  have hr := run_make (P := Try.prog) w 27 5 i0 (.int .u8 0) Try.underlying27 hi hz0 .i64 .i64 (z : Int) (z : Int) (by omega) (by omega) (by rw [hz2]; omega) (by omega)
  rw [hz1, Nat.mul_one] at hr
  exact hr
theorem ownsO (w : World) (z : Nat) (hz : z ≤ 255) (i b : Nat) (hb : b ≤ w.heap.size) : OwnS (w.alloc (.cells (madeCells #[.int .u8 0] z) 5)) b 5 1 (.slice (some ⟨w.heap.size, 0, none⟩) z z) z ((fillO i z 0).map (Value.int .u8)) := by
  rw [fillO_zero]
  refine ⟨by simp, .inr ⟨w.heap.size, 0, z, _, rfl, hb, ⟨_, heap_alloc_new w _, .inl (Nat.le_refl _)⟩, Nat.le_refl _, by unfold maxLen; omega, by rw [size_madeCells]; omega, ?_⟩⟩
  rw [made_zero]
  simp
theorem OwnS.setAt {w : World} {g off cap base n j : Nat} {e : TypeId} {size : Nat} {xs : List Value} (h : OwnS w base e size (.slice (some ⟨g, off, none⟩) n cap) n xs) (hj : j < xs.length) (u : Value) :
    OwnS (w.setCell ⟨g, off + j, none⟩ u) base e size (.slice (some ⟨g, off, none⟩) n cap) n (xs.set j u) := by
  refine ⟨by rw [List.length_set]; exact h.1, ?_⟩
  rcases h.2 with ⟨hv, _⟩ | ⟨g', off', cap', cur, hv, hb, ⟨fr, hg, hf⟩, hn, hm, hs, ht⟩
  · cases hv
  · injection hv with hA _ hc
    injection hA with hA
    injection hA with h1 h2
    subst h1; subst h2; subst hc
    have hl := h.1
    have hmul : n * size ≤ cap * size := Nat.mul_le_mul_right _ hn
    refine .inr ⟨g, off, cap, cur.setIfInBounds (off + j) u, rfl, hb, ⟨fr, ?_, by rw [Array.size_setIfInBounds]; exact hf⟩, hn, hm, by rw [Array.size_setIfInBounds]; exact hs, ?_⟩
    · simp [World.setCell, Array.getElem?_modify, hg]
    · rw [Array.toList_setIfInBounds, ← ht]
      apply List.ext_getElem?
      intro i
      rw [List.getElem?_set, List.length_take, List.length_drop, Array.length_toList, List.getElem?_take, List.getElem?_take, List.getElem?_drop, List.getElem?_drop, List.getElem?_set, Array.length_toList]
      by_cases hij : j = i
      · subst hij
        rw [if_pos rfl, if_pos rfl, if_pos (by omega), if_pos (by omega), if_pos (by omega)]
      · rw [if_neg (show ¬ off + j = off + i by omega), if_neg hij]
theorem OwnS.free {w : World} {b g off n c sz j : Nat} {e : TypeId} {xs : List Value} (h : OwnS w b e sz (.slice (some ⟨g, off, none⟩) n c) n xs) (hj : j < xs.length) : w.frozen? ⟨g, off + j, none⟩ = false ∧ ∃ v, w.cell? ⟨g, off + j, none⟩ = some v := by
  refine ⟨?_, ?_⟩
  · rcases h.2 with ⟨hv, _⟩ | ⟨g', off', cap', cur, hv, _, ⟨⟨lo, hi⟩, hg, hf⟩, hn, hm, hs, ht⟩
    · cases hv
    · injection hv with hA _ hc
      injection hA with hA
      injection hA with h1 h2
      subst h1; subst h2; subst hc
      have hl := h.1
      have hmul : n * sz ≤ c * sz := Nat.mul_le_mul_right _ hn
      simp only at hf
      simp only [World.frozen?, hg, Bool.and_eq_false_iff, decide_eq_false_iff_not]
      omega
  · obtain ⟨g', off', c', hv, _, _, hc⟩ := h.cells (by omega)
    injection hv with hA
    injection hA with hA
    injection hA with h1 h2
    subst h1; subst h2
    exact ⟨_, (hc j hj).trans (List.getElem?_eq_getElem hj)⟩
def nameO (j : Nat) : ByteArray := ⟨#[102]⟩ ++ strOfNums [97 + (j : Int)]
theorem nameO_list : ∀ j, j < 16 → (nameO j).data.toList = nmO j := by decide
theorem nameO_size : ∀ j, j < 16 → (nameO j).size ≤ 9223372036854775807 := by decide
theorem nameO_one : ∀ j : Nat, j < 16 → (strOfNums [97 + (j : Int)]).size = 1 := by decide
theorem w16o : ∀ j : Nat, j < 16 → IntKind.u8.wrap (j : Int) = (j : Int) := by decide
theorem w16p : ∀ j : Nat, j < 16 → IntKind.u8.wrap (97 + (j : Int)) = 97 + (j : Int) := by decide
theorem keepO_some {D : List Int} {f : Nat → List Int} {i : Nat} {d : Int} (h : D[i]? = some d) : keepO D f i = (min (max d 0) ((f i).length : Int)).toNat := by
  unfold keepO keepF
  rw [h]
  simp
theorem keepO_none {D : List Int} {f : Nat → List Int} {i : Nat} (h : D.length ≤ i) : keepO D f i = 0 := by
  unfold keepO keepF
  rw [List.getElem?_eq_none h]
theorem keepO_le (D : List Int) (f : Nat → List Int) (i : Nat) : keepO D f i ≤ (f i).length := by
  unfold keepO keepF
  split
  · omega
  · show (min (max _ 0) (((f i).length : Int) - ((0 : Nat) : Int))).toNat ≤ _
    omega
theorem flB_at {i z k : Nat} (h : k < z) : (flB i z)[k]? = some (IntKind.u8.wrap ((i : Int) + (k : Int))) := by
  unfold flB
  rw [List.getElem?_map, List.getElem?_range h]
  rfl
theorem nameO_bk (j : Nat) (h : j < 16) : bkN (nmO j) = nameO j := by rw [← nameO_list j h, bkN_of]
def IName (W0 : World) (i : Nat) : List Value → World → Prop
  | [], W => Below W0.heap.size W0 W
  | v :: _, W => Below W0.heap.size W0 W ∧ ∃ A, v = .slice A 1 1 ∧ Ints .u8 W A [97 + (i : Int)]
theorem IName.below {W0 W : World} {i : Nat} {l : List Value} (h : IName W0 i l W) : Below W0.heap.size W0 W := by
  cases l with
  | nil => exact h
  | cons _ _ => exact h.1
theorem IName.cell {W0 W : World} {i g o : Nat} {l : List Value} {v : Value} (h : IName W0 i l W) (hg : g < W0.heap.size) (hc : W0.cell? ⟨g, o, none⟩ = some v) : W.cell? ⟨g, o, none⟩ = some v := (Below.cell (p := ⟨g, o, none⟩) h.below hg).trans hc
theorem ints_newO (w : World) (z : Int) : Ints .u8 (w.alloc (.cells #[.int .u8 z] 5)) (some ⟨w.heap.size, 0, none⟩) [z] :=
  Ints.of_new (t := 5) (fz := (0, 0)) (cs := #[.int .u8 z]) (heap_alloc_new w _) rfl
theorem IName.new {W0 W : World} {i : Nat} (h : IName W0 i [] W) : IName W0 i ([] ++ [.slice (some ⟨W.heap.size, 0, none⟩) 1 1]) (W.alloc (.cells #[.int .u8 (97 + (i : Int))] 5)) :=
  ⟨Below.trans h (((Below.refl _ _).alloc (Nat.le_refl _) _).mono h.size), _, rfl, ints_newO W _⟩
end Go.Proofs.Ytmoaabjiokjjlaa
