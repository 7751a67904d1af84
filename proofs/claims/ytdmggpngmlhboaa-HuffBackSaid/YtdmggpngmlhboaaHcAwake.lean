/- stemmalaw5.awake answers true. -/
import Derived.Test.YtdmggpngmlhboaaHcCost
namespace Go.Proofs.Ytdmggpngmlhboaa
open Go.RowKit

set_option maxRecDepth 100000 in
set_option maxHeartbeats 1000000 in
theorem awake5_any (w : World) : Calls Try.prog 12 #[] w fun e w' => e = .returned (.bool true) ∧ Below w.heap.size w w' := by
  go_enter Try.func12, Try.ntmps12
  go_wp2_with fail
  refine (codes_ok (some ⟨w.heap.size, 0, none⟩) 4 [2, 1, 3, 3] _ (Ints.of_new (cs := #[.int .i64 2, .int .i64 1, .int .i64 3, .int .i64 3]) (heap_alloc_new w _) rfl) (by decide) (by decide) (by decide)).mono ?_
  rintro e w1 ⟨rfl, hrow, hbel⟩
  have ec : codesL [2, 1, 3, 3] = [2, 0, 6, 7] := by decide
  rw [ec] at hrow
  clear ec
  have b1 := RowI.base hrow
  have c0 := RowI.cell hrow (j := 0) (by decide)
  have c2 := RowI.cell hrow (j := 2) (by decide)
  have c3 := RowI.cell hrow (j := 3) (by decide)
  have hz : w.heap.size + 1 < w1.heap.size := by have := b1.2; simp at this; omega
  simp at c0 c2 c3
  have hb1 : Below w.heap.size w w1 := ((Below.refl _ _).alloc (Nat.le_refl _) _).trans (hbel.mono (by simp))
  clear hrow hbel b1
  go_wp2_with fail
  refine (codes_form (some ⟨w1.heap.size, 0, none⟩) 3 [1, 1, 1] _ (Ints.of_new (cs := #[.int .i64 1, .int .i64 1, .int .i64 1]) (heap_alloc_new w1 _) rfl) (by decide) (by decide) (by decide)).mono ?_
  rintro e w2 ⟨rfl, rfl⟩
  go_wp2_with fail
  refine (complete_any (some ⟨w1.heap.size + 1, 0, none⟩) 2 [1, 1] _ (Ints.of_new (cs := #[.int .i64 1, .int .i64 1]) (heap_at _ _ _ (by simp)) rfl) (by decide)).mono ?_
  rintro e w2 ⟨rfl, rfl⟩
  have hcc : complete [1, 1] = true := by decide
  go_wp2_with fail
  refine (cost_any (some ⟨w1.heap.size + 1 + 1, 0, none⟩) (some ⟨w1.heap.size + 1 + 1 + 1, 0, none⟩) 3 3 [5, 1, 1] [1, 2, 2] _ (Ints.of_new (cs := #[.int .i64 5, .int .i64 1, .int .i64 1]) (heap_before _ _ _ _ (by simp) (heap_at _ _ _ (by simp))) rfl) (Ints.of_new (cs := #[.int .i64 1, .int .i64 2, .int .i64 2]) (heap_at _ _ _ (by simp)) rfl) (by decide) (by decide)).mono ?_
  rintro e w2 ⟨he, nq, rfl⟩
  have hct : costTo [5, 1, 1] [1, 2, 2] (min ([5, 1, 1] : List Int).length ([1, 2, 2] : List Int).length) = 9 := by decide +kernel
  rw [hct] at he
  subst he
  clear hct
  go_wp2_with fail
  go_ret
  refine ⟨rfl, ?_⟩
  repeat (first | exact hb1 | refine Below.drewN ?_ _ | refine Below.alloc ?_ (by first | omega | (simp; omega)) _)
end Go.Proofs.Ytdmggpngmlhboaa
