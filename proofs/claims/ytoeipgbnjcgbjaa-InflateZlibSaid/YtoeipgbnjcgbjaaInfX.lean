/- stemmalaw6.awake answers true. -/
import Derived.Test.YtoeipgbnjcgbjaaInfL
namespace Go.Proofs.Ytoeipgbnjcgbjaa
open Go.RowKit
set_option linter.unusedVariables false

def aw1 : List Int := [1, 2, 0, 253, 255, 97, 98]
def aw2 : List Int := [7]
def aw3 : List Int := [120, 1, 1, 0, 0, 255, 255, 0, 0, 0, 1]
theorem aw1_val : infM 200 aw1 10 = (0, 7, [97, 98]) := by kernel_rfl
theorem aw2_val : infM 200 aw2 10 = (3, 0, []) := by kernel_rfl
theorem aw3_val : zlibM 200 aw3 10 = (0, 11, []) := by kernel_rfl
theorem bytes_all (l : List Int) (h : (l.all fun x => decide (0 ≤ x) && decide (x < 256)) = true) : Bytes l := fun x hx => by
  have := List.all_eq_true.1 h x hx
  simpa using this
theorem aw1_raw (w : World) (g : Nat) (h : Ints .u8 w (some ⟨g, 0, none⟩) aw1) : Calls Try.prog 43 #[.slice (some ⟨g, 0, none⟩) 7 7, .int .i64 10] w (fun e w' => Below w.heap.size w w' ∧ ∃ v, e = .returned (.tuple #[v, .int .i64 7, .int .i64 0]) ∧ OwnS w' w.heap.size 5 1 v 2 ([97, 98].map (Value.int .u8))) := by
  have h1 := iRaw_any (some ⟨g, 0, none⟩) 7 200 aw1 10 10 w h (bytes_all _ (by decide)) (by decide) (by decide) (by decide) (by decide) (by decide)
  rw [aw1_val] at h1
  refine Calls.mono h1 ?_
  rintro e w1 ⟨hb, _, hg⟩
  obtain ⟨⟨v, rfl, ho⟩, _⟩ := hg rfl
  exact ⟨hb, v, rfl, ho⟩
theorem aw2_raw (w : World) (g : Nat) (h : Ints .u8 w (some ⟨g, 0, none⟩) aw2) : Calls Try.prog 43 #[.slice (some ⟨g, 0, none⟩) 1 1, .int .i64 10] w (fun e w' => Below w.heap.size w w' ∧ e = .returned (.tuple #[.slice none 0 0, .int .i64 0, .int .i64 3])) := by
  have h1 := iRaw_any (some ⟨g, 0, none⟩) 1 200 aw2 10 10 w h (bytes_all _ (by decide)) (by decide) (by decide) (by decide) (by decide) (by decide)
  rw [aw2_val] at h1
  refine Calls.mono h1 ?_
  rintro e w1 ⟨hb, hn, _⟩
  exact ⟨hb, hn (by decide)⟩
theorem aw3_zlib (w : World) (g : Nat) (h : Ints .u8 w (some ⟨g, 0, none⟩) aw3) : Calls Try.prog 45 #[.slice (some ⟨g, 0, none⟩) 11 11, .int .i64 10] w (fun e w' => Below w.heap.size w w' ∧ ∃ v, e = .returned (.tuple #[v, .int .i64 11, .int .i64 0])) := by
  have h1 := iZlib_any (some ⟨g, 0, none⟩) 11 200 aw3 10 10 w h (bytes_all _ (by decide)) (by decide) (by decide) (by decide) (by decide) (by decide) (by decide)
  rw [aw3_val] at h1
  refine Calls.mono h1 ?_
  rintro e w1 ⟨hb, _, hg⟩
  obtain ⟨⟨v, rfl, ho⟩, _⟩ := hg rfl
  exact ⟨hb, v, rfl⟩
set_option maxRecDepth 100000 in
set_option maxHeartbeats 4000000 in
theorem awake6_any (w : World) : Calls Try.prog 40 #[] w fun e w' => e = .returned (.bool true) ∧ Below w.heap.size w w' := by
  go_enter Try.func40, Try.ntmps40
  go_wp2_with fail
  refine (aw1_raw _ w.heap.size (Ints.of_new (heap_alloc_new w _) rfl)).mono ?_
  rintro e w1 ⟨hB1, v1, rfl, ho1⟩
  obtain ⟨A1, c1, rfl⟩ := ho1.shape
  have HB1 := Lib.hid (((Below.refl _ w).alloc (Nat.le_refl _) _).trans (hB1.mono (by simp)))
  have HO1 := Lib.hid (ho1.ints (xs := [97, 98]))
  clear hB1 ho1
  go_wp2_with fail
  refine (aw2_raw _ w1.heap.size (Ints.of_new (heap_alloc_new w1 _) rfl)).mono ?_
  rintro e w2 ⟨hB2, rfl⟩
  have hB12 := ((Below.refl _ w1).alloc (Nat.le_refl _) _).trans (hB2.mono (by simp))
  have HO2 := Lib.hid (HO1.out.below hB12)
  have HB2 := Lib.hid (HB1.out.trans (hB12.mono HB1.out.size))
  clear hB2 hB12 HO1 HB1
  go_wp2_with fail
  refine (aw3_zlib _ w2.heap.size (Ints.of_new (heap_alloc_new w2 _) rfl)).mono ?_
  rintro e w3 ⟨hB3, v3, rfl⟩
  have hB23 := ((Below.refl _ w2).alloc (Nat.le_refl _) _).trans (hB3.mono (by simp))
  have HO3 := Lib.hid (HO2.out.below hB23)
  have HB3 := Lib.hid (HB2.out.trans (hB23.mono HB2.out.size))
  clear hB3 hB23 HO2 HB2
  have hr : (convert 22 9 (.slice A1 2 c1)).run Try.prog w3 = .ok (.string ⟨#[97, 98]⟩) w3 := run_str_ints 22 9 5 Try.underlying22 Try.underlying5 Try.underlying9 A1 c1 [97, 98] HO3.out
  go_wp2
  go_ret
  exact ⟨rfl, HB3.out⟩
end Go.Proofs.Ytoeipgbnjcgbjaa
