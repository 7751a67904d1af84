/- strings.ContainsAny and object.text at the bytes that a person's text may not have. -/
import Derived.Test.YtdlabapfcghfmaaDoorObE
import Derived.Shelf.Strings.SlTrimAscii
namespace Go.Proofs.YtdlabapfcghfmaaDoor
open Go.RowKit
set_option linter.unusedVariables false
set_option linter.unusedSimpArgs false

theorem indexAny_any (s : ByteArray) (w : World) (hs : s.size ≤ 140737488355328) :
    Calls Tryd.prog 69 #[.string s, .string ⟨#[60, 62, 10, 0]⟩] w (AnyPost s w) := by
  by_cases h : 8 < s.size
  · exact indexAny_long s w h hs
  · exact indexAny_short s w (by omega)
set_option maxRecDepth 100000 in
theorem containsAny_any (s : ByteArray) (w : World) (hs : s.size ≤ 140737488355328) :
    Calls Tryd.prog 53 #[.string s, .string ⟨#[60, 62, 10, 0]⟩] w fun e w' => e = .returned (.bool (Lib.containsAny s.data.toList badL)) ∧ Below w.heap.size w w' := by
  have H := Lib.hid (indexAny_any s w hs)
  unfold Lib.containsAny
  unfold AnyPost at H
  generalize Lib.indexAny s.data.toList badL = X at *
  go_enter Tryd.func53, Tryd.ntmps53
  go_wp2_with (go_at_call 69; refine H.out.mono ?_; rintro e w1 ⟨rfl, hb⟩)
  go_ret
  exact ⟨rfl, hb⟩
/-- A text of valid characters, none of them one of those. -/
def textB (l : List UInt8) : Bool := Lib.validD l && !Lib.containsAny l badL
set_option maxRecDepth 100000 in
theorem text_any (s : ByteArray) (w : World) (hE : EnvO w) (hs : s.size ≤ 140737488355328) :
    Calls Tryd.prog 37 #[.string s, .string ⟨#[60, 62, 10, 0]⟩] w fun e w' => e = .returned (.bool (textB s.data.toList)) ∧ Below w.heap.size w w' := by
  have hv := Any.utf8_ValidString Tryd.lays196 s w (by omega) hE.tabs
  have hv : Calls Tryd.prog 52 #[.string s] w fun e w' => e = .returned (.bool (Lib.validD s.data.toList)) ∧ Below w.heap.size w w' := hv
  have HC := Lib.hid (fun w => containsAny_any s w hs)
  unfold textB
  cases h1 : Lib.validD s.data.toList
  · rw [h1] at hv
    clear h1
    go_enter Tryd.func37, Tryd.ntmps37
    go_wp2_with (go_at_call 52; refine hv.mono ?_; rintro e w1 ⟨rfl, hb1⟩)
    go_ret
    exact ⟨rfl, hb1⟩
  · rw [h1] at hv
    clear h1
    generalize Lib.containsAny s.data.toList badL = X at *
    go_enter Tryd.func37, Tryd.ntmps37
    go_wp2_with (first
      | (go_at_call 53; have hx := hb1; refine (HC.out w1).mono ?_; rintro e w2 ⟨rfl, hb2⟩)
      | (go_at_call 52; refine hv.mono ?_; rintro e w1 ⟨rfl, hb1⟩))
    go_ret
    exact ⟨by simp, hb1.trans (hb2.mono hb1.size)⟩
theorem trim_any (s : ByteArray) (w : World) (hs : s.size ≤ 9223372036854775807) :
    Calls Tryd.prog 38 #[.string s, .string ⟨#[48, 49, 50, 51, 52, 53, 54, 55, 56, 57]⟩] w fun e w' => e = .returned (.string ⟨(Lib.trimS s.data.toList [48, 49, 50, 51, 52, 53, 54, 55, 56, 57]).toArray⟩) ∧ Below w.heap.size w w' :=
  Any.strings_Trim_laid Tryd.lays160 (by kernel_rfl) s ⟨#[48, 49, 50, 51, 52, 53, 54, 55, 56, 57]⟩ w hs (by decide) (fun j b hb => by
    have : j < 10 := by
      have := (List.getElem?_eq_some_iff.1 hb).1
      simpa using this
    have : b ∈ ([48, 49, 50, 51, 52, 53, 54, 55, 56, 57] : List UInt8) := List.mem_of_getElem? hb
    revert this
    generalize b = b
    intro hm
    simp only [List.mem_cons, List.not_mem_nil, or_false] at hm
    rcases hm with rfl | rfl | rfl | rfl | rfl | rfl | rfl | rfl | rfl | rfl <;> decide)
end Go.Proofs.YtdlabapfcghfmaaDoor
