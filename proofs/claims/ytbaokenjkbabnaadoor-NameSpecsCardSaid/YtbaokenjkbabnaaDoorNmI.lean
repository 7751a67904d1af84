/- awake of the statements of layer 14. -/
import Derived.Test.YtbaokenjkbabnaaDoorNmH
namespace Go.Proofs.YtbaokenjkbabnaaDoor
open Go.RowKit
set_option linter.unusedVariables false

def awP : Sp := ⟨true, [114, 101, 102, 115, 47, 104, 101, 97, 100, 115, 47, 42], [114, 101, 102, 115, 47, 114, 101, 109, 111, 116, 101, 115, 47, 111, 47, 42]⟩
theorem aw_parse : parseL [43, 114, 101, 102, 115, 47, 104, 101, 97, 100, 115, 47, 42, 58, 114, 101, 102, 115, 47, 114, 101, 109, 111, 116, 101, 115, 47, 111, 47, 42] = some awP := by kernel_rfl
theorem aw_map : mapL awP [114, 101, 102, 115, 47, 104, 101, 97, 100, 115, 47, 120, 47, 121] = some [114, 101, 102, 115, 47, 114, 101, 109, 111, 116, 101, 115, 47, 111, 47, 120, 47, 121] := by kernel_rfl
theorem aw_v1 : validN [114, 101, 102, 115, 47, 104, 101, 97, 100, 115, 47, 97] = true := by kernel_rfl
theorem aw_v2 : validN [114, 101, 102, 115, 47, 104, 101, 97, 100, 115, 47, 46, 97] = false := by kernel_rfl
theorem aw_un : underL [114, 101, 102, 115, 47, 97] [114, 101, 102, 115, 47, 97, 47, 98] = true := by kernel_rfl
theorem aw_good : Good awP := ⟨by decide, by decide, by decide, by decide, by decide⟩
set_option maxRecDepth 100000 in
set_option maxHeartbeats 2000000 in
theorem awake14_any (w : World) (hE : Env w) : Calls Tryd.prog 9 #[] w fun e w' => e = .returned (.bool true) ∧ Below w.heap.size w w' := by
  have hp := parse_any ⟨#[43, 114, 101, 102, 115, 47, 104, 101, 97, 100, 115, 47, 42, 58, 114, 101, 102, 115, 47, 114, 101, 109, 111, 116, 101, 115, 47, 111, 47, 42]⟩ w hE (by decide)
  have hp : Calls Tryd.prog 8 #[.string ⟨#[43, 114, 101, 102, 115, 47, 104, 101, 97, 100, 115, 47, 42, 58, 114, 101, 102, 115, 47, 114, 101, 109, 111, 116, 101, 115, 47, 111, 47, 42]⟩] w fun e w' => e = .returned (.tuple #[spV awP, .int .i64 0]) ∧ Below w.heap.size w w' := by
    rw [show parseL (⟨#[43, 114, 101, 102, 115, 47, 104, 101, 97, 100, 115, 47, 42, 58, 114, 101, 102, 115, 47, 114, 101, 109, 111, 116, 101, 115, 47, 111, 47, 42]⟩ : ByteArray).data.toList = some awP from aw_parse] at hp
    exact hp
  have hm : ∀ w', Below w.heap.size w w' → Calls Tryd.prog 10 #[spV awP, .string ⟨#[114, 101, 102, 115, 47, 104, 101, 97, 100, 115, 47, 120, 47, 121]⟩] w' fun e w'' => e = .returned (.tuple #[.string ⟨#[114, 101, 102, 115, 47, 114, 101, 109, 111, 116, 101, 115, 47, 111, 47, 120, 47, 121]⟩, .bool true]) ∧ Below w'.heap.size w' w'' := fun w' hb => by
    have := map_any awP ⟨#[114, 101, 102, 115, 47, 104, 101, 97, 100, 115, 47, 120, 47, 121]⟩ w' (hE.below hb) aw_good (by decide)
    rw [show mapL awP (⟨#[114, 101, 102, 115, 47, 104, 101, 97, 100, 115, 47, 120, 47, 121]⟩ : ByteArray).data.toList = some [114, 101, 102, 115, 47, 114, 101, 109, 111, 116, 101, 115, 47, 111, 47, 120, 47, 121] from aw_map] at this
    exact this
  have hv1 : ∀ w', Below w.heap.size w w' → Calls Tryd.prog 11 #[.string ⟨#[114, 101, 102, 115, 47, 104, 101, 97, 100, 115, 47, 97]⟩] w' fun e w'' => e = .returned (.bool true) ∧ Below w'.heap.size w' w'' := fun w' hb =>
    (valid_any ⟨#[114, 101, 102, 115, 47, 104, 101, 97, 100, 115, 47, 97]⟩ w' (hE.below hb) (by decide)).mono fun e w'' h => ⟨h.1.trans (by rw [show validN (⟨#[114, 101, 102, 115, 47, 104, 101, 97, 100, 115, 47, 97]⟩ : ByteArray).data.toList = true from aw_v1]), h.2⟩
  have hv2 : ∀ w', Below w.heap.size w w' → Calls Tryd.prog 11 #[.string ⟨#[114, 101, 102, 115, 47, 104, 101, 97, 100, 115, 47, 46, 97]⟩] w' fun e w'' => e = .returned (.bool false) ∧ Below w'.heap.size w' w'' := fun w' hb =>
    (valid_any ⟨#[114, 101, 102, 115, 47, 104, 101, 97, 100, 115, 47, 46, 97]⟩ w' (hE.below hb) (by decide)).mono fun e w'' h => ⟨h.1.trans (by rw [show validN (⟨#[114, 101, 102, 115, 47, 104, 101, 97, 100, 115, 47, 46, 97]⟩ : ByteArray).data.toList = false from aw_v2]), h.2⟩
  have hun : ∀ w', Calls Tryd.prog 13 #[.string ⟨#[114, 101, 102, 115, 47, 97]⟩, .string ⟨#[114, 101, 102, 115, 47, 97, 47, 98]⟩] w' fun e w'' => e = .returned (.bool true) ∧ w' = w'' := fun w' =>
    (under_any ⟨#[114, 101, 102, 115, 47, 97]⟩ ⟨#[114, 101, 102, 115, 47, 97, 47, 98]⟩ w' (by decide)).mono fun e w'' h => ⟨h.1.trans (by rw [show underL (⟨#[114, 101, 102, 115, 47, 97]⟩ : ByteArray).data.toList (⟨#[114, 101, 102, 115, 47, 97, 47, 98]⟩ : ByteArray).data.toList = true from aw_un]), h.2⟩
  have HM := Lib.hid hm
  have HV1 := Lib.hid hv1
  have HV2 := Lib.hid hv2
  have HUN := Lib.hid hun
  clear hm hv1 hv2 hun hE
  have hp : Calls Tryd.prog 8 #[.string ⟨#[43, 114, 101, 102, 115, 47, 104, 101, 97, 100, 115, 47, 42, 58, 114, 101, 102, 115, 47, 114, 101, 109, 111, 116, 101, 115, 47, 111, 47, 42]⟩] w fun e w' => e = .returned (.tuple #[.agg #[.bool true, .string (mk awP.src), .string (mk awP.dst)], .int .i64 0]) ∧ Below w.heap.size w w' := hp
  have HM : Hid (∀ w', Below w.heap.size w w' → Calls Tryd.prog 10 #[.agg #[.bool true, .string (mk awP.src), .string (mk awP.dst)], .string ⟨#[114, 101, 102, 115, 47, 104, 101, 97, 100, 115, 47, 120, 47, 121]⟩] w' fun e w'' => e = .returned (.tuple #[.string ⟨#[114, 101, 102, 115, 47, 114, 101, 109, 111, 116, 101, 115, 47, 111, 47, 120, 47, 121]⟩, .bool true]) ∧ Below w'.heap.size w' w'') := HM
  generalize mk awP.src = S1 at hp HM
  generalize mk awP.dst = D1 at hp HM
  go_enter Tryd.func9, Tryd.ntmps9
  go_wp2_with fail
  refine hp.mono ?_
  rintro e w1 ⟨rfl, hb1⟩
  go_wp2_with fail
  have hB : Below w.heap.size w (w1.alloc (.cells #[.bool true, .string S1, .string D1] 25)) := hb1.alloc hb1.size _
  have hP := cel_new3 w1 25 (.bool true) (.string S1) (.string D1)
  refine (HM.out _ hB).mono ?_
  rintro e w2 ⟨rfl, hb2⟩
  have hP := hP.below hb2 hP.blk
  have hB := hB.trans (hb2.mono hB.size)
  obtain ⟨k0, k1, k2⟩ := cel3 hP
  clear hp hb1 hb2
  go_wp2_with fail
  refine (HV1.out _ hB).mono ?_
  rintro e w3 ⟨rfl, hb3⟩
  have hB := hB.trans (hb3.mono hB.size)
  clear hb3 k0 k1 k2 hP
  go_wp2_with fail
  refine (HV2.out _ hB).mono ?_
  rintro e w4 ⟨rfl, hb4⟩
  have hB := hB.trans (hb4.mono hB.size)
  clear hb4
  go_wp2_with fail
  refine (HUN.out _).mono ?_
  rintro e w5 ⟨rfl, rfl⟩
  go_wp2
  go_ret
  exact ⟨rfl, hB⟩
end Go.Proofs.YtbaokenjkbabnaaDoor
