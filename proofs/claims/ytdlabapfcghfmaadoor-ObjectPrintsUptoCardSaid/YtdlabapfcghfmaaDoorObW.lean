/- What the statements of layer 8 are awake by. -/
import Derived.Test.YtdlabapfcghfmaaDoorObG
import Derived.Test.YtdlabapfcghfmaaDoorObT
import Derived.Test.YtdlabapfcghfmaaDoorObU
namespace Go.Proofs.YtdlabapfcghfmaaDoor
open Go.RowKit
set_option linter.unusedVariables false
set_option linter.unusedSimpArgs false

theorem awk_kind : kindN ⟨#[116, 114, 101, 101]⟩ = 2 := by
  refine kindN_at _ 2 (by decide) (by decide) (fun j h1 h2 => ?_) (by kernel_rfl)
  obtain rfl : j = 1 := by omega
  kernel_rfl
theorem awk_head : (strOfNums (headL 4 7)).toList = [116, 97, 103, 32, 55, 0] := by
  unfold headL
  rw [digL_small (by decide)]
  kernel_rfl
theorem awk_blob : (oidS 3 []).toList = [101, 54, 57, 100, 101, 50, 57, 98, 98, 50, 100, 49, 100, 54, 52, 51, 52, 98, 56, 98, 50, 57, 97, 101, 55, 55, 53, 97, 100, 56, 99, 50, 101, 52, 56, 99, 53, 51, 57, 49] := by
  unfold oidS
  rw [show ((3 : Int)) = 3 from rfl, show ([] : List Int).length = 0 from rfl, bl_id]
  kernel_rfl
theorem awk_tree : (oidS 2 []).toList = [52, 98, 56, 50, 53, 100, 99, 54, 52, 50, 99, 98, 54, 101, 98, 57, 97, 48, 54, 48, 101, 53, 52, 98, 102, 56, 100, 54, 57, 50, 56, 56, 102, 98, 101, 101, 52, 57, 48, 52] := by
  unfold oidS
  rw [show ([] : List Int).length = 0 from rfl, tr_id]
  kernel_rfl
set_option maxRecDepth 100000 in
set_option maxHeartbeats 4000000 in
theorem awake8_any (w : World) (hE : EnvO w) : Calls Tryd.prog 8 #[] w fun e w' => e = .returned (.bool true) ∧ Below w.heap.size w w' := by
  have HE := Lib.hid hE
  have HK := Lib.hid (fun w => kind_any ⟨#[116, 114, 101, 101]⟩ w)
  unfold KindPost at HK
  rw [awk_kind] at HK
  have hb : (oidS 3 []).toList == [101, 54, 57, 100, 101, 50, 57, 98, 98, 50, 100, 49, 100, 54, 52, 51, 52, 98, 56, 98, 50, 57, 97, 101, 55, 55, 53, 97, 100, 56, 99, 50, 101, 52, 56, 99, 53, 51, 57, 49] := by rw [awk_blob]; decide
  have ht : (oidS 2 []).toList == [52, 98, 56, 50, 53, 100, 99, 54, 52, 50, 99, 98, 54, 101, 98, 57, 97, 48, 54, 48, 101, 53, 52, 98, 102, 56, 100, 54, 57, 50, 56, 56, 102, 98, 101, 101, 52, 57, 48, 52] := by rw [awk_tree]; decide
  have hh : (strOfNums (headL 4 7)).toList == [116, 97, 103, 32, 55, 0] := by rw [awk_head]; decide
  have HB := Lib.hid (fun w hE => oid_any 3 none 0 0 [] w hE .nil rfl (fun x hx => by cases hx) (by decide))
  have HT := Lib.hid (fun w hE => oid_any 2 none 0 0 [] w hE .nil rfl (fun x hx => by cases hx) (by decide))
  have HH := Lib.hid (fun w hE => head_any 4 7 w hE (by decide))
  have HP1 := Lib.hid (fun w hE => person_any ⟨#[65, 32, 60, 97, 62, 32, 49, 32, 43, 48, 48, 48, 48]⟩ w hE (by decide))
  have HP2 := Lib.hid (fun w hE => person_any ⟨#[65, 32, 60, 97, 62, 32, 48, 49, 32, 43, 48, 48, 48, 48]⟩ w hE (by decide))
  unfold PersPost at HP1 HP2
  rw [pers_ex.1] at HP1
  rw [pers_ex.2] at HP2
  clear hE
  generalize oidS 3 [] = S3 at *
  generalize oidS 2 [] = S2 at *
  generalize headL 4 7 = HL at *
  generalize hSL : strOfNums HL = SL at *
  have HSL := Lib.hid hSL
  clear hSL
  go_enter Tryd.func8, Tryd.ntmps8
  go_wp2_with fail
  refine (HK.out w).mono ?_
  rintro e w1 ⟨rfl, hb1⟩
  have HB1 := Lib.hid hb1
  clear hb1 HK
  go_wp2_with fail
  refine (HB.out w1 (HE.out.below HB1.out)).mono ?_
  rintro e w2 ⟨rfl, hb2⟩
  have HB2 := Lib.hid (HB1.out.trans (hb2.mono HB1.out.size))
  clear hb2 HB
  go_wp2_with fail
  refine (HT.out w2 (HE.out.below HB2.out)).mono ?_
  rintro e w3 ⟨rfl, hb3⟩
  have HB3 := Lib.hid (HB2.out.trans (hb3.mono HB2.out.size))
  clear hb3 HT
  go_wp2_with fail
  refine (HP1.out w3 (HE.out.below HB3.out)).mono ?_
  rintro e w4 ⟨rfl, hb4⟩
  have HB4 := Lib.hid (HB3.out.trans (hb4.mono HB3.out.size))
  clear hb4 HP1
  go_wp2_with fail
  refine (HP2.out w4 (HE.out.below HB4.out)).mono ?_
  rintro e w5 ⟨rfl, hb5⟩
  have HB5 := Lib.hid (HB4.out.trans (hb5.mono HB4.out.size))
  clear hb5 HP2
  go_wp2_with fail
  refine (HH.out w5 (HE.out.below HB5.out)).mono ?_
  rintro e w6 ⟨A, c, rfl, hI, hb6⟩
  have HB6 := Lib.hid (HB5.out.trans (hb6.mono HB5.out.size))
  have hcv := run_str_ints (P := Tryd.prog) 30 9 5 Tryd.underlying30 Tryd.underlying5 Tryd.underlying9 A c HL hI
  rw [HSL.out] at hcv
  clear hb6 HH hI
  go_wp2
  go_ret
  exact ⟨rfl, HB6.out⟩
end Go.Proofs.YtdlabapfcghfmaaDoor
