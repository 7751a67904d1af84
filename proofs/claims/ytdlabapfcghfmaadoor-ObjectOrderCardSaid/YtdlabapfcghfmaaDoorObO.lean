/- The walk of ObjectOrder (printed by genobo.py). -/
import Derived.Test.YtdlabapfcghfmaaDoorObW
import Derived.Test.YtdlabapfcghfmaaDoorObM
namespace Go.Proofs.YtdlabapfcghfmaaDoor
open Go.RowKit
set_option linter.unusedVariables false
set_option linter.unusedSimpArgs false

def LessIs (m1 n1 i1 m2 n2 i2 : ByteArray) (b : Bool) : Prop := ∀ w : World, Calls Tryd.prog 6 #[.agg #[.string m1, .string n1, .string i1], .agg #[.string m2, .string n2, .string i2]] w fun e w' => e = .returned (.bool b) ∧ Below w.heap.size w w'
def LessRIs (m1 n1 i1 m2 n2 i2 : ByteArray) (b : Bool) : Prop := ∀ w : World, Calls Tryd.prog 7 #[.agg #[.string m1, .string n1, .string i1], .agg #[.string m2, .string n2, .string i2]] w fun e w' => e = .returned (.bool b) ∧ Below w.heap.size w w'
set_option maxRecDepth 100000 in
set_option maxHeartbeats 4000000 in
theorem order_no (m1 n1 i1 m2 n2 i2 m3 n3 i3 : ByteArray) (w : World) (hE : EnvO w) (h12 : LessIs m1 n1 i1 m2 n2 i2 false) (r12 : LessRIs m1 n1 i1 m2 n2 i2 false) (h11 : LessIs m1 n1 i1 m1 n1 i1 false) :
    Calls Tryd.prog 3 #[.agg #[.string m1, .string n1, .string i1], .agg #[.string m2, .string n2, .string i2], .agg #[.string m3, .string n3, .string i3]] w fun e w' => e = .returned (.bool true) ∧ Below w.heap.size w w' := by
  have H12 := Lib.hid h12
  have R12 := Lib.hid r12
  have H11 := Lib.hid h11
  clear h12 r12 h11
  have HE0 := Lib.hid hE
  clear hE
  go_enter Tryd.func3, Tryd.ntmps3
  go_upto_region 1 with (fail)
  have e1 := EnB.new w m1 n1 i1
  have e2 := EnB.new (w.alloc (.cells #[.string m1, .string n1, .string i1] 23)) m2 n2 i2
  have e3 := EnB.new ((w.alloc (.cells #[.string m1, .string n1, .string i1] 23)).alloc (.cells #[.string m2, .string n2, .string i2] 23)) m3 n3 i3
  have e1 := e1.below (Below.alloc (Below.refl _ _) (Nat.le_refl _) (.cells #[.string m2, .string n2, .string i2] 23))
  have e1 := e1.below (Below.alloc (Below.refl _ _) (Nat.le_refl _) (.cells #[.string m3, .string n3, .string i3] 23))
  have e2 := e2.below (Below.alloc (Below.refl _ _) (Nat.le_refl _) (.cells #[.string m3, .string n3, .string i3] 23))
  have hb0 : Below w.heap.size w (((w.alloc (.cells #[.string m1, .string n1, .string i1] 23)).alloc (.cells #[.string m2, .string n2, .string i2] 23)).alloc (.cells #[.string m3, .string n3, .string i3] 23)) := (((Below.refl _ _).alloc (Nat.le_refl _) _).alloc (by simp) _).alloc (by simp; omega) _
  rw [show (w.alloc (.cells #[.string m1, .string n1, .string i1] 23)).heap.size = w.heap.size + 1 by simp] at e2
  rw [show ((w.alloc (.cells #[.string m1, .string n1, .string i1] 23)).alloc (.cells #[.string m2, .string n2, .string i2] 23)).heap.size = w.heap.size + 1 + 1 by simp] at e3
  generalize (((w.alloc (.cells #[.string m1, .string n1, .string i1] 23)).alloc (.cells #[.string m2, .string n2, .string i2] 23)).alloc (.cells #[.string m3, .string n3, .string i3] 23)) = w0 at *
  have HB0 := Lib.hid hb0
  have HE1 := Lib.hid e1
  have HE2 := Lib.hid e2
  have HE3 := Lib.hid e3
  have HEN := Lib.hid (HE0.out.below hb0)
  clear hb0 e1 e2 e3
  generalize hg1 : w.heap.size = g1 at *
  have HG1 := Lib.hid hg1
  clear hg1
  generalize hg2 : g1 + 1 = g2 at *
  generalize hg3 : g2 + 1 = g3 at *
  clear hg2 hg3
  refine wp_region_ph (by kernel_rfl) [] [.span 0 0, .span 0 0, .span 0 0, .span 0 0, .span 0 0, .span 0 0, .span 0 0, .span 0 0, .span 0 0, .span 0 0, .span 0 0, .span 0 0, .span 0 0, .span 0 0, .span 0 0, .span 0 0, .span 0 0, .span 0 0, .span 0 0, .span 0 0, .span 0 0, .span 0 0] [fun z9 => z9 = .agg #[.string m1, .string n1, .string i1], fun z9 => z9 = .agg #[.string m2, .string n2, .string i2], fun z9 => z9 = .bool false, fun z9 => z9 = .agg #[.string m1, .string n1, .string i1], fun z9 => z9 = .agg #[.string m2, .string n2, .string i2], fun z9 => z9 = .bool false, fun z9 => z9 = .bool false, fun z9 => z9 = .bool false, fun z9 => z9 = .agg #[.string m1, .string n1, .string i1], fun z9 => z9 = .agg #[.string m1, .string n1, .string i1], fun z9 => z9 = .bool false, fun z9 => z9 = .bool false, fun z9 => z9 = .bool false, fun z9 => z9 = .agg #[.string m1, .string n1, .string i1], fun z9 => z9 = .agg #[.string m2, .string n2, .string i2], fun z9 => z9 = .bool false, fun z9 => z9 = .bool false, fun z9 => z9 = undef, fun z9 => z9 = undef, fun z9 => z9 = undef, fun z9 => z9 = .bool false, fun z9 => z9 = .bool false] ((fun _ w => Below w0.heap.size w0 w)) (by kernel_rfl) (by kernel_rfl) (by kernel_rfl) (by kernel_rfl) (by kernel_rfl) (by kernel_rfl) rfl rfl ((Below.refl _ _).drew) ?steps ?done
  case steps =>
    refine ⟨?_, ?_, ?_, ?_, ?_, ?_, ?_, ?_, ?_, ?_, ?_, ?_, ?_, ?_, ?_, ?_, ?_, ?_, ?_, ?_, ?_, ?_, trivial⟩
    · intro us au w1 k0 hlo hhi ha hd hst hI
      obtain rfl : k0 = 0 := by omega
      have q3 := slot_far (t := 3) (v := .pointer (some ⟨g1, 0, none⟩)) ha (by kernel_rfl) (by kernel_rfl)
      have p3 := slot_norm q3
      clear ha hd hst
      have kk := HE1.out.below hI
      have k0 := kk.c0
      have k1 := kk.c1
      have k2 := kk.c2
      exact StepI.pure (v := .agg #[.string m1, .string n1, .string i1]) rfl rfl (by go_simp) ⟨rfl, hI⟩
    · intro us au w1 k1 hlo hhi ha hd hst hI
      obtain rfl : k1 = 0 := by omega
      have q4 := slot_far (t := 4) (v := .pointer (some ⟨g2, 0, none⟩)) ha (by kernel_rfl) (by kernel_rfl)
      have p4 := slot_norm q4
      clear ha hd hst
      have kk := HE2.out.below hI
      have k0 := kk.c0
      have k1 := kk.c1
      have k2 := kk.c2
      exact StepI.pure (v := .agg #[.string m2, .string n2, .string i2]) rfl rfl (by go_simp) ⟨rfl, hI⟩
    · intro us au w1 k2 hlo hhi ha hd hst hI
      obtain rfl : k2 = 0 := by omega
      have e0 := hd 0 _ (by kernel_rfl) rfl
      have e1 := hd 1 _ (by kernel_rfl) rfl
      have q7 := slot_at (t := 7) 0 ha (by kernel_rfl) (by kernel_rfl) (by kernel_rfl) e0
      have p7 := slot_norm q7
      have q8 := slot_at (t := 8) 1 ha (by kernel_rfl) (by kernel_rfl) (by kernel_rfl) e1
      have p8 := slot_norm q8
      clear ha hd hst
      refine StepI.call (f := 6) (args := #[.agg #[.string m1, .string n1, .string i1], .agg #[.string m2, .string n2, .string i2]]) rfl rfl (by go_simp) ?_
      refine (H12.out w1).mono ?_
      rintro e w5 ⟨rfl, hb⟩
      exact ⟨_, rfl, rfl, Below.trans hI (hb.mono hI.size)⟩
    · intro us au w1 k3 hlo hhi ha hd hst hI
      obtain rfl : k3 = 0 := by omega
      have q3 := slot_far (t := 3) (v := .pointer (some ⟨g1, 0, none⟩)) ha (by kernel_rfl) (by kernel_rfl)
      have p3 := slot_norm q3
      clear ha hd hst
      have kk := HE1.out.below hI
      have k0 := kk.c0
      have k1 := kk.c1
      have k2 := kk.c2
      exact StepI.pure (v := .agg #[.string m1, .string n1, .string i1]) rfl rfl (by go_simp) ⟨rfl, hI⟩
    · intro us au w1 k4 hlo hhi ha hd hst hI
      obtain rfl : k4 = 0 := by omega
      have q4 := slot_far (t := 4) (v := .pointer (some ⟨g2, 0, none⟩)) ha (by kernel_rfl) (by kernel_rfl)
      have p4 := slot_norm q4
      clear ha hd hst
      have kk := HE2.out.below hI
      have k0 := kk.c0
      have k1 := kk.c1
      have k2 := kk.c2
      exact StepI.pure (v := .agg #[.string m2, .string n2, .string i2]) rfl rfl (by go_simp) ⟨rfl, hI⟩
    · intro us au w1 k5 hlo hhi ha hd hst hI
      obtain rfl : k5 = 0 := by omega
      have e3 := hd 3 _ (by kernel_rfl) rfl
      have e4 := hd 4 _ (by kernel_rfl) rfl
      have q10 := slot_at (t := 10) 3 ha (by kernel_rfl) (by kernel_rfl) (by kernel_rfl) e3
      have p10 := slot_norm q10
      have q11 := slot_at (t := 11) 4 ha (by kernel_rfl) (by kernel_rfl) (by kernel_rfl) e4
      have p11 := slot_norm q11
      clear ha hd hst
      refine StepI.call (f := 7) (args := #[.agg #[.string m1, .string n1, .string i1], .agg #[.string m2, .string n2, .string i2]]) rfl rfl (by go_simp) ?_
      refine (R12.out w1).mono ?_
      rintro e w5 ⟨rfl, hb⟩
      exact ⟨_, rfl, rfl, Below.trans hI (hb.mono hI.size)⟩
    · intro us au w1 k6 hlo hhi ha hd hst hI
      obtain rfl : k6 = 0 := by omega
      have e2 := hd 2 _ (by kernel_rfl) rfl
      have e5 := hd 5 _ (by kernel_rfl) rfl
      have q9 := slot_at (t := 9) 2 ha (by kernel_rfl) (by kernel_rfl) (by kernel_rfl) e2
      have p9 := slot_norm q9
      have q12 := slot_at (t := 12) 5 ha (by kernel_rfl) (by kernel_rfl) (by kernel_rfl) e5
      have p12 := slot_norm q12
      clear ha hd hst
      exact StepI.pure (v := .bool false) rfl rfl (by go_simp) ⟨rfl, hI⟩
    · intro us au w1 k7 hlo hhi ha hd hst hI
      obtain rfl : k7 = 0 := by omega
      have e6 := hd 6 _ (by kernel_rfl) rfl
      have q13 := slot_at (t := 13) 6 ha (by kernel_rfl) (by kernel_rfl) (by kernel_rfl) e6
      have p13 := slot_norm q13
      clear ha hd hst
      exact StepI.pure (v := .bool false) rfl rfl (by go_simp) ⟨rfl, hI⟩
    · intro us au w1 k8 hlo hhi ha hd hst hI
      obtain rfl : k8 = 0 := by omega
      have e7 := hd 7 _ (by kernel_rfl) rfl
      have q3 := slot_far (t := 3) (v := .pointer (some ⟨g1, 0, none⟩)) ha (by kernel_rfl) (by kernel_rfl)
      have p3 := slot_norm q3
      have hg := slot_at (t := 14) 7 ha (by kernel_rfl) (by kernel_rfl) (by kernel_rfl) e7
      clear ha hd hst
      have kk := HE1.out.below hI
      have k0 := kk.c0
      have k1 := kk.c1
      have k2 := kk.c2
      exact StepI.pure (v := .agg #[.string m1, .string n1, .string i1]) rfl (wanted_at rfl rfl hg) (by go_simp) ⟨rfl, hI⟩
    · intro us au w1 k9 hlo hhi ha hd hst hI
      obtain rfl : k9 = 0 := by omega
      have e7 := hd 7 _ (by kernel_rfl) rfl
      have q3 := slot_far (t := 3) (v := .pointer (some ⟨g1, 0, none⟩)) ha (by kernel_rfl) (by kernel_rfl)
      have p3 := slot_norm q3
      have hg := slot_at (t := 14) 7 ha (by kernel_rfl) (by kernel_rfl) (by kernel_rfl) e7
      clear ha hd hst
      have kk := HE1.out.below hI
      have k0 := kk.c0
      have k1 := kk.c1
      have k2 := kk.c2
      exact StepI.pure (v := .agg #[.string m1, .string n1, .string i1]) rfl (wanted_at rfl rfl hg) (by go_simp) ⟨rfl, hI⟩
    · intro us au w1 k10 hlo hhi ha hd hst hI
      obtain rfl : k10 = 0 := by omega
      have e8 := hd 8 _ (by kernel_rfl) rfl
      have e9 := hd 9 _ (by kernel_rfl) rfl
      have e7 := hd 7 _ (by kernel_rfl) rfl
      have q15 := slot_at (t := 15) 8 ha (by kernel_rfl) (by kernel_rfl) (by kernel_rfl) e8
      have p15 := slot_norm q15
      have q16 := slot_at (t := 16) 9 ha (by kernel_rfl) (by kernel_rfl) (by kernel_rfl) e9
      have p16 := slot_norm q16
      have hg := slot_at (t := 14) 7 ha (by kernel_rfl) (by kernel_rfl) (by kernel_rfl) e7
      clear ha hd hst
      refine StepI.call (f := 6) (args := #[.agg #[.string m1, .string n1, .string i1], .agg #[.string m1, .string n1, .string i1]]) rfl (wanted_at rfl rfl hg) (by go_simp) ?_
      refine (H11.out w1).mono ?_
      rintro e w5 ⟨rfl, hb⟩
      exact ⟨_, rfl, rfl, Below.trans hI (hb.mono hI.size)⟩
    · intro us au w1 k11 hlo hhi ha hd hst hI
      obtain rfl : k11 = 0 := by omega
      have e7 := hd 7 _ (by kernel_rfl) rfl
      have e10 := hd 10 _ (by kernel_rfl) rfl
      have q14 := slot_at (t := 14) 7 ha (by kernel_rfl) (by kernel_rfl) (by kernel_rfl) e7
      have p14 := slot_norm q14
      have q17 := slot_at (t := 17) 10 ha (by kernel_rfl) (by kernel_rfl) (by kernel_rfl) e10
      have p17 := slot_norm q17
      clear ha hd hst
      exact StepI.pure (v := .bool false) rfl rfl (by go_simp) ⟨rfl, hI⟩
    · intro us au w1 k12 hlo hhi ha hd hst hI
      obtain rfl : k12 = 0 := by omega
      have e11 := hd 11 _ (by kernel_rfl) rfl
      have q18 := slot_at (t := 18) 11 ha (by kernel_rfl) (by kernel_rfl) (by kernel_rfl) e11
      have p18 := slot_norm q18
      clear ha hd hst
      exact StepI.pure (v := .bool false) rfl rfl (by go_simp) ⟨rfl, hI⟩
    · intro us au w1 k13 hlo hhi ha hd hst hI
      obtain rfl : k13 = 0 := by omega
      have e12 := hd 12 _ (by kernel_rfl) rfl
      have q3 := slot_far (t := 3) (v := .pointer (some ⟨g1, 0, none⟩)) ha (by kernel_rfl) (by kernel_rfl)
      have p3 := slot_norm q3
      have hg := slot_at (t := 19) 12 ha (by kernel_rfl) (by kernel_rfl) (by kernel_rfl) e12
      clear ha hd hst
      have kk := HE1.out.below hI
      have k0 := kk.c0
      have k1 := kk.c1
      have k2 := kk.c2
      exact StepI.pure (v := .agg #[.string m1, .string n1, .string i1]) rfl (wanted_at rfl rfl hg) (by go_simp) ⟨rfl, hI⟩
    · intro us au w1 k14 hlo hhi ha hd hst hI
      obtain rfl : k14 = 0 := by omega
      have e12 := hd 12 _ (by kernel_rfl) rfl
      have q4 := slot_far (t := 4) (v := .pointer (some ⟨g2, 0, none⟩)) ha (by kernel_rfl) (by kernel_rfl)
      have p4 := slot_norm q4
      have hg := slot_at (t := 19) 12 ha (by kernel_rfl) (by kernel_rfl) (by kernel_rfl) e12
      clear ha hd hst
      have kk := HE2.out.below hI
      have k0 := kk.c0
      have k1 := kk.c1
      have k2 := kk.c2
      exact StepI.pure (v := .agg #[.string m2, .string n2, .string i2]) rfl (wanted_at rfl rfl hg) (by go_simp) ⟨rfl, hI⟩
    · intro us au w1 k15 hlo hhi ha hd hst hI
      obtain rfl : k15 = 0 := by omega
      have e13 := hd 13 _ (by kernel_rfl) rfl
      have e14 := hd 14 _ (by kernel_rfl) rfl
      have e12 := hd 12 _ (by kernel_rfl) rfl
      have q20 := slot_at (t := 20) 13 ha (by kernel_rfl) (by kernel_rfl) (by kernel_rfl) e13
      have p20 := slot_norm q20
      have q21 := slot_at (t := 21) 14 ha (by kernel_rfl) (by kernel_rfl) (by kernel_rfl) e14
      have p21 := slot_norm q21
      have hg := slot_at (t := 19) 12 ha (by kernel_rfl) (by kernel_rfl) (by kernel_rfl) e12
      clear ha hd hst
      refine StepI.call (f := 6) (args := #[.agg #[.string m1, .string n1, .string i1], .agg #[.string m2, .string n2, .string i2]]) rfl (wanted_at rfl rfl hg) (by go_simp) ?_
      refine (H12.out w1).mono ?_
      rintro e w5 ⟨rfl, hb⟩
      exact ⟨_, rfl, rfl, Below.trans hI (hb.mono hI.size)⟩
    · intro us au w1 k16 hlo hhi ha hd hst hI
      obtain rfl : k16 = 0 := by omega
      have e15 := hd 15 _ (by kernel_rfl) rfl
      have e12 := hd 12 _ (by kernel_rfl) rfl
      have q22 := slot_at (t := 22) 15 ha (by kernel_rfl) (by kernel_rfl) (by kernel_rfl) e15
      have p22 := slot_norm q22
      have hg := slot_at (t := 19) 12 ha (by kernel_rfl) (by kernel_rfl) (by kernel_rfl) e12
      clear ha hd hst
      exact StepI.pure (v := .bool false) rfl (wanted_at rfl rfl hg) (by go_simp) ⟨rfl, hI⟩
    · intro us au w1 k17 hlo hhi ha hd hst hI
      obtain rfl : k17 = 0 := by omega
      have e16 := hd 16 _ (by kernel_rfl) rfl
      have hg := slot_at (t := 23) 16 ha (by kernel_rfl) (by kernel_rfl) (by kernel_rfl) e16
      exact StepI.skip rfl (unwanted_at rfl rfl hg rfl) ⟨rfl, hI⟩
    · intro us au w1 k18 hlo hhi ha hd hst hI
      obtain rfl : k18 = 0 := by omega
      have e16 := hd 16 _ (by kernel_rfl) rfl
      have hg := slot_at (t := 23) 16 ha (by kernel_rfl) (by kernel_rfl) (by kernel_rfl) e16
      exact StepI.skip rfl (unwanted_at rfl rfl hg rfl) ⟨rfl, hI⟩
    · intro us au w1 k19 hlo hhi ha hd hst hI
      obtain rfl : k19 = 0 := by omega
      have e16 := hd 16 _ (by kernel_rfl) rfl
      have hg := slot_at (t := 23) 16 ha (by kernel_rfl) (by kernel_rfl) (by kernel_rfl) e16
      exact StepI.skip rfl (unwanted_at rfl rfl hg rfl) ⟨rfl, hI⟩
    · intro us au w1 k20 hlo hhi ha hd hst hI
      obtain rfl : k20 = 0 := by omega
      have e16 := hd 16 _ (by kernel_rfl) rfl
      have e19 := hd 19 _ (by kernel_rfl) rfl
      have e12 := hd 12 _ (by kernel_rfl) rfl
      have q23 := slot_at (t := 23) 16 ha (by kernel_rfl) (by kernel_rfl) (by kernel_rfl) e16
      have p23 := slot_norm q23
      have q26 := slot_at (t := 26) 19 ha (by kernel_rfl) (by kernel_rfl) (by kernel_rfl) e19
      have p26 := slot_norm q26
      have hg := slot_at (t := 19) 12 ha (by kernel_rfl) (by kernel_rfl) (by kernel_rfl) e12
      clear ha hd hst
      exact StepI.pure (v := .bool false) rfl (wanted_at rfl rfl hg) (by go_simp) ⟨rfl, hI⟩
    · intro us au w1 k21 hlo hhi ha hd hst hI
      obtain rfl : k21 = 0 := by omega
      have e12 := hd 12 _ (by kernel_rfl) rfl
      have e20 := hd 20 _ (by kernel_rfl) rfl
      have q19 := slot_at (t := 19) 12 ha (by kernel_rfl) (by kernel_rfl) (by kernel_rfl) e12
      have p19 := slot_norm q19
      have q27 := slot_at (t := 27) 20 ha (by kernel_rfl) (by kernel_rfl) (by kernel_rfl) e20
      have p27 := slot_norm q27
      clear ha hd hst
      exact StepI.pure (v := .bool false) rfl rfl (by go_simp) ⟨rfl, hI⟩
  case done =>
    intro us w1 hI hd
    have hx := hd 21 _ (by decide) rfl
    have HB1 := Lib.hid hI
    clear hd hI
    simp only [putAll]
    go_simp
    clear hx
    have a1 := HE1.out.below HB1.out
    have k10 := a1.c0
    have k11 := a1.c1
    have k12 := a1.c2
    clear a1
    have a2 := HE2.out.below HB1.out
    have k20 := a2.c0
    have k21 := a2.c1
    have k22 := a2.c2
    clear a2
    go_wp2_with fail
    refine (H12.out w1).mono ?_
    rintro e w2 ⟨rfl, hb⟩
    have HB2 := Lib.hid (HB1.out.trans (hb.mono HB1.out.size))
    clear hb k10 k11 k12 k20 k21 k22
    go_wp2_with fail
    refine (awake8_any w2 (HEN.out.below HB2.out)).mono ?_
    rintro e w3 ⟨rfl, hb⟩
    have HW := Lib.hid (HB0.out.trans (Below.mono (HB2.out.trans (hb.mono HB2.out.size)) (Nat.le_of_lt HE1.out.lt)))
    clear hb
    go_wp2
    go_ret
    exact ⟨rfl, by rw [HG1.out]; exact HW.out⟩
set_option maxRecDepth 100000 in
set_option maxHeartbeats 4000000 in
theorem order_one (m1 n1 i1 m2 n2 i2 m3 n3 i3 : ByteArray) (w : World) (hE : EnvO w) (h12 : LessIs m1 n1 i1 m2 n2 i2 true) (r12 : LessRIs m1 n1 i1 m2 n2 i2 true) (h11 : LessIs m1 n1 i1 m1 n1 i1 false) (h21 : LessIs m2 n2 i2 m1 n1 i1 false) (h23 : LessIs m2 n2 i2 m3 n3 i3 false) :
    Calls Tryd.prog 3 #[.agg #[.string m1, .string n1, .string i1], .agg #[.string m2, .string n2, .string i2], .agg #[.string m3, .string n3, .string i3]] w fun e w' => e = .returned (.bool true) ∧ Below w.heap.size w w' := by
  have H12 := Lib.hid h12
  have R12 := Lib.hid r12
  have H11 := Lib.hid h11
  clear h12 r12 h11
  have H21 := Lib.hid h21
  have H23 := Lib.hid h23
  clear h21 h23
  have HE0 := Lib.hid hE
  clear hE
  go_enter Tryd.func3, Tryd.ntmps3
  go_upto_region 1 with (fail)
  have e1 := EnB.new w m1 n1 i1
  have e2 := EnB.new (w.alloc (.cells #[.string m1, .string n1, .string i1] 23)) m2 n2 i2
  have e3 := EnB.new ((w.alloc (.cells #[.string m1, .string n1, .string i1] 23)).alloc (.cells #[.string m2, .string n2, .string i2] 23)) m3 n3 i3
  have e1 := e1.below (Below.alloc (Below.refl _ _) (Nat.le_refl _) (.cells #[.string m2, .string n2, .string i2] 23))
  have e1 := e1.below (Below.alloc (Below.refl _ _) (Nat.le_refl _) (.cells #[.string m3, .string n3, .string i3] 23))
  have e2 := e2.below (Below.alloc (Below.refl _ _) (Nat.le_refl _) (.cells #[.string m3, .string n3, .string i3] 23))
  have hb0 : Below w.heap.size w (((w.alloc (.cells #[.string m1, .string n1, .string i1] 23)).alloc (.cells #[.string m2, .string n2, .string i2] 23)).alloc (.cells #[.string m3, .string n3, .string i3] 23)) := (((Below.refl _ _).alloc (Nat.le_refl _) _).alloc (by simp) _).alloc (by simp; omega) _
  rw [show (w.alloc (.cells #[.string m1, .string n1, .string i1] 23)).heap.size = w.heap.size + 1 by simp] at e2
  rw [show ((w.alloc (.cells #[.string m1, .string n1, .string i1] 23)).alloc (.cells #[.string m2, .string n2, .string i2] 23)).heap.size = w.heap.size + 1 + 1 by simp] at e3
  generalize (((w.alloc (.cells #[.string m1, .string n1, .string i1] 23)).alloc (.cells #[.string m2, .string n2, .string i2] 23)).alloc (.cells #[.string m3, .string n3, .string i3] 23)) = w0 at *
  have HB0 := Lib.hid hb0
  have HE1 := Lib.hid e1
  have HE2 := Lib.hid e2
  have HE3 := Lib.hid e3
  have HEN := Lib.hid (HE0.out.below hb0)
  clear hb0 e1 e2 e3
  generalize hg1 : w.heap.size = g1 at *
  have HG1 := Lib.hid hg1
  clear hg1
  generalize hg2 : g1 + 1 = g2 at *
  generalize hg3 : g2 + 1 = g3 at *
  clear hg2 hg3
  refine wp_region_ph (by kernel_rfl) [] [.span 0 0, .span 0 0, .span 0 0, .span 0 0, .span 0 0, .span 0 0, .span 0 0, .span 0 0, .span 0 0, .span 0 0, .span 0 0, .span 0 0, .span 0 0, .span 0 0, .span 0 0, .span 0 0, .span 0 0, .span 0 0, .span 0 0, .span 0 0, .span 0 0, .span 0 0] [fun z9 => z9 = .agg #[.string m1, .string n1, .string i1], fun z9 => z9 = .agg #[.string m2, .string n2, .string i2], fun z9 => z9 = .bool true, fun z9 => z9 = .agg #[.string m1, .string n1, .string i1], fun z9 => z9 = .agg #[.string m2, .string n2, .string i2], fun z9 => z9 = .bool true, fun z9 => z9 = .bool false, fun z9 => z9 = .bool false, fun z9 => z9 = .agg #[.string m1, .string n1, .string i1], fun z9 => z9 = .agg #[.string m1, .string n1, .string i1], fun z9 => z9 = .bool false, fun z9 => z9 = .bool false, fun z9 => z9 = .bool false, fun z9 => z9 = .agg #[.string m1, .string n1, .string i1], fun z9 => z9 = .agg #[.string m2, .string n2, .string i2], fun z9 => z9 = .bool true, fun z9 => z9 = .bool true, fun z9 => z9 = .agg #[.string m2, .string n2, .string i2], fun z9 => z9 = .agg #[.string m1, .string n1, .string i1], fun z9 => z9 = .bool false, fun z9 => z9 = .bool false, fun z9 => z9 = .bool false] ((fun _ w => Below w0.heap.size w0 w)) (by kernel_rfl) (by kernel_rfl) (by kernel_rfl) (by kernel_rfl) (by kernel_rfl) (by kernel_rfl) rfl rfl ((Below.refl _ _).drew) ?steps ?done
  case steps =>
    refine ⟨?_, ?_, ?_, ?_, ?_, ?_, ?_, ?_, ?_, ?_, ?_, ?_, ?_, ?_, ?_, ?_, ?_, ?_, ?_, ?_, ?_, ?_, trivial⟩
    · intro us au w1 k0 hlo hhi ha hd hst hI
      obtain rfl : k0 = 0 := by omega
      have q3 := slot_far (t := 3) (v := .pointer (some ⟨g1, 0, none⟩)) ha (by kernel_rfl) (by kernel_rfl)
      have p3 := slot_norm q3
      clear ha hd hst
      have kk := HE1.out.below hI
      have k0 := kk.c0
      have k1 := kk.c1
      have k2 := kk.c2
      exact StepI.pure (v := .agg #[.string m1, .string n1, .string i1]) rfl rfl (by go_simp) ⟨rfl, hI⟩
    · intro us au w1 k1 hlo hhi ha hd hst hI
      obtain rfl : k1 = 0 := by omega
      have q4 := slot_far (t := 4) (v := .pointer (some ⟨g2, 0, none⟩)) ha (by kernel_rfl) (by kernel_rfl)
      have p4 := slot_norm q4
      clear ha hd hst
      have kk := HE2.out.below hI
      have k0 := kk.c0
      have k1 := kk.c1
      have k2 := kk.c2
      exact StepI.pure (v := .agg #[.string m2, .string n2, .string i2]) rfl rfl (by go_simp) ⟨rfl, hI⟩
    · intro us au w1 k2 hlo hhi ha hd hst hI
      obtain rfl : k2 = 0 := by omega
      have e0 := hd 0 _ (by kernel_rfl) rfl
      have e1 := hd 1 _ (by kernel_rfl) rfl
      have q7 := slot_at (t := 7) 0 ha (by kernel_rfl) (by kernel_rfl) (by kernel_rfl) e0
      have p7 := slot_norm q7
      have q8 := slot_at (t := 8) 1 ha (by kernel_rfl) (by kernel_rfl) (by kernel_rfl) e1
      have p8 := slot_norm q8
      clear ha hd hst
      refine StepI.call (f := 6) (args := #[.agg #[.string m1, .string n1, .string i1], .agg #[.string m2, .string n2, .string i2]]) rfl rfl (by go_simp) ?_
      refine (H12.out w1).mono ?_
      rintro e w5 ⟨rfl, hb⟩
      exact ⟨_, rfl, rfl, Below.trans hI (hb.mono hI.size)⟩
    · intro us au w1 k3 hlo hhi ha hd hst hI
      obtain rfl : k3 = 0 := by omega
      have q3 := slot_far (t := 3) (v := .pointer (some ⟨g1, 0, none⟩)) ha (by kernel_rfl) (by kernel_rfl)
      have p3 := slot_norm q3
      clear ha hd hst
      have kk := HE1.out.below hI
      have k0 := kk.c0
      have k1 := kk.c1
      have k2 := kk.c2
      exact StepI.pure (v := .agg #[.string m1, .string n1, .string i1]) rfl rfl (by go_simp) ⟨rfl, hI⟩
    · intro us au w1 k4 hlo hhi ha hd hst hI
      obtain rfl : k4 = 0 := by omega
      have q4 := slot_far (t := 4) (v := .pointer (some ⟨g2, 0, none⟩)) ha (by kernel_rfl) (by kernel_rfl)
      have p4 := slot_norm q4
      clear ha hd hst
      have kk := HE2.out.below hI
      have k0 := kk.c0
      have k1 := kk.c1
      have k2 := kk.c2
      exact StepI.pure (v := .agg #[.string m2, .string n2, .string i2]) rfl rfl (by go_simp) ⟨rfl, hI⟩
    · intro us au w1 k5 hlo hhi ha hd hst hI
      obtain rfl : k5 = 0 := by omega
      have e3 := hd 3 _ (by kernel_rfl) rfl
      have e4 := hd 4 _ (by kernel_rfl) rfl
      have q10 := slot_at (t := 10) 3 ha (by kernel_rfl) (by kernel_rfl) (by kernel_rfl) e3
      have p10 := slot_norm q10
      have q11 := slot_at (t := 11) 4 ha (by kernel_rfl) (by kernel_rfl) (by kernel_rfl) e4
      have p11 := slot_norm q11
      clear ha hd hst
      refine StepI.call (f := 7) (args := #[.agg #[.string m1, .string n1, .string i1], .agg #[.string m2, .string n2, .string i2]]) rfl rfl (by go_simp) ?_
      refine (R12.out w1).mono ?_
      rintro e w5 ⟨rfl, hb⟩
      exact ⟨_, rfl, rfl, Below.trans hI (hb.mono hI.size)⟩
    · intro us au w1 k6 hlo hhi ha hd hst hI
      obtain rfl : k6 = 0 := by omega
      have e2 := hd 2 _ (by kernel_rfl) rfl
      have e5 := hd 5 _ (by kernel_rfl) rfl
      have q9 := slot_at (t := 9) 2 ha (by kernel_rfl) (by kernel_rfl) (by kernel_rfl) e2
      have p9 := slot_norm q9
      have q12 := slot_at (t := 12) 5 ha (by kernel_rfl) (by kernel_rfl) (by kernel_rfl) e5
      have p12 := slot_norm q12
      clear ha hd hst
      exact StepI.pure (v := .bool false) rfl rfl (by go_simp) ⟨rfl, hI⟩
    · intro us au w1 k7 hlo hhi ha hd hst hI
      obtain rfl : k7 = 0 := by omega
      have e6 := hd 6 _ (by kernel_rfl) rfl
      have q13 := slot_at (t := 13) 6 ha (by kernel_rfl) (by kernel_rfl) (by kernel_rfl) e6
      have p13 := slot_norm q13
      clear ha hd hst
      exact StepI.pure (v := .bool false) rfl rfl (by go_simp) ⟨rfl, hI⟩
    · intro us au w1 k8 hlo hhi ha hd hst hI
      obtain rfl : k8 = 0 := by omega
      have e7 := hd 7 _ (by kernel_rfl) rfl
      have q3 := slot_far (t := 3) (v := .pointer (some ⟨g1, 0, none⟩)) ha (by kernel_rfl) (by kernel_rfl)
      have p3 := slot_norm q3
      have hg := slot_at (t := 14) 7 ha (by kernel_rfl) (by kernel_rfl) (by kernel_rfl) e7
      clear ha hd hst
      have kk := HE1.out.below hI
      have k0 := kk.c0
      have k1 := kk.c1
      have k2 := kk.c2
      exact StepI.pure (v := .agg #[.string m1, .string n1, .string i1]) rfl (wanted_at rfl rfl hg) (by go_simp) ⟨rfl, hI⟩
    · intro us au w1 k9 hlo hhi ha hd hst hI
      obtain rfl : k9 = 0 := by omega
      have e7 := hd 7 _ (by kernel_rfl) rfl
      have q3 := slot_far (t := 3) (v := .pointer (some ⟨g1, 0, none⟩)) ha (by kernel_rfl) (by kernel_rfl)
      have p3 := slot_norm q3
      have hg := slot_at (t := 14) 7 ha (by kernel_rfl) (by kernel_rfl) (by kernel_rfl) e7
      clear ha hd hst
      have kk := HE1.out.below hI
      have k0 := kk.c0
      have k1 := kk.c1
      have k2 := kk.c2
      exact StepI.pure (v := .agg #[.string m1, .string n1, .string i1]) rfl (wanted_at rfl rfl hg) (by go_simp) ⟨rfl, hI⟩
    · intro us au w1 k10 hlo hhi ha hd hst hI
      obtain rfl : k10 = 0 := by omega
      have e8 := hd 8 _ (by kernel_rfl) rfl
      have e9 := hd 9 _ (by kernel_rfl) rfl
      have e7 := hd 7 _ (by kernel_rfl) rfl
      have q15 := slot_at (t := 15) 8 ha (by kernel_rfl) (by kernel_rfl) (by kernel_rfl) e8
      have p15 := slot_norm q15
      have q16 := slot_at (t := 16) 9 ha (by kernel_rfl) (by kernel_rfl) (by kernel_rfl) e9
      have p16 := slot_norm q16
      have hg := slot_at (t := 14) 7 ha (by kernel_rfl) (by kernel_rfl) (by kernel_rfl) e7
      clear ha hd hst
      refine StepI.call (f := 6) (args := #[.agg #[.string m1, .string n1, .string i1], .agg #[.string m1, .string n1, .string i1]]) rfl (wanted_at rfl rfl hg) (by go_simp) ?_
      refine (H11.out w1).mono ?_
      rintro e w5 ⟨rfl, hb⟩
      exact ⟨_, rfl, rfl, Below.trans hI (hb.mono hI.size)⟩
    · intro us au w1 k11 hlo hhi ha hd hst hI
      obtain rfl : k11 = 0 := by omega
      have e7 := hd 7 _ (by kernel_rfl) rfl
      have e10 := hd 10 _ (by kernel_rfl) rfl
      have q14 := slot_at (t := 14) 7 ha (by kernel_rfl) (by kernel_rfl) (by kernel_rfl) e7
      have p14 := slot_norm q14
      have q17 := slot_at (t := 17) 10 ha (by kernel_rfl) (by kernel_rfl) (by kernel_rfl) e10
      have p17 := slot_norm q17
      clear ha hd hst
      exact StepI.pure (v := .bool false) rfl rfl (by go_simp) ⟨rfl, hI⟩
    · intro us au w1 k12 hlo hhi ha hd hst hI
      obtain rfl : k12 = 0 := by omega
      have e11 := hd 11 _ (by kernel_rfl) rfl
      have q18 := slot_at (t := 18) 11 ha (by kernel_rfl) (by kernel_rfl) (by kernel_rfl) e11
      have p18 := slot_norm q18
      clear ha hd hst
      exact StepI.pure (v := .bool false) rfl rfl (by go_simp) ⟨rfl, hI⟩
    · intro us au w1 k13 hlo hhi ha hd hst hI
      obtain rfl : k13 = 0 := by omega
      have e12 := hd 12 _ (by kernel_rfl) rfl
      have q3 := slot_far (t := 3) (v := .pointer (some ⟨g1, 0, none⟩)) ha (by kernel_rfl) (by kernel_rfl)
      have p3 := slot_norm q3
      have hg := slot_at (t := 19) 12 ha (by kernel_rfl) (by kernel_rfl) (by kernel_rfl) e12
      clear ha hd hst
      have kk := HE1.out.below hI
      have k0 := kk.c0
      have k1 := kk.c1
      have k2 := kk.c2
      exact StepI.pure (v := .agg #[.string m1, .string n1, .string i1]) rfl (wanted_at rfl rfl hg) (by go_simp) ⟨rfl, hI⟩
    · intro us au w1 k14 hlo hhi ha hd hst hI
      obtain rfl : k14 = 0 := by omega
      have e12 := hd 12 _ (by kernel_rfl) rfl
      have q4 := slot_far (t := 4) (v := .pointer (some ⟨g2, 0, none⟩)) ha (by kernel_rfl) (by kernel_rfl)
      have p4 := slot_norm q4
      have hg := slot_at (t := 19) 12 ha (by kernel_rfl) (by kernel_rfl) (by kernel_rfl) e12
      clear ha hd hst
      have kk := HE2.out.below hI
      have k0 := kk.c0
      have k1 := kk.c1
      have k2 := kk.c2
      exact StepI.pure (v := .agg #[.string m2, .string n2, .string i2]) rfl (wanted_at rfl rfl hg) (by go_simp) ⟨rfl, hI⟩
    · intro us au w1 k15 hlo hhi ha hd hst hI
      obtain rfl : k15 = 0 := by omega
      have e13 := hd 13 _ (by kernel_rfl) rfl
      have e14 := hd 14 _ (by kernel_rfl) rfl
      have e12 := hd 12 _ (by kernel_rfl) rfl
      have q20 := slot_at (t := 20) 13 ha (by kernel_rfl) (by kernel_rfl) (by kernel_rfl) e13
      have p20 := slot_norm q20
      have q21 := slot_at (t := 21) 14 ha (by kernel_rfl) (by kernel_rfl) (by kernel_rfl) e14
      have p21 := slot_norm q21
      have hg := slot_at (t := 19) 12 ha (by kernel_rfl) (by kernel_rfl) (by kernel_rfl) e12
      clear ha hd hst
      refine StepI.call (f := 6) (args := #[.agg #[.string m1, .string n1, .string i1], .agg #[.string m2, .string n2, .string i2]]) rfl (wanted_at rfl rfl hg) (by go_simp) ?_
      refine (H12.out w1).mono ?_
      rintro e w5 ⟨rfl, hb⟩
      exact ⟨_, rfl, rfl, Below.trans hI (hb.mono hI.size)⟩
    · intro us au w1 k16 hlo hhi ha hd hst hI
      obtain rfl : k16 = 0 := by omega
      have e15 := hd 15 _ (by kernel_rfl) rfl
      have e12 := hd 12 _ (by kernel_rfl) rfl
      have q22 := slot_at (t := 22) 15 ha (by kernel_rfl) (by kernel_rfl) (by kernel_rfl) e15
      have p22 := slot_norm q22
      have hg := slot_at (t := 19) 12 ha (by kernel_rfl) (by kernel_rfl) (by kernel_rfl) e12
      clear ha hd hst
      exact StepI.pure (v := .bool true) rfl (wanted_at rfl rfl hg) (by go_simp) ⟨rfl, hI⟩
    · intro us au w1 k17 hlo hhi ha hd hst hI
      obtain rfl : k17 = 0 := by omega
      have e16 := hd 16 _ (by kernel_rfl) rfl
      have q4 := slot_far (t := 4) (v := .pointer (some ⟨g2, 0, none⟩)) ha (by kernel_rfl) (by kernel_rfl)
      have p4 := slot_norm q4
      have hg := slot_at (t := 23) 16 ha (by kernel_rfl) (by kernel_rfl) (by kernel_rfl) e16
      clear ha hd hst
      have kk := HE2.out.below hI
      have k0 := kk.c0
      have k1 := kk.c1
      have k2 := kk.c2
      exact StepI.pure (v := .agg #[.string m2, .string n2, .string i2]) rfl (wanted_at rfl rfl hg) (by go_simp) ⟨rfl, hI⟩
    · intro us au w1 k18 hlo hhi ha hd hst hI
      obtain rfl : k18 = 0 := by omega
      have e16 := hd 16 _ (by kernel_rfl) rfl
      have q3 := slot_far (t := 3) (v := .pointer (some ⟨g1, 0, none⟩)) ha (by kernel_rfl) (by kernel_rfl)
      have p3 := slot_norm q3
      have hg := slot_at (t := 23) 16 ha (by kernel_rfl) (by kernel_rfl) (by kernel_rfl) e16
      clear ha hd hst
      have kk := HE1.out.below hI
      have k0 := kk.c0
      have k1 := kk.c1
      have k2 := kk.c2
      exact StepI.pure (v := .agg #[.string m1, .string n1, .string i1]) rfl (wanted_at rfl rfl hg) (by go_simp) ⟨rfl, hI⟩
    · intro us au w1 k19 hlo hhi ha hd hst hI
      obtain rfl : k19 = 0 := by omega
      have e17 := hd 17 _ (by kernel_rfl) rfl
      have e18 := hd 18 _ (by kernel_rfl) rfl
      have e16 := hd 16 _ (by kernel_rfl) rfl
      have q24 := slot_at (t := 24) 17 ha (by kernel_rfl) (by kernel_rfl) (by kernel_rfl) e17
      have p24 := slot_norm q24
      have q25 := slot_at (t := 25) 18 ha (by kernel_rfl) (by kernel_rfl) (by kernel_rfl) e18
      have p25 := slot_norm q25
      have hg := slot_at (t := 23) 16 ha (by kernel_rfl) (by kernel_rfl) (by kernel_rfl) e16
      clear ha hd hst
      refine StepI.call (f := 6) (args := #[.agg #[.string m2, .string n2, .string i2], .agg #[.string m1, .string n1, .string i1]]) rfl (wanted_at rfl rfl hg) (by go_simp) ?_
      refine (H21.out w1).mono ?_
      rintro e w5 ⟨rfl, hb⟩
      exact ⟨_, rfl, rfl, Below.trans hI (hb.mono hI.size)⟩
    · intro us au w1 k20 hlo hhi ha hd hst hI
      obtain rfl : k20 = 0 := by omega
      have e16 := hd 16 _ (by kernel_rfl) rfl
      have e19 := hd 19 _ (by kernel_rfl) rfl
      have e12 := hd 12 _ (by kernel_rfl) rfl
      have q23 := slot_at (t := 23) 16 ha (by kernel_rfl) (by kernel_rfl) (by kernel_rfl) e16
      have p23 := slot_norm q23
      have q26 := slot_at (t := 26) 19 ha (by kernel_rfl) (by kernel_rfl) (by kernel_rfl) e19
      have p26 := slot_norm q26
      have hg := slot_at (t := 19) 12 ha (by kernel_rfl) (by kernel_rfl) (by kernel_rfl) e12
      clear ha hd hst
      exact StepI.pure (v := .bool false) rfl (wanted_at rfl rfl hg) (by go_simp) ⟨rfl, hI⟩
    · intro us au w1 k21 hlo hhi ha hd hst hI
      obtain rfl : k21 = 0 := by omega
      have e12 := hd 12 _ (by kernel_rfl) rfl
      have e20 := hd 20 _ (by kernel_rfl) rfl
      have q19 := slot_at (t := 19) 12 ha (by kernel_rfl) (by kernel_rfl) (by kernel_rfl) e12
      have p19 := slot_norm q19
      have q27 := slot_at (t := 27) 20 ha (by kernel_rfl) (by kernel_rfl) (by kernel_rfl) e20
      have p27 := slot_norm q27
      clear ha hd hst
      exact StepI.pure (v := .bool false) rfl rfl (by go_simp) ⟨rfl, hI⟩
  case done =>
    intro us w1 hI hd
    have hx := hd 21 _ (by decide) rfl
    have HB1 := Lib.hid hI
    clear hd hI
    simp only [putAll]
    go_simp
    clear hx
    have a1 := HE1.out.below HB1.out
    have k10 := a1.c0
    have k11 := a1.c1
    have k12 := a1.c2
    clear a1
    have a2 := HE2.out.below HB1.out
    have k20 := a2.c0
    have k21 := a2.c1
    have k22 := a2.c2
    clear a2
    go_wp2_with fail
    refine (H12.out w1).mono ?_
    rintro e w2 ⟨rfl, hb⟩
    have HB2 := Lib.hid (HB1.out.trans (hb.mono HB1.out.size))
    clear hb k10 k11 k12 k20 k21 k22
    have a2 := HE2.out.below HB2.out
    have k20 := a2.c0
    have k21 := a2.c1
    have k22 := a2.c2
    clear a2
    have a3 := HE3.out.below HB2.out
    have k30 := a3.c0
    have k31 := a3.c1
    have k32 := a3.c2
    clear a3
    go_wp2_with fail
    refine (H23.out w2).mono ?_
    rintro e w3 ⟨rfl, hb⟩
    have HB3 := Lib.hid (HB2.out.trans (hb.mono HB2.out.size))
    clear hb k20 k21 k22 k30 k31 k32
    go_wp2_with fail
    refine (awake8_any w3 (HEN.out.below HB3.out)).mono ?_
    rintro e w4 ⟨rfl, hb⟩
    have HW := Lib.hid (HB0.out.trans (Below.mono (HB3.out.trans (hb.mono HB3.out.size)) (Nat.le_of_lt HE1.out.lt)))
    clear hb
    go_wp2
    go_ret
    exact ⟨rfl, by rw [HG1.out]; exact HW.out⟩
set_option maxRecDepth 100000 in
set_option maxHeartbeats 4000000 in
theorem order_two (m1 n1 i1 m2 n2 i2 m3 n3 i3 : ByteArray) (w : World) (hE : EnvO w) (h12 : LessIs m1 n1 i1 m2 n2 i2 true) (r12 : LessRIs m1 n1 i1 m2 n2 i2 true) (h11 : LessIs m1 n1 i1 m1 n1 i1 false) (h21 : LessIs m2 n2 i2 m1 n1 i1 false) (h23 : LessIs m2 n2 i2 m3 n3 i3 true) (h13 : LessIs m1 n1 i1 m3 n3 i3 true) :
    Calls Tryd.prog 3 #[.agg #[.string m1, .string n1, .string i1], .agg #[.string m2, .string n2, .string i2], .agg #[.string m3, .string n3, .string i3]] w fun e w' => e = .returned (.bool true) ∧ Below w.heap.size w w' := by
  have H12 := Lib.hid h12
  have R12 := Lib.hid r12
  have H11 := Lib.hid h11
  clear h12 r12 h11
  have H21 := Lib.hid h21
  have H23 := Lib.hid h23
  clear h21 h23
  have H13 := Lib.hid h13
  clear h13
  have HE0 := Lib.hid hE
  clear hE
  go_enter Tryd.func3, Tryd.ntmps3
  go_upto_region 1 with (fail)
  have e1 := EnB.new w m1 n1 i1
  have e2 := EnB.new (w.alloc (.cells #[.string m1, .string n1, .string i1] 23)) m2 n2 i2
  have e3 := EnB.new ((w.alloc (.cells #[.string m1, .string n1, .string i1] 23)).alloc (.cells #[.string m2, .string n2, .string i2] 23)) m3 n3 i3
  have e1 := e1.below (Below.alloc (Below.refl _ _) (Nat.le_refl _) (.cells #[.string m2, .string n2, .string i2] 23))
  have e1 := e1.below (Below.alloc (Below.refl _ _) (Nat.le_refl _) (.cells #[.string m3, .string n3, .string i3] 23))
  have e2 := e2.below (Below.alloc (Below.refl _ _) (Nat.le_refl _) (.cells #[.string m3, .string n3, .string i3] 23))
  have hb0 : Below w.heap.size w (((w.alloc (.cells #[.string m1, .string n1, .string i1] 23)).alloc (.cells #[.string m2, .string n2, .string i2] 23)).alloc (.cells #[.string m3, .string n3, .string i3] 23)) := (((Below.refl _ _).alloc (Nat.le_refl _) _).alloc (by simp) _).alloc (by simp; omega) _
  rw [show (w.alloc (.cells #[.string m1, .string n1, .string i1] 23)).heap.size = w.heap.size + 1 by simp] at e2
  rw [show ((w.alloc (.cells #[.string m1, .string n1, .string i1] 23)).alloc (.cells #[.string m2, .string n2, .string i2] 23)).heap.size = w.heap.size + 1 + 1 by simp] at e3
  generalize (((w.alloc (.cells #[.string m1, .string n1, .string i1] 23)).alloc (.cells #[.string m2, .string n2, .string i2] 23)).alloc (.cells #[.string m3, .string n3, .string i3] 23)) = w0 at *
  have HB0 := Lib.hid hb0
  have HE1 := Lib.hid e1
  have HE2 := Lib.hid e2
  have HE3 := Lib.hid e3
  have HEN := Lib.hid (HE0.out.below hb0)
  clear hb0 e1 e2 e3
  generalize hg1 : w.heap.size = g1 at *
  have HG1 := Lib.hid hg1
  clear hg1
  generalize hg2 : g1 + 1 = g2 at *
  generalize hg3 : g2 + 1 = g3 at *
  clear hg2 hg3
  refine wp_region_ph (by kernel_rfl) [] [.span 0 0, .span 0 0, .span 0 0, .span 0 0, .span 0 0, .span 0 0, .span 0 0, .span 0 0, .span 0 0, .span 0 0, .span 0 0, .span 0 0, .span 0 0, .span 0 0, .span 0 0, .span 0 0, .span 0 0, .span 0 0, .span 0 0, .span 0 0, .span 0 0, .span 0 0] [fun z9 => z9 = .agg #[.string m1, .string n1, .string i1], fun z9 => z9 = .agg #[.string m2, .string n2, .string i2], fun z9 => z9 = .bool true, fun z9 => z9 = .agg #[.string m1, .string n1, .string i1], fun z9 => z9 = .agg #[.string m2, .string n2, .string i2], fun z9 => z9 = .bool true, fun z9 => z9 = .bool false, fun z9 => z9 = .bool false, fun z9 => z9 = .agg #[.string m1, .string n1, .string i1], fun z9 => z9 = .agg #[.string m1, .string n1, .string i1], fun z9 => z9 = .bool false, fun z9 => z9 = .bool false, fun z9 => z9 = .bool false, fun z9 => z9 = .agg #[.string m1, .string n1, .string i1], fun z9 => z9 = .agg #[.string m2, .string n2, .string i2], fun z9 => z9 = .bool true, fun z9 => z9 = .bool true, fun z9 => z9 = .agg #[.string m2, .string n2, .string i2], fun z9 => z9 = .agg #[.string m1, .string n1, .string i1], fun z9 => z9 = .bool false, fun z9 => z9 = .bool false, fun z9 => z9 = .bool false] ((fun _ w => Below w0.heap.size w0 w)) (by kernel_rfl) (by kernel_rfl) (by kernel_rfl) (by kernel_rfl) (by kernel_rfl) (by kernel_rfl) rfl rfl ((Below.refl _ _).drew) ?steps ?done
  case steps =>
    refine ⟨?_, ?_, ?_, ?_, ?_, ?_, ?_, ?_, ?_, ?_, ?_, ?_, ?_, ?_, ?_, ?_, ?_, ?_, ?_, ?_, ?_, ?_, trivial⟩
    · intro us au w1 k0 hlo hhi ha hd hst hI
      obtain rfl : k0 = 0 := by omega
      have q3 := slot_far (t := 3) (v := .pointer (some ⟨g1, 0, none⟩)) ha (by kernel_rfl) (by kernel_rfl)
      have p3 := slot_norm q3
      clear ha hd hst
      have kk := HE1.out.below hI
      have k0 := kk.c0
      have k1 := kk.c1
      have k2 := kk.c2
      exact StepI.pure (v := .agg #[.string m1, .string n1, .string i1]) rfl rfl (by go_simp) ⟨rfl, hI⟩
    · intro us au w1 k1 hlo hhi ha hd hst hI
      obtain rfl : k1 = 0 := by omega
      have q4 := slot_far (t := 4) (v := .pointer (some ⟨g2, 0, none⟩)) ha (by kernel_rfl) (by kernel_rfl)
      have p4 := slot_norm q4
      clear ha hd hst
      have kk := HE2.out.below hI
      have k0 := kk.c0
      have k1 := kk.c1
      have k2 := kk.c2
      exact StepI.pure (v := .agg #[.string m2, .string n2, .string i2]) rfl rfl (by go_simp) ⟨rfl, hI⟩
    · intro us au w1 k2 hlo hhi ha hd hst hI
      obtain rfl : k2 = 0 := by omega
      have e0 := hd 0 _ (by kernel_rfl) rfl
      have e1 := hd 1 _ (by kernel_rfl) rfl
      have q7 := slot_at (t := 7) 0 ha (by kernel_rfl) (by kernel_rfl) (by kernel_rfl) e0
      have p7 := slot_norm q7
      have q8 := slot_at (t := 8) 1 ha (by kernel_rfl) (by kernel_rfl) (by kernel_rfl) e1
      have p8 := slot_norm q8
      clear ha hd hst
      refine StepI.call (f := 6) (args := #[.agg #[.string m1, .string n1, .string i1], .agg #[.string m2, .string n2, .string i2]]) rfl rfl (by go_simp) ?_
      refine (H12.out w1).mono ?_
      rintro e w5 ⟨rfl, hb⟩
      exact ⟨_, rfl, rfl, Below.trans hI (hb.mono hI.size)⟩
    · intro us au w1 k3 hlo hhi ha hd hst hI
      obtain rfl : k3 = 0 := by omega
      have q3 := slot_far (t := 3) (v := .pointer (some ⟨g1, 0, none⟩)) ha (by kernel_rfl) (by kernel_rfl)
      have p3 := slot_norm q3
      clear ha hd hst
      have kk := HE1.out.below hI
      have k0 := kk.c0
      have k1 := kk.c1
      have k2 := kk.c2
      exact StepI.pure (v := .agg #[.string m1, .string n1, .string i1]) rfl rfl (by go_simp) ⟨rfl, hI⟩
    · intro us au w1 k4 hlo hhi ha hd hst hI
      obtain rfl : k4 = 0 := by omega
      have q4 := slot_far (t := 4) (v := .pointer (some ⟨g2, 0, none⟩)) ha (by kernel_rfl) (by kernel_rfl)
      have p4 := slot_norm q4
      clear ha hd hst
      have kk := HE2.out.below hI
      have k0 := kk.c0
      have k1 := kk.c1
      have k2 := kk.c2
      exact StepI.pure (v := .agg #[.string m2, .string n2, .string i2]) rfl rfl (by go_simp) ⟨rfl, hI⟩
    · intro us au w1 k5 hlo hhi ha hd hst hI
      obtain rfl : k5 = 0 := by omega
      have e3 := hd 3 _ (by kernel_rfl) rfl
      have e4 := hd 4 _ (by kernel_rfl) rfl
      have q10 := slot_at (t := 10) 3 ha (by kernel_rfl) (by kernel_rfl) (by kernel_rfl) e3
      have p10 := slot_norm q10
      have q11 := slot_at (t := 11) 4 ha (by kernel_rfl) (by kernel_rfl) (by kernel_rfl) e4
      have p11 := slot_norm q11
      clear ha hd hst
      refine StepI.call (f := 7) (args := #[.agg #[.string m1, .string n1, .string i1], .agg #[.string m2, .string n2, .string i2]]) rfl rfl (by go_simp) ?_
      refine (R12.out w1).mono ?_
      rintro e w5 ⟨rfl, hb⟩
      exact ⟨_, rfl, rfl, Below.trans hI (hb.mono hI.size)⟩
    · intro us au w1 k6 hlo hhi ha hd hst hI
      obtain rfl : k6 = 0 := by omega
      have e2 := hd 2 _ (by kernel_rfl) rfl
      have e5 := hd 5 _ (by kernel_rfl) rfl
      have q9 := slot_at (t := 9) 2 ha (by kernel_rfl) (by kernel_rfl) (by kernel_rfl) e2
      have p9 := slot_norm q9
      have q12 := slot_at (t := 12) 5 ha (by kernel_rfl) (by kernel_rfl) (by kernel_rfl) e5
      have p12 := slot_norm q12
      clear ha hd hst
      exact StepI.pure (v := .bool false) rfl rfl (by go_simp) ⟨rfl, hI⟩
    · intro us au w1 k7 hlo hhi ha hd hst hI
      obtain rfl : k7 = 0 := by omega
      have e6 := hd 6 _ (by kernel_rfl) rfl
      have q13 := slot_at (t := 13) 6 ha (by kernel_rfl) (by kernel_rfl) (by kernel_rfl) e6
      have p13 := slot_norm q13
      clear ha hd hst
      exact StepI.pure (v := .bool false) rfl rfl (by go_simp) ⟨rfl, hI⟩
    · intro us au w1 k8 hlo hhi ha hd hst hI
      obtain rfl : k8 = 0 := by omega
      have e7 := hd 7 _ (by kernel_rfl) rfl
      have q3 := slot_far (t := 3) (v := .pointer (some ⟨g1, 0, none⟩)) ha (by kernel_rfl) (by kernel_rfl)
      have p3 := slot_norm q3
      have hg := slot_at (t := 14) 7 ha (by kernel_rfl) (by kernel_rfl) (by kernel_rfl) e7
      clear ha hd hst
      have kk := HE1.out.below hI
      have k0 := kk.c0
      have k1 := kk.c1
      have k2 := kk.c2
      exact StepI.pure (v := .agg #[.string m1, .string n1, .string i1]) rfl (wanted_at rfl rfl hg) (by go_simp) ⟨rfl, hI⟩
    · intro us au w1 k9 hlo hhi ha hd hst hI
      obtain rfl : k9 = 0 := by omega
      have e7 := hd 7 _ (by kernel_rfl) rfl
      have q3 := slot_far (t := 3) (v := .pointer (some ⟨g1, 0, none⟩)) ha (by kernel_rfl) (by kernel_rfl)
      have p3 := slot_norm q3
      have hg := slot_at (t := 14) 7 ha (by kernel_rfl) (by kernel_rfl) (by kernel_rfl) e7
      clear ha hd hst
      have kk := HE1.out.below hI
      have k0 := kk.c0
      have k1 := kk.c1
      have k2 := kk.c2
      exact StepI.pure (v := .agg #[.string m1, .string n1, .string i1]) rfl (wanted_at rfl rfl hg) (by go_simp) ⟨rfl, hI⟩
    · intro us au w1 k10 hlo hhi ha hd hst hI
      obtain rfl : k10 = 0 := by omega
      have e8 := hd 8 _ (by kernel_rfl) rfl
      have e9 := hd 9 _ (by kernel_rfl) rfl
      have e7 := hd 7 _ (by kernel_rfl) rfl
      have q15 := slot_at (t := 15) 8 ha (by kernel_rfl) (by kernel_rfl) (by kernel_rfl) e8
      have p15 := slot_norm q15
      have q16 := slot_at (t := 16) 9 ha (by kernel_rfl) (by kernel_rfl) (by kernel_rfl) e9
      have p16 := slot_norm q16
      have hg := slot_at (t := 14) 7 ha (by kernel_rfl) (by kernel_rfl) (by kernel_rfl) e7
      clear ha hd hst
      refine StepI.call (f := 6) (args := #[.agg #[.string m1, .string n1, .string i1], .agg #[.string m1, .string n1, .string i1]]) rfl (wanted_at rfl rfl hg) (by go_simp) ?_
      refine (H11.out w1).mono ?_
      rintro e w5 ⟨rfl, hb⟩
      exact ⟨_, rfl, rfl, Below.trans hI (hb.mono hI.size)⟩
    · intro us au w1 k11 hlo hhi ha hd hst hI
      obtain rfl : k11 = 0 := by omega
      have e7 := hd 7 _ (by kernel_rfl) rfl
      have e10 := hd 10 _ (by kernel_rfl) rfl
      have q14 := slot_at (t := 14) 7 ha (by kernel_rfl) (by kernel_rfl) (by kernel_rfl) e7
      have p14 := slot_norm q14
      have q17 := slot_at (t := 17) 10 ha (by kernel_rfl) (by kernel_rfl) (by kernel_rfl) e10
      have p17 := slot_norm q17
      clear ha hd hst
      exact StepI.pure (v := .bool false) rfl rfl (by go_simp) ⟨rfl, hI⟩
    · intro us au w1 k12 hlo hhi ha hd hst hI
      obtain rfl : k12 = 0 := by omega
      have e11 := hd 11 _ (by kernel_rfl) rfl
      have q18 := slot_at (t := 18) 11 ha (by kernel_rfl) (by kernel_rfl) (by kernel_rfl) e11
      have p18 := slot_norm q18
      clear ha hd hst
      exact StepI.pure (v := .bool false) rfl rfl (by go_simp) ⟨rfl, hI⟩
    · intro us au w1 k13 hlo hhi ha hd hst hI
      obtain rfl : k13 = 0 := by omega
      have e12 := hd 12 _ (by kernel_rfl) rfl
      have q3 := slot_far (t := 3) (v := .pointer (some ⟨g1, 0, none⟩)) ha (by kernel_rfl) (by kernel_rfl)
      have p3 := slot_norm q3
      have hg := slot_at (t := 19) 12 ha (by kernel_rfl) (by kernel_rfl) (by kernel_rfl) e12
      clear ha hd hst
      have kk := HE1.out.below hI
      have k0 := kk.c0
      have k1 := kk.c1
      have k2 := kk.c2
      exact StepI.pure (v := .agg #[.string m1, .string n1, .string i1]) rfl (wanted_at rfl rfl hg) (by go_simp) ⟨rfl, hI⟩
    · intro us au w1 k14 hlo hhi ha hd hst hI
      obtain rfl : k14 = 0 := by omega
      have e12 := hd 12 _ (by kernel_rfl) rfl
      have q4 := slot_far (t := 4) (v := .pointer (some ⟨g2, 0, none⟩)) ha (by kernel_rfl) (by kernel_rfl)
      have p4 := slot_norm q4
      have hg := slot_at (t := 19) 12 ha (by kernel_rfl) (by kernel_rfl) (by kernel_rfl) e12
      clear ha hd hst
      have kk := HE2.out.below hI
      have k0 := kk.c0
      have k1 := kk.c1
      have k2 := kk.c2
      exact StepI.pure (v := .agg #[.string m2, .string n2, .string i2]) rfl (wanted_at rfl rfl hg) (by go_simp) ⟨rfl, hI⟩
    · intro us au w1 k15 hlo hhi ha hd hst hI
      obtain rfl : k15 = 0 := by omega
      have e13 := hd 13 _ (by kernel_rfl) rfl
      have e14 := hd 14 _ (by kernel_rfl) rfl
      have e12 := hd 12 _ (by kernel_rfl) rfl
      have q20 := slot_at (t := 20) 13 ha (by kernel_rfl) (by kernel_rfl) (by kernel_rfl) e13
      have p20 := slot_norm q20
      have q21 := slot_at (t := 21) 14 ha (by kernel_rfl) (by kernel_rfl) (by kernel_rfl) e14
      have p21 := slot_norm q21
      have hg := slot_at (t := 19) 12 ha (by kernel_rfl) (by kernel_rfl) (by kernel_rfl) e12
      clear ha hd hst
      refine StepI.call (f := 6) (args := #[.agg #[.string m1, .string n1, .string i1], .agg #[.string m2, .string n2, .string i2]]) rfl (wanted_at rfl rfl hg) (by go_simp) ?_
      refine (H12.out w1).mono ?_
      rintro e w5 ⟨rfl, hb⟩
      exact ⟨_, rfl, rfl, Below.trans hI (hb.mono hI.size)⟩
    · intro us au w1 k16 hlo hhi ha hd hst hI
      obtain rfl : k16 = 0 := by omega
      have e15 := hd 15 _ (by kernel_rfl) rfl
      have e12 := hd 12 _ (by kernel_rfl) rfl
      have q22 := slot_at (t := 22) 15 ha (by kernel_rfl) (by kernel_rfl) (by kernel_rfl) e15
      have p22 := slot_norm q22
      have hg := slot_at (t := 19) 12 ha (by kernel_rfl) (by kernel_rfl) (by kernel_rfl) e12
      clear ha hd hst
      exact StepI.pure (v := .bool true) rfl (wanted_at rfl rfl hg) (by go_simp) ⟨rfl, hI⟩
    · intro us au w1 k17 hlo hhi ha hd hst hI
      obtain rfl : k17 = 0 := by omega
      have e16 := hd 16 _ (by kernel_rfl) rfl
      have q4 := slot_far (t := 4) (v := .pointer (some ⟨g2, 0, none⟩)) ha (by kernel_rfl) (by kernel_rfl)
      have p4 := slot_norm q4
      have hg := slot_at (t := 23) 16 ha (by kernel_rfl) (by kernel_rfl) (by kernel_rfl) e16
      clear ha hd hst
      have kk := HE2.out.below hI
      have k0 := kk.c0
      have k1 := kk.c1
      have k2 := kk.c2
      exact StepI.pure (v := .agg #[.string m2, .string n2, .string i2]) rfl (wanted_at rfl rfl hg) (by go_simp) ⟨rfl, hI⟩
    · intro us au w1 k18 hlo hhi ha hd hst hI
      obtain rfl : k18 = 0 := by omega
      have e16 := hd 16 _ (by kernel_rfl) rfl
      have q3 := slot_far (t := 3) (v := .pointer (some ⟨g1, 0, none⟩)) ha (by kernel_rfl) (by kernel_rfl)
      have p3 := slot_norm q3
      have hg := slot_at (t := 23) 16 ha (by kernel_rfl) (by kernel_rfl) (by kernel_rfl) e16
      clear ha hd hst
      have kk := HE1.out.below hI
      have k0 := kk.c0
      have k1 := kk.c1
      have k2 := kk.c2
      exact StepI.pure (v := .agg #[.string m1, .string n1, .string i1]) rfl (wanted_at rfl rfl hg) (by go_simp) ⟨rfl, hI⟩
    · intro us au w1 k19 hlo hhi ha hd hst hI
      obtain rfl : k19 = 0 := by omega
      have e17 := hd 17 _ (by kernel_rfl) rfl
      have e18 := hd 18 _ (by kernel_rfl) rfl
      have e16 := hd 16 _ (by kernel_rfl) rfl
      have q24 := slot_at (t := 24) 17 ha (by kernel_rfl) (by kernel_rfl) (by kernel_rfl) e17
      have p24 := slot_norm q24
      have q25 := slot_at (t := 25) 18 ha (by kernel_rfl) (by kernel_rfl) (by kernel_rfl) e18
      have p25 := slot_norm q25
      have hg := slot_at (t := 23) 16 ha (by kernel_rfl) (by kernel_rfl) (by kernel_rfl) e16
      clear ha hd hst
      refine StepI.call (f := 6) (args := #[.agg #[.string m2, .string n2, .string i2], .agg #[.string m1, .string n1, .string i1]]) rfl (wanted_at rfl rfl hg) (by go_simp) ?_
      refine (H21.out w1).mono ?_
      rintro e w5 ⟨rfl, hb⟩
      exact ⟨_, rfl, rfl, Below.trans hI (hb.mono hI.size)⟩
    · intro us au w1 k20 hlo hhi ha hd hst hI
      obtain rfl : k20 = 0 := by omega
      have e16 := hd 16 _ (by kernel_rfl) rfl
      have e19 := hd 19 _ (by kernel_rfl) rfl
      have e12 := hd 12 _ (by kernel_rfl) rfl
      have q23 := slot_at (t := 23) 16 ha (by kernel_rfl) (by kernel_rfl) (by kernel_rfl) e16
      have p23 := slot_norm q23
      have q26 := slot_at (t := 26) 19 ha (by kernel_rfl) (by kernel_rfl) (by kernel_rfl) e19
      have p26 := slot_norm q26
      have hg := slot_at (t := 19) 12 ha (by kernel_rfl) (by kernel_rfl) (by kernel_rfl) e12
      clear ha hd hst
      exact StepI.pure (v := .bool false) rfl (wanted_at rfl rfl hg) (by go_simp) ⟨rfl, hI⟩
    · intro us au w1 k21 hlo hhi ha hd hst hI
      obtain rfl : k21 = 0 := by omega
      have e12 := hd 12 _ (by kernel_rfl) rfl
      have e20 := hd 20 _ (by kernel_rfl) rfl
      have q19 := slot_at (t := 19) 12 ha (by kernel_rfl) (by kernel_rfl) (by kernel_rfl) e12
      have p19 := slot_norm q19
      have q27 := slot_at (t := 27) 20 ha (by kernel_rfl) (by kernel_rfl) (by kernel_rfl) e20
      have p27 := slot_norm q27
      clear ha hd hst
      exact StepI.pure (v := .bool false) rfl rfl (by go_simp) ⟨rfl, hI⟩
  case done =>
    intro us w1 hI hd
    have hx := hd 21 _ (by decide) rfl
    have HB1 := Lib.hid hI
    clear hd hI
    simp only [putAll]
    go_simp
    clear hx
    have a1 := HE1.out.below HB1.out
    have k10 := a1.c0
    have k11 := a1.c1
    have k12 := a1.c2
    clear a1
    have a2 := HE2.out.below HB1.out
    have k20 := a2.c0
    have k21 := a2.c1
    have k22 := a2.c2
    clear a2
    go_wp2_with fail
    refine (H12.out w1).mono ?_
    rintro e w2 ⟨rfl, hb⟩
    have HB2 := Lib.hid (HB1.out.trans (hb.mono HB1.out.size))
    clear hb k10 k11 k12 k20 k21 k22
    have a2 := HE2.out.below HB2.out
    have k20 := a2.c0
    have k21 := a2.c1
    have k22 := a2.c2
    clear a2
    have a3 := HE3.out.below HB2.out
    have k30 := a3.c0
    have k31 := a3.c1
    have k32 := a3.c2
    clear a3
    go_wp2_with fail
    refine (H23.out w2).mono ?_
    rintro e w3 ⟨rfl, hb⟩
    have HB3 := Lib.hid (HB2.out.trans (hb.mono HB2.out.size))
    clear hb k20 k21 k22 k30 k31 k32
    have a1 := HE1.out.below HB3.out
    have k10 := a1.c0
    have k11 := a1.c1
    have k12 := a1.c2
    clear a1
    have a3 := HE3.out.below HB3.out
    have k30 := a3.c0
    have k31 := a3.c1
    have k32 := a3.c2
    clear a3
    go_wp2_with fail
    refine (H13.out w3).mono ?_
    rintro e w4 ⟨rfl, hb⟩
    have HB4 := Lib.hid (HB3.out.trans (hb.mono HB3.out.size))
    clear hb k10 k11 k12 k30 k31 k32
    go_wp2_with fail
    refine (awake8_any w4 (HEN.out.below HB4.out)).mono ?_
    rintro e w5 ⟨rfl, hb⟩
    have HW := Lib.hid (HB0.out.trans (Below.mono (HB4.out.trans (hb.mono HB4.out.size)) (Nat.le_of_lt HE1.out.lt)))
    clear hb
    go_wp2
    go_ret
    exact ⟨rfl, by rw [HG1.out]; exact HW.out⟩
theorem objectOrder_walk (m1 n1 i1 m2 n2 i2 m3 n3 i3 : ByteArray) (w : World) (hE : EnvO w) (h1 : n1.size ≤ 140737488351232) (h2 : n2.size ≤ 140737488351232) (h3 : n3.size ≤ 140737488351232) :
    Calls Tryd.prog 3 #[.agg #[.string m1, .string n1, .string i1], .agg #[.string m2, .string n2, .string i2], .agg #[.string m3, .string n3, .string i3]] w fun e w' => e = .returned (.bool true) ∧ Below w.heap.size w w' := by
  have h11 : LessIs m1 n1 i1 m1 n1 i1 false := fun w => by
    have h := less_any m1 n1 i1 m1 n1 i1 w h1 h1
    rwa [show lessB m1 n1 m1 n1 = false from less_irr _] at h
  cases ab : lessB m1 n1 m2 n2
  · exact order_no m1 n1 i1 m2 n2 i2 m3 n3 i3 w hE (fun w => by rw [← ab]; exact less_any m1 n1 i1 m2 n2 i2 w h1 h2) (fun w => by rw [← ab]; exact lessR_any m1 n1 i1 m2 n2 i2 w h1 h2) h11
  · have ba : lessB m2 n2 m1 n1 = false := less_asym _ _ ab
    cases bc : lessB m2 n2 m3 n3
    · exact order_one m1 n1 i1 m2 n2 i2 m3 n3 i3 w hE (fun w => by rw [← ab]; exact less_any m1 n1 i1 m2 n2 i2 w h1 h2) (fun w => by rw [← ab]; exact lessR_any m1 n1 i1 m2 n2 i2 w h1 h2) h11 (fun w => by rw [← ba]; exact less_any m2 n2 i2 m1 n1 i1 w h2 h1) (fun w => by rw [← bc]; exact less_any m2 n2 i2 m3 n3 i3 w h2 h3)
    · have ac : lessB m1 n1 m3 n3 = true := less_trans _ _ _ ab bc
      exact order_two m1 n1 i1 m2 n2 i2 m3 n3 i3 w hE (fun w => by rw [← ab]; exact less_any m1 n1 i1 m2 n2 i2 w h1 h2) (fun w => by rw [← ab]; exact lessR_any m1 n1 i1 m2 n2 i2 w h1 h2) h11 (fun w => by rw [← ba]; exact less_any m2 n2 i2 m1 n1 i1 w h2 h1) (fun w => by rw [← bc]; exact less_any m2 n2 i2 m3 n3 i3 w h2 h3) (fun w => by rw [← ac]; exact less_any m1 n1 i1 m3 n3 i3 w h1 h3)
end Go.Proofs.YtdlabapfcghfmaaDoor
