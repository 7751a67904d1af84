/- object.Less, stemmaref8.Less (printed by genobl.py). -/
import Derived.Test.YtdlabapfcghfmaaDoorObL
import Derived.Test.YtdlabapfcghfmaaDoorPh
namespace Go.Proofs.YtdlabapfcghfmaaDoor
open Go.RowKit
set_option linter.unusedVariables false
set_option linter.unusedSimpArgs false

/-- An entry in memory. -/
structure EnB (w : World) (g : Nat) (m n i : ByteArray) : Prop where
  c0 : w.cell? ⟨g, 0, none⟩ = some (.string m)
  c1 : w.cell? ⟨g, 1, none⟩ = some (.string n)
  c2 : w.cell? ⟨g, 2, none⟩ = some (.string i)
theorem EnB.lt {w : World} {g : Nat} {m n i : ByteArray} (h : EnB w g m n i) : g < w.heap.size := World.block_lt_of_cell? w _ h.c0
theorem EnB.below {w w' : World} {g : Nat} {m n i : ByteArray} (h : EnB w g m n i) (hb : Below w.heap.size w w') : EnB w' g m n i :=
  ⟨by rw [hb.cell h.lt]; exact h.c0, by rw [hb.cell h.lt]; exact h.c1, by rw [hb.cell h.lt]; exact h.c2⟩
theorem EnB.new (w : World) (m n i : ByteArray) : EnB (w.alloc (.cells #[.string m, .string n, .string i] 23)) w.heap.size m n i :=
  ⟨by rw [World.cell?_alloc_at _ _ _ _ (by simp)]; rfl, by rw [World.cell?_alloc_at _ _ _ _ (by simp)]; rfl, by rw [World.cell?_alloc_at _ _ _ _ (by simp)]; rfl⟩
set_option maxRecDepth 100000 in
theorem less_any (m1 n1 i1 m2 n2 i2 : ByteArray) (w : World) (h1 : n1.size ≤ 140737488351232) (h2 : n2.size ≤ 140737488351232) :
    Calls Tryd.prog 6 #[.agg #[.string m1, .string n1, .string i1], .agg #[.string m2, .string n2, .string i2]] w fun e w' => e = .returned (.bool (lessB m1 n1 m2 n2)) ∧ Below w.heap.size w w' := by
  have HS1 := Lib.hid h1
  have HS2 := Lib.hid h2
  clear h1 h2
  go_enter Tryd.func6, Tryd.ntmps6
  go_upto_region 1 with (fail)
  have e1 := EnB.new w m1 n1 i1
  have e2 := EnB.new (w.alloc (.cells #[.string m1, .string n1, .string i1] 23)) m2 n2 i2
  have hb0 : Below w.heap.size w ((w.alloc (.cells #[.string m1, .string n1, .string i1] 23)).alloc (.cells #[.string m2, .string n2, .string i2] 23)) := ((Below.refl _ _).alloc (Nat.le_refl _) _).alloc (by simp) _
  have e1 := e1.below (Below.alloc (Below.refl _ _) (Nat.le_refl _) (.cells #[.string m2, .string n2, .string i2] 23))
  rw [show (w.alloc (.cells #[.string m1, .string n1, .string i1] 23)).heap.size = w.heap.size + 1 by simp] at e2
  generalize (w.alloc (.cells #[.string m1, .string n1, .string i1] 23)).alloc (.cells #[.string m2, .string n2, .string i2] 23) = w0 at *
  have HB0 := Lib.hid hb0
  have HE1 := Lib.hid e1
  have HE2 := Lib.hid e2
  clear hb0 e1 e2
  generalize hg1 : w.heap.size = g1 at *
  have HG1 := Lib.hid hg1
  clear hg1
  generalize hg2 : g1 + 1 = g2 at *
  clear hg2
  refine wp_region_ph (by kernel_rfl) [] [.span 0 0, .span 0 0, .span 0 0, .span 0 0, .span 0 0, .span 0 0] [fun z9 => z9 = .agg #[.string m1, .string n1, .string i1], fun z9 => z9 = .string (keyS m1 n1), fun z9 => z9 = .agg #[.string m2, .string n2, .string i2], fun z9 => z9 = .string (keyS m2 n2), fun z9 => z9 = .bool (lessB m1 n1 m2 n2), fun z9 => z9 = .bool (lessB m1 n1 m2 n2)] ((fun _ w => Below w0.heap.size w0 w)) (by kernel_rfl) (by kernel_rfl) (by kernel_rfl) (by kernel_rfl) (by kernel_rfl) (by kernel_rfl) rfl rfl ((Below.refl _ _).drew) ?steps ?done
  case steps =>
    refine ⟨?_, ?_, ?_, ?_, ?_, ?_, trivial⟩
    · intro us au w1 k0 hlo hhi ha hd hst hI
      obtain rfl : k0 = 0 := by omega
      have q2 := slot_far (t := 2) (v := .pointer (some ⟨g1, 0, none⟩)) ha (by kernel_rfl) (by kernel_rfl)
      have p2 := slot_norm q2
      clear ha hd hst
      have kk := HE1.out.below hI
      have k0 := kk.c0
      have k1 := kk.c1
      have k2 := kk.c2
      exact StepI.pure (v := .agg #[.string m1, .string n1, .string i1]) rfl rfl (by go_simp) ⟨rfl, hI⟩
    · intro us au w1 k1 hlo hhi ha hd hst hI
      obtain rfl : k1 = 0 := by omega
      have e0 := hd 0 _ (by kernel_rfl) rfl
      have q5 := slot_at (t := 5) 0 ha (by kernel_rfl) (by kernel_rfl) (by kernel_rfl) e0
      have p5 := slot_norm q5
      clear ha hd hst
      refine StepI.call (f := 23) (args := #[.agg #[.string m1, .string n1, .string i1]]) rfl rfl (by go_simp) ?_
      refine (key_any m1 n1 i1 w1 HS1.out).mono ?_
      rintro e w5 ⟨rfl, hb⟩
      exact ⟨_, rfl, rfl, Below.trans hI (hb.mono hI.size)⟩
    · intro us au w1 k2 hlo hhi ha hd hst hI
      obtain rfl : k2 = 0 := by omega
      have q3 := slot_far (t := 3) (v := .pointer (some ⟨g2, 0, none⟩)) ha (by kernel_rfl) (by kernel_rfl)
      have p3 := slot_norm q3
      clear ha hd hst
      have kk := HE2.out.below hI
      have k0 := kk.c0
      have k1 := kk.c1
      have k2 := kk.c2
      exact StepI.pure (v := .agg #[.string m2, .string n2, .string i2]) rfl rfl (by go_simp) ⟨rfl, hI⟩
    · intro us au w1 k3 hlo hhi ha hd hst hI
      obtain rfl : k3 = 0 := by omega
      have e2 := hd 2 _ (by kernel_rfl) rfl
      have q7 := slot_at (t := 7) 2 ha (by kernel_rfl) (by kernel_rfl) (by kernel_rfl) e2
      have p7 := slot_norm q7
      clear ha hd hst
      refine StepI.call (f := 23) (args := #[.agg #[.string m2, .string n2, .string i2]]) rfl rfl (by go_simp) ?_
      refine (key_any m2 n2 i2 w1 HS2.out).mono ?_
      rintro e w5 ⟨rfl, hb⟩
      exact ⟨_, rfl, rfl, Below.trans hI (hb.mono hI.size)⟩
    · intro us au w1 k4 hlo hhi ha hd hst hI
      obtain rfl : k4 = 0 := by omega
      have e1 := hd 1 _ (by kernel_rfl) rfl
      have e3 := hd 3 _ (by kernel_rfl) rfl
      have q6 := slot_at (t := 6) 1 ha (by kernel_rfl) (by kernel_rfl) (by kernel_rfl) e1
      have p6 := slot_norm q6
      have q8 := slot_at (t := 8) 3 ha (by kernel_rfl) (by kernel_rfl) (by kernel_rfl) e3
      have p8 := slot_norm q8
      clear ha hd hst
      exact StepI.pure (v := .bool (lessB m1 n1 m2 n2)) rfl rfl (by go_simp; rfl) ⟨rfl, hI⟩
    · intro us au w1 k5 hlo hhi ha hd hst hI
      obtain rfl : k5 = 0 := by omega
      have e4 := hd 4 _ (by kernel_rfl) rfl
      have q9 := slot_at (t := 9) 4 ha (by kernel_rfl) (by kernel_rfl) (by kernel_rfl) e4
      have p9 := slot_norm q9
      clear ha hd hst
      exact StepI.pure (v := .bool (lessB m1 n1 m2 n2)) rfl rfl (by go_simp) ⟨rfl, hI⟩
  case done =>
    intro us w1 hI hd
    have e5 := hd 5 _ (by decide) rfl
    have HW := Lib.hid (HB0.out.trans (Below.mono hI (Nat.le_of_lt HE1.out.lt)))
    clear hd hI
    simp only [putAll]
    go_simp
    go_wp2
    go_ret
    exact ⟨rfl, by rw [HG1.out]; exact HW.out⟩
set_option maxRecDepth 100000 in
theorem lessR_any (m1 n1 i1 m2 n2 i2 : ByteArray) (w : World) (h1 : n1.size ≤ 140737488351232) (h2 : n2.size ≤ 140737488351232) :
    Calls Tryd.prog 7 #[.agg #[.string m1, .string n1, .string i1], .agg #[.string m2, .string n2, .string i2]] w fun e w' => e = .returned (.bool (lessB m1 n1 m2 n2)) ∧ Below w.heap.size w w' := by
  have HS1 := Lib.hid h1
  have HS2 := Lib.hid h2
  clear h1 h2
  go_enter Tryd.func7, Tryd.ntmps7
  go_upto_region 1 with (fail)
  have e1 := EnB.new w m1 n1 i1
  have e2 := EnB.new (w.alloc (.cells #[.string m1, .string n1, .string i1] 23)) m2 n2 i2
  have hb0 : Below w.heap.size w ((w.alloc (.cells #[.string m1, .string n1, .string i1] 23)).alloc (.cells #[.string m2, .string n2, .string i2] 23)) := ((Below.refl _ _).alloc (Nat.le_refl _) _).alloc (by simp) _
  have e1 := e1.below (Below.alloc (Below.refl _ _) (Nat.le_refl _) (.cells #[.string m2, .string n2, .string i2] 23))
  rw [show (w.alloc (.cells #[.string m1, .string n1, .string i1] 23)).heap.size = w.heap.size + 1 by simp] at e2
  generalize (w.alloc (.cells #[.string m1, .string n1, .string i1] 23)).alloc (.cells #[.string m2, .string n2, .string i2] 23) = w0 at *
  have HB0 := Lib.hid hb0
  have HE1 := Lib.hid e1
  have HE2 := Lib.hid e2
  clear hb0 e1 e2
  generalize hg1 : w.heap.size = g1 at *
  have HG1 := Lib.hid hg1
  clear hg1
  generalize hg2 : g1 + 1 = g2 at *
  clear hg2
  refine wp_region_ph (by kernel_rfl) [] [.span 0 0, .span 0 0, .span 0 0, .span 0 0, .span 0 0, .span 0 0] [fun z9 => z9 = .agg #[.string m1, .string n1, .string i1], fun z9 => z9 = .string (keyS m1 n1), fun z9 => z9 = .agg #[.string m2, .string n2, .string i2], fun z9 => z9 = .string (keyS m2 n2), fun z9 => z9 = .bool (lessB m1 n1 m2 n2), fun z9 => z9 = .bool (lessB m1 n1 m2 n2)] ((fun _ w => Below w0.heap.size w0 w)) (by kernel_rfl) (by kernel_rfl) (by kernel_rfl) (by kernel_rfl) (by kernel_rfl) (by kernel_rfl) rfl rfl ((Below.refl _ _).drew) ?steps ?done
  case steps =>
    refine ⟨?_, ?_, ?_, ?_, ?_, ?_, trivial⟩
    · intro us au w1 k0 hlo hhi ha hd hst hI
      obtain rfl : k0 = 0 := by omega
      have q2 := slot_far (t := 2) (v := .pointer (some ⟨g1, 0, none⟩)) ha (by kernel_rfl) (by kernel_rfl)
      have p2 := slot_norm q2
      clear ha hd hst
      have kk := HE1.out.below hI
      have k0 := kk.c0
      have k1 := kk.c1
      have k2 := kk.c2
      exact StepI.pure (v := .agg #[.string m1, .string n1, .string i1]) rfl rfl (by go_simp) ⟨rfl, hI⟩
    · intro us au w1 k1 hlo hhi ha hd hst hI
      obtain rfl : k1 = 0 := by omega
      have e0 := hd 0 _ (by kernel_rfl) rfl
      have q5 := slot_at (t := 5) 0 ha (by kernel_rfl) (by kernel_rfl) (by kernel_rfl) e0
      have p5 := slot_norm q5
      clear ha hd hst
      refine StepI.call (f := 24) (args := #[.agg #[.string m1, .string n1, .string i1]]) rfl rfl (by go_simp) ?_
      refine (keyR_any m1 n1 i1 w1 HS1.out).mono ?_
      rintro e w5 ⟨rfl, hb⟩
      exact ⟨_, rfl, rfl, Below.trans hI (hb.mono hI.size)⟩
    · intro us au w1 k2 hlo hhi ha hd hst hI
      obtain rfl : k2 = 0 := by omega
      have q3 := slot_far (t := 3) (v := .pointer (some ⟨g2, 0, none⟩)) ha (by kernel_rfl) (by kernel_rfl)
      have p3 := slot_norm q3
      clear ha hd hst
      have kk := HE2.out.below hI
      have k0 := kk.c0
      have k1 := kk.c1
      have k2 := kk.c2
      exact StepI.pure (v := .agg #[.string m2, .string n2, .string i2]) rfl rfl (by go_simp) ⟨rfl, hI⟩
    · intro us au w1 k3 hlo hhi ha hd hst hI
      obtain rfl : k3 = 0 := by omega
      have e2 := hd 2 _ (by kernel_rfl) rfl
      have q7 := slot_at (t := 7) 2 ha (by kernel_rfl) (by kernel_rfl) (by kernel_rfl) e2
      have p7 := slot_norm q7
      clear ha hd hst
      refine StepI.call (f := 24) (args := #[.agg #[.string m2, .string n2, .string i2]]) rfl rfl (by go_simp) ?_
      refine (keyR_any m2 n2 i2 w1 HS2.out).mono ?_
      rintro e w5 ⟨rfl, hb⟩
      exact ⟨_, rfl, rfl, Below.trans hI (hb.mono hI.size)⟩
    · intro us au w1 k4 hlo hhi ha hd hst hI
      obtain rfl : k4 = 0 := by omega
      have e1 := hd 1 _ (by kernel_rfl) rfl
      have e3 := hd 3 _ (by kernel_rfl) rfl
      have q6 := slot_at (t := 6) 1 ha (by kernel_rfl) (by kernel_rfl) (by kernel_rfl) e1
      have p6 := slot_norm q6
      have q8 := slot_at (t := 8) 3 ha (by kernel_rfl) (by kernel_rfl) (by kernel_rfl) e3
      have p8 := slot_norm q8
      clear ha hd hst
      exact StepI.pure (v := .bool (lessB m1 n1 m2 n2)) rfl rfl (by go_simp; rfl) ⟨rfl, hI⟩
    · intro us au w1 k5 hlo hhi ha hd hst hI
      obtain rfl : k5 = 0 := by omega
      have e4 := hd 4 _ (by kernel_rfl) rfl
      have q9 := slot_at (t := 9) 4 ha (by kernel_rfl) (by kernel_rfl) (by kernel_rfl) e4
      have p9 := slot_norm q9
      clear ha hd hst
      exact StepI.pure (v := .bool (lessB m1 n1 m2 n2)) rfl rfl (by go_simp) ⟨rfl, hI⟩
  case done =>
    intro us w1 hI hd
    have e5 := hd 5 _ (by decide) rfl
    have HW := Lib.hid (HB0.out.trans (Below.mono hI (Nat.le_of_lt HE1.out.lt)))
    clear hd hI
    simp only [putAll]
    go_simp
    go_wp2
    go_ret
    exact ⟨rfl, by rw [HG1.out]; exact HW.out⟩
end Go.Proofs.YtdlabapfcghfmaaDoor
