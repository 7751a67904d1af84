/- symMerge where one of the two stretches is one element: it is put in its place. -/
import Derived.Test.YtdmggpngmlhboaaSrtB
namespace Go.Proofs.Ytdmggpngmlhboaa
open Go.RowKit
set_option linter.unusedVariables false
set_option linter.unusedSimpArgs false

theorem cut_mid {α : Type} (l : List α) (n : Nat) (h : n < l.length) : ∃ a x b, l = a ++ x :: b ∧ a.length = n ∧ b.length + n + 1 = l.length := by
  obtain ⟨a, c, rfl, h1, h2⟩ := split_at l n (by omega)
  cases c with
  | nil => simp at h2 h; omega
  | cons x b => exact ⟨a, x, b, rfl, h1, by simp at h2 ⊢; omega⟩
set_option maxRecDepth 100000 in
set_option maxHeartbeats 8000000 in
theorem symMerge_one (g off cap N a m b : Nat) (p : List El) (x : El) (v s : List El) (W : World) (hS : SRow W 76 2 encE g off cap (p ++ [x] ++ v ++ s)) (hN : (p ++ [x] ++ v ++ s).length = N) (ha : p.length = a) (hm : a + 1 = m) (hb : m + v.length = b)
    (hv : Srt.Sorted ltE v) (hox : okE x) (hov : ∀ y ∈ v, okE y) (hNb : N ≤ 140737488355328) :
    Calls Try.prog 81 #[.slice (some ⟨g, off, none⟩) N cap, .int .i64 a, .int .i64 m, .int .i64 b, .func (.func 32) #[] #[]] W (SrtPost g off cap (p ++ Srt.mrg ltE [x] v ++ s) W) := by
  have hcap := hS.capLe
  unfold maxLen at hcap
  have hNc : N ≤ cap := by rw [← hN]; exact hcap.1
  have hcm : cap ≤ 9223372036854775807 := hcap.2
  have hlen : b + s.length = N := by simp at hN; omega
  have hbN : b ≤ N := by omega
  have hmb : m ≤ b := by omega
  have ham : a < m := by omega
  obtain ⟨n, hn⟩ : ∃ n, v.length = n := ⟨_, rfl⟩
  rw [hn] at hb
  have e0 : (m : Int) - (a : Int) = 1 := by omega
  obtain ⟨D, hD⟩ : ∃ D, D = p ++ [x] ++ v ++ s := ⟨_, rfl⟩
  have hlj : D[a]? = some x := by
    rw [hD, ← ha, List.append_assoc, List.append_assoc, List.getElem?_append_right (Nat.le_refl _), Nat.sub_self]; rfl
  have hat : ∀ (i : Nat) (y : El), v[i]? = some y → D[m + i]? = some y := fun i y hy => by
    have hi := (List.getElem?_eq_some_iff.1 hy).1
    rw [hD, List.getElem?_append_left (by simp; omega), List.getElem?_append_right (by simp; omega), show m + i - (p ++ [x]).length = i by simp; omega]
    exact hy
  rw [← hD] at hS
  have HS0 := Lib.hid (SrtAt.start hS)
  have HNU := Lib.hid hn
  have HAT := Lib.hid hat
  have hlj := Lib.hid hlj
  have HA := Lib.hid ha
  have HB := Lib.hid hb
  have HM := Lib.hid hm
  have HV := Lib.hid hv
  have HOV := Lib.hid hov
  have HOx := Lib.hid hox
  have HD := Lib.hid hD
  clear hS hN hcap ha hn hb hov hox hv hD hat hm hlen
  go_enter Try.func81, Try.ntmps81
  go_wp2
  clear e0
  go_loopw [10, 11] (fun iv jv wr => ∃ (i j : Nat) (v1 v2 v3 : List El), iv = .int .i64 i ∧ jv = .int .i64 j ∧ v = v1 ++ v2 ++ v3 ∧ i = m + v1.length ∧ j = i + v2.length ∧ j ≤ b ∧ (∀ y ∈ v1, ltE y x = true) ∧ (∀ y ∈ v3, ltE y x = false) ∧ SrtAt W g off cap D wr) (fun iv jv _ => (intOf jv).toNat - (intOf iv).toNat)
  case atStart => exact ⟨m, b, [], v, [], rfl, rfl, by simp, rfl, by rw [HNU.out]; exact HB.out.symm, Nat.le_refl _, (fun _ h => by cases h), (fun _ h => by cases h), HS0.out⟩
  case round =>
    clear HS0
    obtain ⟨i, j, v1, v2, v3, rfl, rfl, hv, hi, hj, hjb, h1, h3, hAt⟩ := hrel
    have Hv := Lib.hid hv
    have H1 := Lib.hid h1
    have H3 := Lib.hid h3
    have him : m ≤ i := by omega
    by_cases hlt : i < j
    · obtain ⟨h, hh⟩ : ∃ h, h = (i + j) / 2 := ⟨_, rfl⟩
      obtain ⟨q1, y, q2, hv2, hw1, hw2⟩ := cut_mid v2 (h - i) (by omega)
      have hli : D[h]? = some y := by
        have := HAT.out (h - m) y (by
          rw [hv, hv2, List.append_assoc, List.getElem?_append_right (by omega), show h - m - v1.length = q1.length by omega, List.append_assoc, List.getElem?_append_right (Nat.le_refl _), Nat.sub_self]; rfl)
        rwa [show m + (h - m) = h by omega] at this
      have hoy : okE y := HOV.out y (by rw [hv, hv2]; simp)
      have c1 : IntKind.u64.wrap ((i : Int) + (j : Int)) = (i : Int) + (j : Int) := IntWalk.u64_in _ (by omega)
      have c2 : ((i : Int) + (j : Int)) / 2 = (h : Int) := by omega
      have c3 : IntKind.i64.wrap (h : Int) = (h : Int) := IntWalk.i64_in _ (by omega)
      have c4 : (0 : Int) ≤ (h : Int) := by omega
      have c5 : (h : Int) < (N : Int) := by omega
      have c6 : (a : Int) < (N : Int) := by omega
      have hih : i ≤ h := by omega
      have hhj : h < j := by omega
      have HOy := Lib.hid hoy
      have hli := Lib.hid hli
      have HS := Lib.hid hAt.drew
      have HI := Lib.hid hi
      have HJ := Lib.hid hj
      have HV2 := Lib.hid hv2
      have HW1 := Lib.hid hw1
      have HW2 := Lib.hid hw2
      have HSV2 : Hid (Srt.Sorted ltE v2) := by have := HV.out; rw [hv] at this; exact Srt.Sorted.right (Srt.Sorted.left this)
      clear hAt hi hj hv2 hw1 hw2 hoy hv h1 h3 hh
      have hcl := cmpE_lt y x
      cases hyx : ltE y x
      · rw [hyx] at hcl
        have HX := Lib.hid hyx
        clear hyx
        go_upto_region 5 with (fail)
        clear c1 c2 c3
        refine wp_region_ph (by kernel_rfl) [9] [.span 0 0, .span 0 0, .span 0 0, .span 0 0, .span 0 0, .span 0 0, .span 0 0, .span 0 0, .span 0 0, .phase 0, .span 1 1] [fun z9 => z9 = .func (.func 32) #[] #[], fun z9 => z9 = .slice (some ⟨g, off, none⟩) N cap, fun z9 => z9 = .int .i64 (h), fun z9 => z9 = .pointer (some ⟨g, off + (h) * 2, none⟩), fun z9 => z9 = .agg #[.int .i64 y.w, .slice y.A y.n y.c], fun z9 => z9 = .slice (some ⟨g, off, none⟩) N cap, fun z9 => z9 = .int .i64 (a), fun z9 => z9 = .pointer (some ⟨g, off + (a) * 2, none⟩), fun z9 => z9 = .agg #[.int .i64 x.w, .slice x.A x.n x.c], fun z9 => z9 = .int .i64 (cmpE y x), fun z9 => z9 = .bool false] (fun _ w => SrtAt W g off cap (D) w) (by kernel_rfl) (by kernel_rfl) (by kernel_rfl) (by kernel_rfl) (by kernel_rfl) (by kernel_rfl) rfl rfl (HS.out) ?steps ?done
        case steps =>
          refine ⟨?_, ?_, ?_, ?_, ?_, ?_, ?_, ?_, ?_, ?_, ?_, trivial⟩
          · intro us au w1 k0 hlo hhi ha hd hst hI
            obtain rfl : k0 = 0 := by omega
            have q4 := slot_far (t := 4) (v := .func (.func 32) #[] #[]) ha (by kernel_rfl) (by kernel_rfl)
            have p4 := slot_norm q4
            clear ha hd hst
            exact StepI.pure (v := .func (.func 32) #[] #[]) rfl rfl (by go_simp) ⟨rfl, hI⟩
          · intro us au w1 k1 hlo hhi ha hd hst hI
            obtain rfl : k1 = 0 := by omega
            have q0 := slot_far (t := 0) (v := .slice (some ⟨g, off, none⟩) N cap) ha (by kernel_rfl) (by kernel_rfl)
            have p0 := slot_norm q0
            clear ha hd hst
            exact StepI.pure (v := .slice (some ⟨g, off, none⟩) N cap) rfl rfl (by go_simp) ⟨rfl, hI⟩
          · intro us au w1 k2 hlo hhi ha hd hst hI
            obtain rfl : k2 = 0 := by omega
            have q12 := slot_far (t := 12) (v := .int .i64 (h)) ha (by kernel_rfl) (by kernel_rfl)
            have p12 := slot_norm q12
            clear ha hd hst
            exact StepI.pure (v := .int .i64 (h)) rfl rfl (by go_simp) ⟨rfl, hI⟩
          · intro us au w1 k3 hlo hhi ha hd hst hI
            obtain rfl : k3 = 0 := by omega
            have e1 := hd 1 _ (by kernel_rfl) rfl
            have e2 := hd 2 _ (by kernel_rfl) rfl
            have q41 := slot_at (t := 41) 1 ha (by kernel_rfl) (by kernel_rfl) (by kernel_rfl) e1
            have p41 := slot_norm q41
            have q42 := slot_at (t := 42) 2 ha (by kernel_rfl) (by kernel_rfl) (by kernel_rfl) e2
            have p42 := slot_norm q42
            clear ha hd hst
            exact StepI.pure (v := .pointer (some ⟨g, off + (h) * 2, none⟩)) rfl rfl (by go_simp) ⟨rfl, hI⟩
          · intro us au w1 k4 hlo hhi ha hd hst hI
            obtain rfl : k4 = 0 := by omega
            have e3 := hd 3 _ (by kernel_rfl) rfl
            have q43 := slot_at (t := 43) 3 ha (by kernel_rfl) (by kernel_rfl) (by kernel_rfl) e3
            have p43 := slot_norm q43
            clear ha hd hst
            have c0 := SrtAt.c0 hI hli.out
            have c1 := SrtAt.c1 hI hli.out
            exact StepI.pure (v := .agg #[.int .i64 y.w, .slice y.A y.n y.c]) rfl rfl (by go_simp) ⟨rfl, hI⟩
          · intro us au w1 k5 hlo hhi ha hd hst hI
            obtain rfl : k5 = 0 := by omega
            have q0 := slot_far (t := 0) (v := .slice (some ⟨g, off, none⟩) N cap) ha (by kernel_rfl) (by kernel_rfl)
            have p0 := slot_norm q0
            clear ha hd hst
            exact StepI.pure (v := .slice (some ⟨g, off, none⟩) N cap) rfl rfl (by go_simp) ⟨rfl, hI⟩
          · intro us au w1 k6 hlo hhi ha hd hst hI
            obtain rfl : k6 = 0 := by omega
            have q1 := slot_far (t := 1) (v := .int .i64 (a)) ha (by kernel_rfl) (by kernel_rfl)
            have p1 := slot_norm q1
            clear ha hd hst
            exact StepI.pure (v := .int .i64 (a)) rfl rfl (by go_simp) ⟨rfl, hI⟩
          · intro us au w1 k7 hlo hhi ha hd hst hI
            obtain rfl : k7 = 0 := by omega
            have e5 := hd 5 _ (by kernel_rfl) rfl
            have e6 := hd 6 _ (by kernel_rfl) rfl
            have q45 := slot_at (t := 45) 5 ha (by kernel_rfl) (by kernel_rfl) (by kernel_rfl) e5
            have p45 := slot_norm q45
            have q46 := slot_at (t := 46) 6 ha (by kernel_rfl) (by kernel_rfl) (by kernel_rfl) e6
            have p46 := slot_norm q46
            clear ha hd hst
            exact StepI.pure (v := .pointer (some ⟨g, off + (a) * 2, none⟩)) rfl rfl (by go_simp) ⟨rfl, hI⟩
          · intro us au w1 k8 hlo hhi ha hd hst hI
            obtain rfl : k8 = 0 := by omega
            have e7 := hd 7 _ (by kernel_rfl) rfl
            have q47 := slot_at (t := 47) 7 ha (by kernel_rfl) (by kernel_rfl) (by kernel_rfl) e7
            have p47 := slot_norm q47
            clear ha hd hst
            have c0 := SrtAt.c0 hI hlj.out
            have c1 := SrtAt.c1 hI hlj.out
            exact StepI.pure (v := .agg #[.int .i64 x.w, .slice x.A x.n x.c]) rfl rfl (by go_simp) ⟨rfl, hI⟩
          · intro us au w1 ha hd hst hI
            have e0 := hd 0 _ (by kernel_rfl) rfl
            have e4 := hd 4 _ (by kernel_rfl) rfl
            have e8 := hd 8 _ (by kernel_rfl) rfl
            have q40 := slot_at (t := 40) 0 ha (by kernel_rfl) (by kernel_rfl) (by kernel_rfl) e0
            have p40 := slot_norm q40
            have q44 := slot_at (t := 44) 4 ha (by kernel_rfl) (by kernel_rfl) (by kernel_rfl) e4
            have p44 := slot_norm q44
            have q48 := slot_at (t := 48) 8 ha (by kernel_rfl) (by kernel_rfl) (by kernel_rfl) e8
            have p48 := slot_norm q48
            clear ha hd hst
            refine StepI.call (f := 32) (args := #[.agg #[.int .i64 y.w, .slice y.A y.n y.c], .agg #[.int .i64 x.w, .slice x.A x.n x.c]]) rfl rfl (by go_simp) ?_
            refine (cmp_any y x w1 HOy.out HOx.out).mono ?_
            rintro e w' ⟨rfl, hb⟩
            exact ⟨_, rfl, rfl, SrtAt.below hI hb⟩
          · intro us au w1 k10 hlo hhi ha hd hst hI
            obtain rfl : k10 = 1 := by omega
            have e9 := hd 9 _ (by kernel_rfl) rfl
            have q49 := slot_at (t := 49) 9 ha (by kernel_rfl) (by kernel_rfl) (by kernel_rfl) e9
            have p49 := slot_norm q49
            clear ha hd hst
            exact StepI.pure (v := .bool false) rfl rfl (by go_simp) ⟨rfl, hI⟩
        case done =>
          intro us w1 hI hd
          have e10 := hd 10 _ (by decide) rfl
          clear hd HS hli hcl
          simp only [putAll]
          go_simp
          go_wp2
          go_roundw
          case rel =>
            refine ⟨i, h, v1, q1, y :: q2 ++ v3, rfl, rfl, by rw [Hv.out, HV2.out]; simp, HI.out, by rw [HW1.out]; omega, by omega, H1.out, fun z hz => ?_, hI⟩
            rcases List.mem_append.1 hz with hz | hz
            · exact Srt.Sorted.all_ge swoE (l := q2) (z := y) (by have := HSV2.out; rw [HV2.out] at this; exact Srt.Sorted.right this) HX.out z hz
            · exact H3.out z hz
          case measure => simp [intOf]; omega
      · rw [hyx] at hcl
        have HX := Lib.hid hyx
        clear hyx
        go_upto_region 5 with (fail)
        clear c1 c2 c3
        refine wp_region_ph (by kernel_rfl) [9] [.span 0 0, .span 0 0, .span 0 0, .span 0 0, .span 0 0, .span 0 0, .span 0 0, .span 0 0, .span 0 0, .phase 0, .span 1 1] [fun z9 => z9 = .func (.func 32) #[] #[], fun z9 => z9 = .slice (some ⟨g, off, none⟩) N cap, fun z9 => z9 = .int .i64 (h), fun z9 => z9 = .pointer (some ⟨g, off + (h) * 2, none⟩), fun z9 => z9 = .agg #[.int .i64 y.w, .slice y.A y.n y.c], fun z9 => z9 = .slice (some ⟨g, off, none⟩) N cap, fun z9 => z9 = .int .i64 (a), fun z9 => z9 = .pointer (some ⟨g, off + (a) * 2, none⟩), fun z9 => z9 = .agg #[.int .i64 x.w, .slice x.A x.n x.c], fun z9 => z9 = .int .i64 (cmpE y x), fun z9 => z9 = .bool true] (fun _ w => SrtAt W g off cap (D) w) (by kernel_rfl) (by kernel_rfl) (by kernel_rfl) (by kernel_rfl) (by kernel_rfl) (by kernel_rfl) rfl rfl (HS.out) ?steps ?done
        case steps =>
          refine ⟨?_, ?_, ?_, ?_, ?_, ?_, ?_, ?_, ?_, ?_, ?_, trivial⟩
          · intro us au w1 k0 hlo hhi ha hd hst hI
            obtain rfl : k0 = 0 := by omega
            have q4 := slot_far (t := 4) (v := .func (.func 32) #[] #[]) ha (by kernel_rfl) (by kernel_rfl)
            have p4 := slot_norm q4
            clear ha hd hst
            exact StepI.pure (v := .func (.func 32) #[] #[]) rfl rfl (by go_simp) ⟨rfl, hI⟩
          · intro us au w1 k1 hlo hhi ha hd hst hI
            obtain rfl : k1 = 0 := by omega
            have q0 := slot_far (t := 0) (v := .slice (some ⟨g, off, none⟩) N cap) ha (by kernel_rfl) (by kernel_rfl)
            have p0 := slot_norm q0
            clear ha hd hst
            exact StepI.pure (v := .slice (some ⟨g, off, none⟩) N cap) rfl rfl (by go_simp) ⟨rfl, hI⟩
          · intro us au w1 k2 hlo hhi ha hd hst hI
            obtain rfl : k2 = 0 := by omega
            have q12 := slot_far (t := 12) (v := .int .i64 (h)) ha (by kernel_rfl) (by kernel_rfl)
            have p12 := slot_norm q12
            clear ha hd hst
            exact StepI.pure (v := .int .i64 (h)) rfl rfl (by go_simp) ⟨rfl, hI⟩
          · intro us au w1 k3 hlo hhi ha hd hst hI
            obtain rfl : k3 = 0 := by omega
            have e1 := hd 1 _ (by kernel_rfl) rfl
            have e2 := hd 2 _ (by kernel_rfl) rfl
            have q41 := slot_at (t := 41) 1 ha (by kernel_rfl) (by kernel_rfl) (by kernel_rfl) e1
            have p41 := slot_norm q41
            have q42 := slot_at (t := 42) 2 ha (by kernel_rfl) (by kernel_rfl) (by kernel_rfl) e2
            have p42 := slot_norm q42
            clear ha hd hst
            exact StepI.pure (v := .pointer (some ⟨g, off + (h) * 2, none⟩)) rfl rfl (by go_simp) ⟨rfl, hI⟩
          · intro us au w1 k4 hlo hhi ha hd hst hI
            obtain rfl : k4 = 0 := by omega
            have e3 := hd 3 _ (by kernel_rfl) rfl
            have q43 := slot_at (t := 43) 3 ha (by kernel_rfl) (by kernel_rfl) (by kernel_rfl) e3
            have p43 := slot_norm q43
            clear ha hd hst
            have c0 := SrtAt.c0 hI hli.out
            have c1 := SrtAt.c1 hI hli.out
            exact StepI.pure (v := .agg #[.int .i64 y.w, .slice y.A y.n y.c]) rfl rfl (by go_simp) ⟨rfl, hI⟩
          · intro us au w1 k5 hlo hhi ha hd hst hI
            obtain rfl : k5 = 0 := by omega
            have q0 := slot_far (t := 0) (v := .slice (some ⟨g, off, none⟩) N cap) ha (by kernel_rfl) (by kernel_rfl)
            have p0 := slot_norm q0
            clear ha hd hst
            exact StepI.pure (v := .slice (some ⟨g, off, none⟩) N cap) rfl rfl (by go_simp) ⟨rfl, hI⟩
          · intro us au w1 k6 hlo hhi ha hd hst hI
            obtain rfl : k6 = 0 := by omega
            have q1 := slot_far (t := 1) (v := .int .i64 (a)) ha (by kernel_rfl) (by kernel_rfl)
            have p1 := slot_norm q1
            clear ha hd hst
            exact StepI.pure (v := .int .i64 (a)) rfl rfl (by go_simp) ⟨rfl, hI⟩
          · intro us au w1 k7 hlo hhi ha hd hst hI
            obtain rfl : k7 = 0 := by omega
            have e5 := hd 5 _ (by kernel_rfl) rfl
            have e6 := hd 6 _ (by kernel_rfl) rfl
            have q45 := slot_at (t := 45) 5 ha (by kernel_rfl) (by kernel_rfl) (by kernel_rfl) e5
            have p45 := slot_norm q45
            have q46 := slot_at (t := 46) 6 ha (by kernel_rfl) (by kernel_rfl) (by kernel_rfl) e6
            have p46 := slot_norm q46
            clear ha hd hst
            exact StepI.pure (v := .pointer (some ⟨g, off + (a) * 2, none⟩)) rfl rfl (by go_simp) ⟨rfl, hI⟩
          · intro us au w1 k8 hlo hhi ha hd hst hI
            obtain rfl : k8 = 0 := by omega
            have e7 := hd 7 _ (by kernel_rfl) rfl
            have q47 := slot_at (t := 47) 7 ha (by kernel_rfl) (by kernel_rfl) (by kernel_rfl) e7
            have p47 := slot_norm q47
            clear ha hd hst
            have c0 := SrtAt.c0 hI hlj.out
            have c1 := SrtAt.c1 hI hlj.out
            exact StepI.pure (v := .agg #[.int .i64 x.w, .slice x.A x.n x.c]) rfl rfl (by go_simp) ⟨rfl, hI⟩
          · intro us au w1 ha hd hst hI
            have e0 := hd 0 _ (by kernel_rfl) rfl
            have e4 := hd 4 _ (by kernel_rfl) rfl
            have e8 := hd 8 _ (by kernel_rfl) rfl
            have q40 := slot_at (t := 40) 0 ha (by kernel_rfl) (by kernel_rfl) (by kernel_rfl) e0
            have p40 := slot_norm q40
            have q44 := slot_at (t := 44) 4 ha (by kernel_rfl) (by kernel_rfl) (by kernel_rfl) e4
            have p44 := slot_norm q44
            have q48 := slot_at (t := 48) 8 ha (by kernel_rfl) (by kernel_rfl) (by kernel_rfl) e8
            have p48 := slot_norm q48
            clear ha hd hst
            refine StepI.call (f := 32) (args := #[.agg #[.int .i64 y.w, .slice y.A y.n y.c], .agg #[.int .i64 x.w, .slice x.A x.n x.c]]) rfl rfl (by go_simp) ?_
            refine (cmp_any y x w1 HOy.out HOx.out).mono ?_
            rintro e w' ⟨rfl, hb⟩
            exact ⟨_, rfl, rfl, SrtAt.below hI hb⟩
          · intro us au w1 k10 hlo hhi ha hd hst hI
            obtain rfl : k10 = 1 := by omega
            have e9 := hd 9 _ (by kernel_rfl) rfl
            have q49 := slot_at (t := 49) 9 ha (by kernel_rfl) (by kernel_rfl) (by kernel_rfl) e9
            have p49 := slot_norm q49
            clear ha hd hst
            exact StepI.pure (v := .bool true) rfl rfl (by go_simp) ⟨rfl, hI⟩
        case done =>
          intro us w1 hI hd
          have e10 := hd 10 _ (by decide) rfl
          clear hd HS hli hcl
          simp only [putAll]
          go_simp
          go_wp2
          go_roundw
          case rel =>
            refine ⟨h + 1, j, v1 ++ (q1 ++ [y]), q2, v3, by go_num, rfl, by rw [Hv.out, HV2.out]; simp, ?_, ?_, by omega, fun z hz => ?_, H3.out, hI⟩
            · have := HI.out; have := HW1.out; simp only [List.length_append, List.length_cons, List.length_nil]; omega
            · have := HJ.out; have := HW2.out; omega
            · rcases List.mem_append.1 hz with hz | hz
              · exact H1.out z hz
              · exact Srt.Sorted.all_lt swoE (l := q1) (z := y) (by have := HSV2.out; rw [HV2.out, show q1 ++ y :: q2 = (q1 ++ [y]) ++ q2 by simp] at this; exact Srt.Sorted.left this) HX.out z hz
          case measure => simp [intOf]; omega
    · obtain rfl : v2 = [] := List.eq_nil_of_length_eq_zero (by omega)
      obtain rfl : j = i := by simpa using hj
      obtain ⟨n1, hn1⟩ : ∃ n1, v1.length = n1 := ⟨_, rfl⟩
      have hT : p ++ v1 ++ x :: v3 ++ s = p ++ Srt.mrg ltE [x] v ++ s := by
        rw [hv, List.append_nil, Srt.mrg_one x v1 v3 h1 h3]; simp
      have hD2 : D = p ++ [] ++ x :: v1 ++ v3 ++ s := by rw [HD.out, hv]; simp
      rw [hD2] at hAt
      have hin : j = a + 1 + n1 := by have := HM.out; omega
      have HIN := Lib.hid hin
      have HT := Lib.hid hT
      have HAt := Lib.hid hAt
      have HN1 := Lib.hid hn1
      have hj1 : (1 : Int) ≤ (j : Int) := by omega
      clear hAt hT hD2 hi hj hv h1 h3 Hv H1 H3 hn1 hin HAT hlj HOV HV HNU HD
      go_wp2
      go_loopw [13] (fun kv wr => ∃ (K : Nat) (q1 q2 : List El), kv = .int .i64 K ∧ v1 = q1 ++ q2 ∧ K = a + q1.length ∧ SrtAt W g off cap (p ++ q1 ++ x :: q2 ++ v3 ++ s) wr) (fun kv _ => j - (intOf kv).toNat)
      case atStart => exact ⟨a, [], v1, rfl, rfl, rfl, HAt.out⟩
      case round =>
        clear HAt
        obtain ⟨K, q1, q2, rfl, hv1, hK, hAt⟩ := hrel
        have hl2 : q1.length + q2.length = n1 := by have := HN1.out; rw [hv1, List.length_append] at this; exact this
        have hjn := HIN.out
        by_cases hlt2 : 0 < q2.length
        · obtain ⟨y, q3, rfl, hw3⟩ := cons_of rfl hlt2
          obtain ⟨J, hJ⟩ : ∃ J, J = K + 1 := ⟨_, rfl⟩
          have e1 : (K : Int) + 1 = (J : Int) := by omega
          obtain ⟨D2, hD2⟩ : ∃ D2, D2 = (p ++ q1) ++ x :: [] ++ y :: (q3 ++ v3 ++ s) := ⟨_, rfl⟩
          have hDa : p ++ q1 ++ x :: (y :: q3) ++ v3 ++ s = D2 := by rw [hD2]; simp
          rw [hDa] at hAt
          have hpK : (p ++ q1).length = K := by rw [List.length_append, HA.out]; omega
          have hli : D2[K]? = some x := by
            have := at_1 (p ++ q1) [] (q3 ++ v3 ++ s) x y
            rw [hD2, ← hpK]; exact this
          have hlj : D2[J]? = some y := by
            have := at_2 (p ++ q1) [] (q3 ++ v3 ++ s) x y
            rw [hD2, hJ, ← hpK]; exact this
          have hset : (D2.set K y).set J x = p ++ (q1 ++ [y]) ++ x :: q3 ++ v3 ++ s := by
            have := set_set (p ++ q1) [] (q3 ++ v3 ++ s) x y
            rw [hD2, hJ, ← hpK]
            simp only [List.length_nil, Nat.add_zero] at this
            rw [this]; simp
          simp only [List.length_cons] at hl2
          have hJN : J < N := by omega
          have k0 : (0 : Int) ≤ (K : Int) := by omega
          have k1 : (K : Int) < (N : Int) := by omega
          have k2 : (0 : Int) ≤ (J : Int) := by omega
          have k3 : (J : Int) < (N : Int) := by omega
          have g1 : decide ((K : Int) < (j : Int) - 1) = true := decide_eq_true (by omega)
          have HSET := Lib.hid hset
          have HJ := Lib.hid hJ
          have hli := Lib.hid hli
          have hlj := Lib.hid hlj
          have HS := Lib.hid hAt.drew
          have HK := Lib.hid hK
          have HV1 := Lib.hid hv1
          have hKj : K < j := by omega
          clear hset hJ hAt hK hD2 hDa hpK hlt2 hv1 hjn hl2 hw3
          go_upto_region 11 with (fail)
          refine wp_region_ph (by kernel_rfl) [15, 17] [.span 0 0, .span 0 0, .span 0 1, .span 0 1, .span 0 1, .span 0 0, .span 0 0, .span 0 0, .span 0 0, .span 0 0, .span 0 0, .span 0 0, .span 0 0, .span 0 0, .span 0 0, .phase 0, .span 1 1, .phase 1] [fun z9 => z9 = .slice (some ⟨g, off, none⟩) N cap, fun z9 => z9 = .int .i64 (K), fun z9 => z9 = .slice (some ⟨g, off, none⟩) N cap, fun z9 => z9 = .int .i64 (K), fun z9 => z9 = .int .i64 (J), fun z9 => z9 = .slice (some ⟨g, off, none⟩) N cap, fun z9 => z9 = .int .i64 (K), fun z9 => z9 = .int .i64 (J), fun z9 => z9 = .pointer (some ⟨g, off + (J) * 2, none⟩), fun z9 => z9 = .agg #[.int .i64 y.w, .slice y.A y.n y.c], fun z9 => z9 = .slice (some ⟨g, off, none⟩) N cap, fun z9 => z9 = .int .i64 (K), fun z9 => z9 = .pointer (some ⟨g, off + (K) * 2, none⟩), fun z9 => z9 = .agg #[.int .i64 x.w, .slice x.A x.n x.c], fun z9 => z9 = .pointer (some ⟨g, off + (K) * 2, none⟩), fun _ => True, fun z9 => z9 = .pointer (some ⟨g, off + (J) * 2, none⟩), fun _ => True] (ISwap W g off cap (K) (J) x y (D2)) (by kernel_rfl) (by kernel_rfl) (by kernel_rfl) (by kernel_rfl) (by kernel_rfl) (by kernel_rfl) rfl rfl (HS.out) ?steps ?done
          case steps =>
            refine ⟨?_, ?_, ?_, ?_, ?_, ?_, ?_, ?_, ?_, ?_, ?_, ?_, ?_, ?_, ?_, ?_, ?_, ?_, trivial⟩
            · intro us au w1 k0 hlo hhi ha hd hst hI
              obtain rfl : k0 = 0 := by omega
              have q0 := slot_far (t := 0) (v := .slice (some ⟨g, off, none⟩) N cap) ha (by kernel_rfl) (by kernel_rfl)
              have p0 := slot_norm q0
              clear ha hd hst
              exact StepI.pure (v := .slice (some ⟨g, off, none⟩) N cap) rfl rfl (by go_simp) ⟨rfl, hI⟩
            · intro us au w1 k1 hlo hhi ha hd hst hI
              obtain rfl : k1 = 0 := by omega
              have q13 := slot_far (t := 13) (v := .int .i64 (K)) ha (by kernel_rfl) (by kernel_rfl)
              have p13 := slot_norm q13
              clear ha hd hst
              exact StepI.pure (v := .int .i64 (K)) rfl rfl (by go_simp) ⟨rfl, hI⟩
            · intro us au w1 k2 hlo hhi ha hd hst hI
              have q0 := slot_far (t := 0) (v := .slice (some ⟨g, off, none⟩) N cap) ha (by kernel_rfl) (by kernel_rfl)
              have p0 := slot_norm q0
              clear ha hd hst
              exact StepI.pure (v := .slice (some ⟨g, off, none⟩) N cap) rfl rfl (by go_simp) ⟨rfl, hI⟩
            · intro us au w1 k3 hlo hhi ha hd hst hI
              have q13 := slot_far (t := 13) (v := .int .i64 (K)) ha (by kernel_rfl) (by kernel_rfl)
              have p13 := slot_norm q13
              clear ha hd hst
              exact StepI.pure (v := .int .i64 (K)) rfl rfl (by go_simp) ⟨rfl, hI⟩
            · intro us au w1 k4 hlo hhi ha hd hst hI
              have e3 := hd 3 _ (by kernel_rfl) rfl
              have q64 := slot_at (t := 64) 3 ha (by kernel_rfl) (by kernel_rfl) (by kernel_rfl) e3
              have p64 := slot_norm q64
              clear ha hd hst
              exact StepI.pure (v := .int .i64 (J)) rfl rfl (by go_simp; exact IntWalk.i64_in _ (by omega)) ⟨rfl, hI⟩
            · intro us au w1 k5 hlo hhi ha hd hst hI
              obtain rfl : k5 = 0 := by omega
              have q0 := slot_far (t := 0) (v := .slice (some ⟨g, off, none⟩) N cap) ha (by kernel_rfl) (by kernel_rfl)
              have p0 := slot_norm q0
              clear ha hd hst
              exact StepI.pure (v := .slice (some ⟨g, off, none⟩) N cap) rfl rfl (by go_simp) ⟨rfl, hI⟩
            · intro us au w1 k6 hlo hhi ha hd hst hI
              obtain rfl : k6 = 0 := by omega
              have q13 := slot_far (t := 13) (v := .int .i64 (K)) ha (by kernel_rfl) (by kernel_rfl)
              have p13 := slot_norm q13
              clear ha hd hst
              exact StepI.pure (v := .int .i64 (K)) rfl rfl (by go_simp) ⟨rfl, hI⟩
            · intro us au w1 k7 hlo hhi ha hd hst hI
              obtain rfl : k7 = 0 := by omega
              have e6 := hd 6 _ (by kernel_rfl) rfl
              have q67 := slot_at (t := 67) 6 ha (by kernel_rfl) (by kernel_rfl) (by kernel_rfl) e6
              have p67 := slot_norm q67
              clear ha hd hst
              exact StepI.pure (v := .int .i64 (J)) rfl rfl (by go_simp; exact IntWalk.i64_in _ (by omega)) ⟨rfl, hI⟩
            · intro us au w1 k8 hlo hhi ha hd hst hI
              obtain rfl : k8 = 0 := by omega
              have e5 := hd 5 _ (by kernel_rfl) rfl
              have e7 := hd 7 _ (by kernel_rfl) rfl
              have q66 := slot_at (t := 66) 5 ha (by kernel_rfl) (by kernel_rfl) (by kernel_rfl) e5
              have p66 := slot_norm q66
              have q68 := slot_at (t := 68) 7 ha (by kernel_rfl) (by kernel_rfl) (by kernel_rfl) e7
              have p68 := slot_norm q68
              clear ha hd hst
              exact StepI.pure (v := .pointer (some ⟨g, off + (J) * 2, none⟩)) rfl rfl (by go_simp) ⟨rfl, hI⟩
            · intro us au w1 k9 hlo hhi ha hd hst hI
              obtain rfl : k9 = 0 := by omega
              have e8 := hd 8 _ (by kernel_rfl) rfl
              have q69 := slot_at (t := 69) 8 ha (by kernel_rfl) (by kernel_rfl) (by kernel_rfl) e8
              have p69 := slot_norm q69
              clear ha hd hst
              have c0 := SrtAt.c0 hI hlj.out
              have c1 := SrtAt.c1 hI hlj.out
              exact StepI.pure (v := .agg #[.int .i64 y.w, .slice y.A y.n y.c]) rfl rfl (by go_simp) ⟨rfl, hI⟩
            · intro us au w1 k10 hlo hhi ha hd hst hI
              obtain rfl : k10 = 0 := by omega
              have q0 := slot_far (t := 0) (v := .slice (some ⟨g, off, none⟩) N cap) ha (by kernel_rfl) (by kernel_rfl)
              have p0 := slot_norm q0
              clear ha hd hst
              exact StepI.pure (v := .slice (some ⟨g, off, none⟩) N cap) rfl rfl (by go_simp) ⟨rfl, hI⟩
            · intro us au w1 k11 hlo hhi ha hd hst hI
              obtain rfl : k11 = 0 := by omega
              have q13 := slot_far (t := 13) (v := .int .i64 (K)) ha (by kernel_rfl) (by kernel_rfl)
              have p13 := slot_norm q13
              clear ha hd hst
              exact StepI.pure (v := .int .i64 (K)) rfl rfl (by go_simp) ⟨rfl, hI⟩
            · intro us au w1 k12 hlo hhi ha hd hst hI
              obtain rfl : k12 = 0 := by omega
              have e10 := hd 10 _ (by kernel_rfl) rfl
              have e11 := hd 11 _ (by kernel_rfl) rfl
              have q71 := slot_at (t := 71) 10 ha (by kernel_rfl) (by kernel_rfl) (by kernel_rfl) e10
              have p71 := slot_norm q71
              have q72 := slot_at (t := 72) 11 ha (by kernel_rfl) (by kernel_rfl) (by kernel_rfl) e11
              have p72 := slot_norm q72
              clear ha hd hst
              exact StepI.pure (v := .pointer (some ⟨g, off + (K) * 2, none⟩)) rfl rfl (by go_simp) ⟨rfl, hI⟩
            · intro us au w1 k13 hlo hhi ha hd hst hI
              obtain rfl : k13 = 0 := by omega
              have e12 := hd 12 _ (by kernel_rfl) rfl
              have q73 := slot_at (t := 73) 12 ha (by kernel_rfl) (by kernel_rfl) (by kernel_rfl) e12
              have p73 := slot_norm q73
              clear ha hd hst
              have c0 := SrtAt.c0 hI hli.out
              have c1 := SrtAt.c1 hI hli.out
              exact StepI.pure (v := .agg #[.int .i64 x.w, .slice x.A x.n x.c]) rfl rfl (by go_simp) ⟨rfl, hI⟩
            · intro us au w1 k14 hlo hhi ha hd hst hI
              obtain rfl : k14 = 0 := by omega
              have e0 := hd 0 _ (by kernel_rfl) rfl
              have e1 := hd 1 _ (by kernel_rfl) rfl
              have q61 := slot_at (t := 61) 0 ha (by kernel_rfl) (by kernel_rfl) (by kernel_rfl) e0
              have p61 := slot_norm q61
              have q62 := slot_at (t := 62) 1 ha (by kernel_rfl) (by kernel_rfl) (by kernel_rfl) e1
              have p62 := slot_norm q62
              clear ha hd hst
              exact StepI.pure (v := .pointer (some ⟨g, off + (K) * 2, none⟩)) rfl rfl (by go_simp) ⟨rfl, hI⟩
            · intro us au w1 ha hd hst hI
              have e14 := hd 14 _ (by kernel_rfl) rfl
              have e9 := hd 9 _ (by kernel_rfl) rfl
              have q75 := slot_at (t := 75) 14 ha (by kernel_rfl) (by kernel_rfl) (by kernel_rfl) e14
              have p75 := slot_norm q75
              have q70 := slot_at (t := 70) 9 ha (by kernel_rfl) (by kernel_rfl) (by kernel_rfl) e9
              have p70 := slot_norm q70
              clear ha hd hst
              have hlt : K < (D2).length := (List.getElem?_eq_some_iff.1 hli.out).1
              have hx := hli.out
              have c0 := SrtAt.c0 hI hx
              have c1 := SrtAt.c1 hI hx
              have f0 := SrtAt.f0 hI hlt
              have f1 := SrtAt.f1 hI hlt
              exact StepI.stored (w' := putCells w1 g (off + (K) * 2) (encE y)) rfl rfl (by simp only [putCells, encE]; go_simp) ⟨trivial, SrtAt.put hI hlt y⟩
            · intro us au w1 k16 hlo hhi ha hd hst hI
              obtain rfl : k16 = 1 := by omega
              have e2 := hd 2 _ (by kernel_rfl) rfl
              have e4 := hd 4 _ (by kernel_rfl) rfl
              have q63 := slot_at (t := 63) 2 ha (by kernel_rfl) (by kernel_rfl) (by kernel_rfl) e2
              have p63 := slot_norm q63
              have q65 := slot_at (t := 65) 4 ha (by kernel_rfl) (by kernel_rfl) (by kernel_rfl) e4
              have p65 := slot_norm q65
              clear ha hd hst
              exact StepI.pure (v := .pointer (some ⟨g, off + (J) * 2, none⟩)) rfl rfl (by go_simp) ⟨rfl, hI⟩
            · intro us au w1 ha hd hst hI
              have e16 := hd 16 _ (by kernel_rfl) rfl
              have e13 := hd 13 _ (by kernel_rfl) rfl
              have q76 := slot_at (t := 76) 16 ha (by kernel_rfl) (by kernel_rfl) (by kernel_rfl) e16
              have p76 := slot_norm q76
              have q74 := slot_at (t := 74) 13 ha (by kernel_rfl) (by kernel_rfl) (by kernel_rfl) e13
              have p74 := slot_norm q74
              clear ha hd hst
              have hlt : J < ((D2).set (K) y).length := by rw [List.length_set]; exact (List.getElem?_eq_some_iff.1 hlj.out).1
              have hx : ((D2).set (K) y)[J]? = some y := by rw [List.getElem?_set_ne (by omega)]; exact hlj.out
              have c0 := SrtAt.c0 hI hx
              have c1 := SrtAt.c1 hI hx
              have f0 := SrtAt.f0 hI hlt
              have f1 := SrtAt.f1 hI hlt
              exact StepI.stored (w' := putCells w1 g (off + (J) * 2) (encE x)) rfl rfl (by simp only [putCells, encE]; go_simp) ⟨trivial, SrtAt.put hI hlt x⟩
          case done =>
            intro us w1 hI hd
            have HJo := HJ.out
            clear hd HS hli hlj e1
            simp only [putAll]
            go_simp
            go_wp2
            go_roundw
            case rel => exact ⟨K + 1, q1 ++ [y], q3, by go_num, by rw [HV1.out]; simp, by rw [List.length_append, HK.out]; simp; omega, by rw [← HSET.out]; exact hI⟩
            case measure => simp [intOf]; omega
        · obtain rfl : q2 = [] := List.eq_nil_of_length_eq_zero (by omega)
          have g1 : decide ((K : Int) < (j : Int) - 1) = false := decide_eq_false (by simp at hl2; omega)
          have hx : v1 = q1 := by simpa using hv1
          rw [← hx] at hAt
          have hAt' : SrtAt W g off cap (p ++ Srt.mrg ltE [x] v ++ s) wr := by
            rw [← HT.out]
            have := hAt
            simp only [List.append_assoc, List.cons_append, List.nil_append] at this ⊢
            exact this
          have HAt := Lib.hid hAt'
          clear hAt hAt' hv1 hx hK hl2 hjn
          go_wp2
          go_end0
          exact ⟨rfl, HAt.out.1, HAt.out.2⟩
end Go.Proofs.Ytdmggpngmlhboaa
