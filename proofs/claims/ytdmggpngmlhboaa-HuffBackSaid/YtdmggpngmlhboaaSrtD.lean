/- symMerge where the second stretch is one element. -/
import Derived.Test.YtdmggpngmlhboaaSrtC
namespace Go.Proofs.Ytdmggpngmlhboaa
open Go.RowKit
set_option linter.unusedVariables false
set_option linter.unusedSimpArgs false

set_option maxRecDepth 100000 in
set_option maxHeartbeats 8000000 in
theorem symMerge_last (g off cap N a m b : Nat) (p u : List El) (y : El) (s : List El) (W : World) (hS : SRow W 76 2 encE g off cap (p ++ u ++ [y] ++ s)) (hN : (p ++ u ++ [y] ++ s).length = N) (ha : p.length = a) (hm : a + u.length = m) (hb : m + 1 = b) (h2 : 2 ≤ u.length)
    (hu : Srt.Sorted ltE u) (hoy : okE y) (hou : ∀ x ∈ u, okE x) (hNb : N ≤ 140737488355328) :
    Calls Try.prog 81 #[.slice (some ⟨g, off, none⟩) N cap, .int .i64 a, .int .i64 m, .int .i64 b, .func (.func 32) #[] #[]] W (SrtPost g off cap (p ++ Srt.mrg ltE u [y] ++ s) W) := by
  have hcap := hS.capLe
  unfold maxLen at hcap
  have hNc : N ≤ cap := by rw [← hN]; exact hcap.1
  have hcm : cap ≤ 9223372036854775807 := hcap.2
  have hlen : b + s.length = N := by simp at hN; omega
  have hbN : b ≤ N := by omega
  obtain ⟨n, hn⟩ : ∃ n, u.length = n := ⟨_, rfl⟩
  rw [hn] at hm h2
  have ham : a < m := by omega
  have hmb : m < b := by omega
  have e0 : (m : Int) - (a : Int) = (n : Int) := by omega
  have z0 : ((n : Int) == 1) = false := by rw [beq_eq_false_iff_ne]; omega
  have e1 : (b : Int) - (m : Int) = 1 := by omega
  obtain ⟨D, hD⟩ : ∃ D, D = p ++ u ++ [y] ++ s := ⟨_, rfl⟩
  have hpu : (p ++ u).length = m := by rw [List.length_append, ha, hn]; exact hm
  have hlj : D[m]? = some y := by
    rw [hD, ← hpu, List.append_assoc, List.getElem?_append_right (Nat.le_refl _), Nat.sub_self]; rfl
  have hat : ∀ (i : Nat) (x : El), u[i]? = some x → D[a + i]? = some x := fun i x hx => by
    have hi := (List.getElem?_eq_some_iff.1 hx).1
    rw [hD, List.append_assoc, List.getElem?_append_left (by rw [hpu]; omega), List.getElem?_append_right (by omega), show a + i - p.length = i by omega]
    exact hx
  rw [← hD] at hS
  have HS0 := Lib.hid (SrtAt.start hS)
  have HNU := Lib.hid hn
  have HAT := Lib.hid hat
  have hlj := Lib.hid hlj
  have HA := Lib.hid ha
  have HB := Lib.hid hb
  have HM := Lib.hid hm
  have HV := Lib.hid hu
  have HOV := Lib.hid hou
  have HOy := Lib.hid hoy
  have HD := Lib.hid hD
  clear hS hN hcap ha hn hb hou hoy hu hD hat hm hlen hpu h2
  go_enter Try.func81, Try.ntmps81
  go_wp2
  clear e0 e1 z0
  go_loopw [14, 15] (fun iv jv wr => ∃ (i j : Nat) (u1 u2 u3 : List El), iv = .int .i64 i ∧ jv = .int .i64 j ∧ u = u1 ++ u2 ++ u3 ∧ i = a + u1.length ∧ j = i + u2.length ∧ j ≤ m ∧ (∀ x ∈ u1, ltE y x = false) ∧ (∀ x ∈ u3, ltE y x = true) ∧ SrtAt W g off cap D wr) (fun iv jv _ => (intOf jv).toNat - (intOf iv).toNat)
  case atStart => exact ⟨a, m, [], u, [], rfl, rfl, by simp, rfl, by rw [HNU.out]; exact HM.out.symm, Nat.le_refl _, (fun _ h => by cases h), (fun _ h => by cases h), HS0.out⟩
  case round =>
    clear HS0
    obtain ⟨i, j, u1, u2, u3, rfl, rfl, hv, hi, hj, hjb, h1, h3, hAt⟩ := hrel
    have Hv := Lib.hid hv
    have H1 := Lib.hid h1
    have H3 := Lib.hid h3
    have him : a ≤ i := by omega
    by_cases hlt : i < j
    · obtain ⟨h, hh⟩ : ∃ h, h = (i + j) / 2 := ⟨_, rfl⟩
      obtain ⟨q1, x, q2, hv2, hq1, hq2⟩ := cut_mid u2 (h - i) (by omega)
      have hli : D[h]? = some x := by
        have := HAT.out (h - a) x (by
          rw [hv, hv2, List.append_assoc, List.getElem?_append_right (by omega), show h - a - u1.length = q1.length by omega, List.append_assoc, List.getElem?_append_right (Nat.le_refl _), Nat.sub_self]; rfl)
        rwa [show a + (h - a) = h by omega] at this
      have hox : okE x := HOV.out x (by rw [hv, hv2]; simp)
      have c1 : IntKind.u64.wrap ((i : Int) + (j : Int)) = (i : Int) + (j : Int) := IntWalk.u64_in _ (by omega)
      have c2 : ((i : Int) + (j : Int)) / 2 = (h : Int) := by omega
      have c3 : IntKind.i64.wrap (h : Int) = (h : Int) := IntWalk.i64_in _ (by omega)
      have c4 : (0 : Int) ≤ (h : Int) := by omega
      have c5 : (h : Int) < (N : Int) := by omega
      have c6 : (m : Int) < (N : Int) := by omega
      have hih : i ≤ h := by omega
      have hhj : h < j := by omega
      have HOx := Lib.hid hox
      have hli := Lib.hid hli
      have HS := Lib.hid hAt.drew
      have HI := Lib.hid hi
      have HJ := Lib.hid hj
      have HV2 := Lib.hid hv2
      have HW1 := Lib.hid hq1
      have HW2 := Lib.hid hq2
      have HSV2 : Hid (Srt.Sorted ltE u2) := by have := HV.out; rw [hv] at this; exact Srt.Sorted.right (Srt.Sorted.left this)
      clear hAt hi hj hv2 hq1 hq2 hox hv h1 h3 hh
      have hcl := cmpE_lt y x
      cases hyx : ltE y x
      · rw [hyx] at hcl
        have HX := Lib.hid hyx
        clear hyx
        go_upto_region 17 with (fail)
        clear c1 c2 c3
        refine wp_region_ph (by kernel_rfl) [9] [.span 0 0, .span 0 0, .span 0 0, .span 0 0, .span 0 0, .span 0 0, .span 0 0, .span 0 0, .span 0 0, .phase 0, .span 1 1, .span 1 1] [fun z9 => z9 = .func (.func 32) #[] #[], fun z9 => z9 = .slice (some ⟨g, off, none⟩) N cap, fun z9 => z9 = .int .i64 (m), fun z9 => z9 = .pointer (some ⟨g, off + (m) * 2, none⟩), fun z9 => z9 = .agg #[.int .i64 y.w, .slice y.A y.n y.c], fun z9 => z9 = .slice (some ⟨g, off, none⟩) N cap, fun z9 => z9 = .int .i64 (h), fun z9 => z9 = .pointer (some ⟨g, off + (h) * 2, none⟩), fun z9 => z9 = .agg #[.int .i64 x.w, .slice x.A x.n x.c], fun z9 => z9 = .int .i64 (cmpE y x), fun z9 => z9 = .bool false, fun z9 => z9 = .bool true] (fun _ w => SrtAt W g off cap (D) w) (by kernel_rfl) (by kernel_rfl) (by kernel_rfl) (by kernel_rfl) (by kernel_rfl) (by kernel_rfl) rfl rfl (HS.out) ?steps ?done
        case steps =>
          refine ⟨?_, ?_, ?_, ?_, ?_, ?_, ?_, ?_, ?_, ?_, ?_, ?_, trivial⟩
          · intro us au w1 k0 hlo hhi ha hd hst hI
            obtain rfl : k0 = 0 := by omega
            have q4 := slot_far (t := 4) (v := .func (.func 32) #[] #[]) ha (by kernel_rfl) (by kernel_rfl)
            have p4 := slot_norm q4
            clear ha hd hst
            exact StepI.pure (v := .func (.func 32) #[] #[]) rfl rfl (by go_simp) ⟨rfl, hI⟩
          · intro us au w1 k1 hlo hhi ha hd hst hI
            obtain rfl : k1 = 0 := by omega
            have q0 := slot_far (t := 0) (v := .slice (some ⟨g, off, none⟩) N cap) ha (by kernel_rfl) (by kernel_rfl)
            have p0 := slot_norm q0
            clear ha hd hst
            exact StepI.pure (v := .slice (some ⟨g, off, none⟩) N cap) rfl rfl (by go_simp) ⟨rfl, hI⟩
          · intro us au w1 k2 hlo hhi ha hd hst hI
            obtain rfl : k2 = 0 := by omega
            have q2 := slot_far (t := 2) (v := .int .i64 (m)) ha (by kernel_rfl) (by kernel_rfl)
            have p2 := slot_norm q2
            clear ha hd hst
            exact StepI.pure (v := .int .i64 (m)) rfl rfl (by go_simp) ⟨rfl, hI⟩
          · intro us au w1 k3 hlo hhi ha hd hst hI
            obtain rfl : k3 = 0 := by omega
            have e1 := hd 1 _ (by kernel_rfl) rfl
            have e2 := hd 2 _ (by kernel_rfl) rfl
            have q93 := slot_at (t := 93) 1 ha (by kernel_rfl) (by kernel_rfl) (by kernel_rfl) e1
            have p93 := slot_norm q93
            have q94 := slot_at (t := 94) 2 ha (by kernel_rfl) (by kernel_rfl) (by kernel_rfl) e2
            have p94 := slot_norm q94
            clear ha hd hst
            exact StepI.pure (v := .pointer (some ⟨g, off + (m) * 2, none⟩)) rfl rfl (by go_simp) ⟨rfl, hI⟩
          · intro us au w1 k4 hlo hhi ha hd hst hI
            obtain rfl : k4 = 0 := by omega
            have e3 := hd 3 _ (by kernel_rfl) rfl
            have q95 := slot_at (t := 95) 3 ha (by kernel_rfl) (by kernel_rfl) (by kernel_rfl) e3
            have p95 := slot_norm q95
            clear ha hd hst
            have c0 := SrtAt.c0 hI hlj.out
            have c1 := SrtAt.c1 hI hlj.out
            exact StepI.pure (v := .agg #[.int .i64 y.w, .slice y.A y.n y.c]) rfl rfl (by go_simp) ⟨rfl, hI⟩
          · intro us au w1 k5 hlo hhi ha hd hst hI
            obtain rfl : k5 = 0 := by omega
            have q0 := slot_far (t := 0) (v := .slice (some ⟨g, off, none⟩) N cap) ha (by kernel_rfl) (by kernel_rfl)
            have p0 := slot_norm q0
            clear ha hd hst
            exact StepI.pure (v := .slice (some ⟨g, off, none⟩) N cap) rfl rfl (by go_simp) ⟨rfl, hI⟩
          · intro us au w1 k6 hlo hhi ha hd hst hI
            obtain rfl : k6 = 0 := by omega
            have q16 := slot_far (t := 16) (v := .int .i64 (h)) ha (by kernel_rfl) (by kernel_rfl)
            have p16 := slot_norm q16
            clear ha hd hst
            exact StepI.pure (v := .int .i64 (h)) rfl rfl (by go_simp) ⟨rfl, hI⟩
          · intro us au w1 k7 hlo hhi ha hd hst hI
            obtain rfl : k7 = 0 := by omega
            have e5 := hd 5 _ (by kernel_rfl) rfl
            have e6 := hd 6 _ (by kernel_rfl) rfl
            have q97 := slot_at (t := 97) 5 ha (by kernel_rfl) (by kernel_rfl) (by kernel_rfl) e5
            have p97 := slot_norm q97
            have q98 := slot_at (t := 98) 6 ha (by kernel_rfl) (by kernel_rfl) (by kernel_rfl) e6
            have p98 := slot_norm q98
            clear ha hd hst
            exact StepI.pure (v := .pointer (some ⟨g, off + (h) * 2, none⟩)) rfl rfl (by go_simp) ⟨rfl, hI⟩
          · intro us au w1 k8 hlo hhi ha hd hst hI
            obtain rfl : k8 = 0 := by omega
            have e7 := hd 7 _ (by kernel_rfl) rfl
            have q99 := slot_at (t := 99) 7 ha (by kernel_rfl) (by kernel_rfl) (by kernel_rfl) e7
            have p99 := slot_norm q99
            clear ha hd hst
            have c0 := SrtAt.c0 hI hli.out
            have c1 := SrtAt.c1 hI hli.out
            exact StepI.pure (v := .agg #[.int .i64 x.w, .slice x.A x.n x.c]) rfl rfl (by go_simp) ⟨rfl, hI⟩
          · intro us au w1 ha hd hst hI
            have e0 := hd 0 _ (by kernel_rfl) rfl
            have e4 := hd 4 _ (by kernel_rfl) rfl
            have e8 := hd 8 _ (by kernel_rfl) rfl
            have q92 := slot_at (t := 92) 0 ha (by kernel_rfl) (by kernel_rfl) (by kernel_rfl) e0
            have p92 := slot_norm q92
            have q96 := slot_at (t := 96) 4 ha (by kernel_rfl) (by kernel_rfl) (by kernel_rfl) e4
            have p96 := slot_norm q96
            have q100 := slot_at (t := 100) 8 ha (by kernel_rfl) (by kernel_rfl) (by kernel_rfl) e8
            have p100 := slot_norm q100
            clear ha hd hst
            refine StepI.call (f := 32) (args := #[.agg #[.int .i64 y.w, .slice y.A y.n y.c], .agg #[.int .i64 x.w, .slice x.A x.n x.c]]) rfl rfl (by go_simp) ?_
            refine (cmp_any y x w1 HOy.out HOx.out).mono ?_
            rintro e w' ⟨rfl, hb⟩
            exact ⟨_, rfl, rfl, SrtAt.below hI hb⟩
          · intro us au w1 k10 hlo hhi ha hd hst hI
            obtain rfl : k10 = 1 := by omega
            have e9 := hd 9 _ (by kernel_rfl) rfl
            have q101 := slot_at (t := 101) 9 ha (by kernel_rfl) (by kernel_rfl) (by kernel_rfl) e9
            have p101 := slot_norm q101
            clear ha hd hst
            exact StepI.pure (v := .bool false) rfl rfl (by go_simp) ⟨rfl, hI⟩
          · intro us au w1 k11 hlo hhi ha hd hst hI
            obtain rfl : k11 = 1 := by omega
            have e10 := hd 10 _ (by kernel_rfl) rfl
            have q102 := slot_at (t := 102) 10 ha (by kernel_rfl) (by kernel_rfl) (by kernel_rfl) e10
            have p102 := slot_norm q102
            clear ha hd hst
            exact StepI.pure (v := .bool true) rfl rfl (by go_simp) ⟨rfl, hI⟩
        case done =>
          intro us w1 hI hd
          have e11 := hd 11 _ (by decide) rfl
          clear hd HS hli hcl
          simp only [putAll]
          go_simp
          go_wp2
          go_roundw
          case rel =>
            refine ⟨h + 1, j, u1 ++ (q1 ++ [x]), q2, u3, by go_num, rfl, by rw [Hv.out, HV2.out]; simp, ?_, ?_, by omega, fun z hz => ?_, H3.out, hI⟩
            · have := HI.out; have := HW1.out; simp only [List.length_append, List.length_cons, List.length_nil]; omega
            · have := HJ.out; have := HW2.out; omega
            · rcases List.mem_append.1 hz with hz | hz
              · exact H1.out z hz
              · exact Srt.Sorted.all_le swoE (l := q1) (z := x) (by have := HSV2.out; rw [HV2.out, show q1 ++ x :: q2 = (q1 ++ [x]) ++ q2 by simp] at this; exact Srt.Sorted.left this) HX.out z hz
          case measure => simp [intOf]; omega
      · rw [hyx] at hcl
        have HX := Lib.hid hyx
        clear hyx
        go_upto_region 17 with (fail)
        clear c1 c2 c3
        refine wp_region_ph (by kernel_rfl) [9] [.span 0 0, .span 0 0, .span 0 0, .span 0 0, .span 0 0, .span 0 0, .span 0 0, .span 0 0, .span 0 0, .phase 0, .span 1 1, .span 1 1] [fun z9 => z9 = .func (.func 32) #[] #[], fun z9 => z9 = .slice (some ⟨g, off, none⟩) N cap, fun z9 => z9 = .int .i64 (m), fun z9 => z9 = .pointer (some ⟨g, off + (m) * 2, none⟩), fun z9 => z9 = .agg #[.int .i64 y.w, .slice y.A y.n y.c], fun z9 => z9 = .slice (some ⟨g, off, none⟩) N cap, fun z9 => z9 = .int .i64 (h), fun z9 => z9 = .pointer (some ⟨g, off + (h) * 2, none⟩), fun z9 => z9 = .agg #[.int .i64 x.w, .slice x.A x.n x.c], fun z9 => z9 = .int .i64 (cmpE y x), fun z9 => z9 = .bool true, fun z9 => z9 = .bool false] (fun _ w => SrtAt W g off cap (D) w) (by kernel_rfl) (by kernel_rfl) (by kernel_rfl) (by kernel_rfl) (by kernel_rfl) (by kernel_rfl) rfl rfl (HS.out) ?steps ?done
        case steps =>
          refine ⟨?_, ?_, ?_, ?_, ?_, ?_, ?_, ?_, ?_, ?_, ?_, ?_, trivial⟩
          · intro us au w1 k0 hlo hhi ha hd hst hI
            obtain rfl : k0 = 0 := by omega
            have q4 := slot_far (t := 4) (v := .func (.func 32) #[] #[]) ha (by kernel_rfl) (by kernel_rfl)
            have p4 := slot_norm q4
            clear ha hd hst
            exact StepI.pure (v := .func (.func 32) #[] #[]) rfl rfl (by go_simp) ⟨rfl, hI⟩
          · intro us au w1 k1 hlo hhi ha hd hst hI
            obtain rfl : k1 = 0 := by omega
            have q0 := slot_far (t := 0) (v := .slice (some ⟨g, off, none⟩) N cap) ha (by kernel_rfl) (by kernel_rfl)
            have p0 := slot_norm q0
            clear ha hd hst
            exact StepI.pure (v := .slice (some ⟨g, off, none⟩) N cap) rfl rfl (by go_simp) ⟨rfl, hI⟩
          · intro us au w1 k2 hlo hhi ha hd hst hI
            obtain rfl : k2 = 0 := by omega
            have q2 := slot_far (t := 2) (v := .int .i64 (m)) ha (by kernel_rfl) (by kernel_rfl)
            have p2 := slot_norm q2
            clear ha hd hst
            exact StepI.pure (v := .int .i64 (m)) rfl rfl (by go_simp) ⟨rfl, hI⟩
          · intro us au w1 k3 hlo hhi ha hd hst hI
            obtain rfl : k3 = 0 := by omega
            have e1 := hd 1 _ (by kernel_rfl) rfl
            have e2 := hd 2 _ (by kernel_rfl) rfl
            have q93 := slot_at (t := 93) 1 ha (by kernel_rfl) (by kernel_rfl) (by kernel_rfl) e1
            have p93 := slot_norm q93
            have q94 := slot_at (t := 94) 2 ha (by kernel_rfl) (by kernel_rfl) (by kernel_rfl) e2
            have p94 := slot_norm q94
            clear ha hd hst
            exact StepI.pure (v := .pointer (some ⟨g, off + (m) * 2, none⟩)) rfl rfl (by go_simp) ⟨rfl, hI⟩
          · intro us au w1 k4 hlo hhi ha hd hst hI
            obtain rfl : k4 = 0 := by omega
            have e3 := hd 3 _ (by kernel_rfl) rfl
            have q95 := slot_at (t := 95) 3 ha (by kernel_rfl) (by kernel_rfl) (by kernel_rfl) e3
            have p95 := slot_norm q95
            clear ha hd hst
            have c0 := SrtAt.c0 hI hlj.out
            have c1 := SrtAt.c1 hI hlj.out
            exact StepI.pure (v := .agg #[.int .i64 y.w, .slice y.A y.n y.c]) rfl rfl (by go_simp) ⟨rfl, hI⟩
          · intro us au w1 k5 hlo hhi ha hd hst hI
            obtain rfl : k5 = 0 := by omega
            have q0 := slot_far (t := 0) (v := .slice (some ⟨g, off, none⟩) N cap) ha (by kernel_rfl) (by kernel_rfl)
            have p0 := slot_norm q0
            clear ha hd hst
            exact StepI.pure (v := .slice (some ⟨g, off, none⟩) N cap) rfl rfl (by go_simp) ⟨rfl, hI⟩
          · intro us au w1 k6 hlo hhi ha hd hst hI
            obtain rfl : k6 = 0 := by omega
            have q16 := slot_far (t := 16) (v := .int .i64 (h)) ha (by kernel_rfl) (by kernel_rfl)
            have p16 := slot_norm q16
            clear ha hd hst
            exact StepI.pure (v := .int .i64 (h)) rfl rfl (by go_simp) ⟨rfl, hI⟩
          · intro us au w1 k7 hlo hhi ha hd hst hI
            obtain rfl : k7 = 0 := by omega
            have e5 := hd 5 _ (by kernel_rfl) rfl
            have e6 := hd 6 _ (by kernel_rfl) rfl
            have q97 := slot_at (t := 97) 5 ha (by kernel_rfl) (by kernel_rfl) (by kernel_rfl) e5
            have p97 := slot_norm q97
            have q98 := slot_at (t := 98) 6 ha (by kernel_rfl) (by kernel_rfl) (by kernel_rfl) e6
            have p98 := slot_norm q98
            clear ha hd hst
            exact StepI.pure (v := .pointer (some ⟨g, off + (h) * 2, none⟩)) rfl rfl (by go_simp) ⟨rfl, hI⟩
          · intro us au w1 k8 hlo hhi ha hd hst hI
            obtain rfl : k8 = 0 := by omega
            have e7 := hd 7 _ (by kernel_rfl) rfl
            have q99 := slot_at (t := 99) 7 ha (by kernel_rfl) (by kernel_rfl) (by kernel_rfl) e7
            have p99 := slot_norm q99
            clear ha hd hst
            have c0 := SrtAt.c0 hI hli.out
            have c1 := SrtAt.c1 hI hli.out
            exact StepI.pure (v := .agg #[.int .i64 x.w, .slice x.A x.n x.c]) rfl rfl (by go_simp) ⟨rfl, hI⟩
          · intro us au w1 ha hd hst hI
            have e0 := hd 0 _ (by kernel_rfl) rfl
            have e4 := hd 4 _ (by kernel_rfl) rfl
            have e8 := hd 8 _ (by kernel_rfl) rfl
            have q92 := slot_at (t := 92) 0 ha (by kernel_rfl) (by kernel_rfl) (by kernel_rfl) e0
            have p92 := slot_norm q92
            have q96 := slot_at (t := 96) 4 ha (by kernel_rfl) (by kernel_rfl) (by kernel_rfl) e4
            have p96 := slot_norm q96
            have q100 := slot_at (t := 100) 8 ha (by kernel_rfl) (by kernel_rfl) (by kernel_rfl) e8
            have p100 := slot_norm q100
            clear ha hd hst
            refine StepI.call (f := 32) (args := #[.agg #[.int .i64 y.w, .slice y.A y.n y.c], .agg #[.int .i64 x.w, .slice x.A x.n x.c]]) rfl rfl (by go_simp) ?_
            refine (cmp_any y x w1 HOy.out HOx.out).mono ?_
            rintro e w' ⟨rfl, hb⟩
            exact ⟨_, rfl, rfl, SrtAt.below hI hb⟩
          · intro us au w1 k10 hlo hhi ha hd hst hI
            obtain rfl : k10 = 1 := by omega
            have e9 := hd 9 _ (by kernel_rfl) rfl
            have q101 := slot_at (t := 101) 9 ha (by kernel_rfl) (by kernel_rfl) (by kernel_rfl) e9
            have p101 := slot_norm q101
            clear ha hd hst
            exact StepI.pure (v := .bool true) rfl rfl (by go_simp) ⟨rfl, hI⟩
          · intro us au w1 k11 hlo hhi ha hd hst hI
            obtain rfl : k11 = 1 := by omega
            have e10 := hd 10 _ (by kernel_rfl) rfl
            have q102 := slot_at (t := 102) 10 ha (by kernel_rfl) (by kernel_rfl) (by kernel_rfl) e10
            have p102 := slot_norm q102
            clear ha hd hst
            exact StepI.pure (v := .bool false) rfl rfl (by go_simp) ⟨rfl, hI⟩
        case done =>
          intro us w1 hI hd
          have e11 := hd 11 _ (by decide) rfl
          clear hd HS hli hcl
          simp only [putAll]
          go_simp
          go_wp2
          go_roundw
          case rel =>
            refine ⟨i, h, u1, q1, x :: q2 ++ u3, rfl, rfl, by rw [Hv.out, HV2.out]; simp, HI.out, by rw [HW1.out]; omega, by omega, H1.out, fun z hz => ?_, hI⟩
            rcases List.mem_append.1 hz with hz | hz
            · exact Srt.Sorted.all_gt swoE (l := q2) (z := x) (by have := HSV2.out; rw [HV2.out] at this; exact Srt.Sorted.right this) HX.out z hz
            · exact H3.out z hz
          case measure => simp [intOf]; omega
    · obtain rfl : u2 = [] := List.eq_nil_of_length_eq_zero (by omega)
      obtain rfl : j = i := by simpa using hj
      obtain ⟨n3, hn3⟩ : ∃ n3, u3.length = n3 := ⟨_, rfl⟩
      have hT : p ++ u1 ++ y :: u3 ++ s = p ++ Srt.mrg ltE u [y] ++ s := by
        rw [hv, List.append_nil, Srt.mrg_last y u1 u3 h1 h3]; simp
      have hD2 : D = p ++ u1 ++ u3 ++ y :: [] ++ s := by rw [HD.out, hv]; simp
      rw [hD2] at hAt
      have hin : m = j + n3 := by
        have h4 := HNU.out
        have h5 := HM.out
        rw [hv] at h4
        simp only [List.length_append, List.length_nil] at h4
        omega
      have HIN := Lib.hid hin
      have HT := Lib.hid hT
      have HAt := Lib.hid hAt
      have HN3 := Lib.hid hn3
      have HJ1 := Lib.hid hi
      clear hAt hT hD2 hi hj hv h1 h3 Hv H1 H3 hn3 hin HAT hlj HOV HV HNU HD
      go_wp2
      go_loopw [17] (fun kv wr => ∃ (K : Nat) (q1 q2 : List El), kv = .int .i64 K ∧ u3 = q1 ++ q2 ∧ K = j + q1.length ∧ SrtAt W g off cap (p ++ u1 ++ q1 ++ y :: q2 ++ s) wr) (fun kv _ => (intOf kv).toNat)
      case atStart => exact ⟨m, u3, [], rfl, by simp, by rw [HN3.out]; exact HIN.out, HAt.out⟩
      case round =>
        clear HAt
        obtain ⟨K, q1, q2, rfl, hv1, hK, hAt⟩ := hrel
        have hl2 : q1.length + q2.length = n3 := by have := HN3.out; rw [hv1, List.length_append] at this; exact this
        have hjn := HIN.out
        by_cases hlt2 : 0 < q1.length
        · obtain ⟨q0, x, rfl, hq0⟩ := last_of hlt2
          obtain ⟨J, hJ⟩ : ∃ J, J = j + q0.length := ⟨_, rfl⟩
          have hJK : J + 1 = K := by omega
          have e1 : (K : Int) - 1 = (J : Int) := by omega
          obtain ⟨D2, hD2⟩ : ∃ D2, D2 = (p ++ u1 ++ q0) ++ x :: [] ++ y :: (q2 ++ s) := ⟨_, rfl⟩
          have hDa : p ++ u1 ++ (q0 ++ [x]) ++ y :: q2 ++ s = D2 := by rw [hD2]; simp
          rw [hDa] at hAt
          have hpK : (p ++ u1 ++ q0).length = J := by rw [List.length_append, List.length_append, HA.out, hJ, HJ1.out]
          have hlj : D2[J]? = some x := by
            have := at_1 (p ++ u1 ++ q0) [] (q2 ++ s) x y
            rw [hD2, ← hpK]; exact this
          have hli : D2[K]? = some y := by
            have := at_2 (p ++ u1 ++ q0) [] (q2 ++ s) x y
            rw [hD2, ← hJK, ← hpK]; exact this
          have hset : (D2.set K x).set J y = p ++ u1 ++ q0 ++ y :: (x :: q2) ++ s := by
            have := set_set' (p ++ u1 ++ q0) [] (q2 ++ s) x y
            rw [hD2, ← hJK, ← hpK]
            simp only [List.length_nil, Nat.add_zero] at this
            rw [this]; simp
          have hKN : K < N := by
            simp only [List.length_append, List.length_cons, List.length_nil] at hl2
            omega
          have k0 : (0 : Int) ≤ (K : Int) := by omega
          have k1 : (K : Int) < (N : Int) := by omega
          have k2 : (0 : Int) ≤ (J : Int) := by omega
          have k3 : (J : Int) < (N : Int) := by omega
          have g1 : decide ((j : Int) < (K : Int)) = true := decide_eq_true (by omega)
          have g2 : decide (j < K) = true := decide_eq_true (by omega)
          have HSET := Lib.hid hset
          have HJ := Lib.hid hJ
          have HJK := Lib.hid hJK
          have hli := Lib.hid hli
          have hlj := Lib.hid hlj
          have HS := Lib.hid hAt.drew
          have HV1 := Lib.hid hv1
          clear hset hJ hAt hK hD2 hDa hpK hlt2 hv1 hjn hl2 hq0
          have hJK := HJK.out
          go_upto_region 23 with (fail)
          refine wp_region_ph (by kernel_rfl) [15, 17] [.span 0 0, .span 0 0, .span 0 1, .span 0 1, .span 0 1, .span 0 0, .span 0 0, .span 0 0, .span 0 0, .span 0 0, .span 0 0, .span 0 0, .span 0 0, .span 0 0, .span 0 0, .phase 0, .span 1 1, .phase 1] [fun z9 => z9 = .slice (some ⟨g, off, none⟩) N cap, fun z9 => z9 = .int .i64 (K), fun z9 => z9 = .slice (some ⟨g, off, none⟩) N cap, fun z9 => z9 = .int .i64 (K), fun z9 => z9 = .int .i64 (J), fun z9 => z9 = .slice (some ⟨g, off, none⟩) N cap, fun z9 => z9 = .int .i64 (K), fun z9 => z9 = .int .i64 (J), fun z9 => z9 = .pointer (some ⟨g, off + (J) * 2, none⟩), fun z9 => z9 = .agg #[.int .i64 x.w, .slice x.A x.n x.c], fun z9 => z9 = .slice (some ⟨g, off, none⟩) N cap, fun z9 => z9 = .int .i64 (K), fun z9 => z9 = .pointer (some ⟨g, off + (K) * 2, none⟩), fun z9 => z9 = .agg #[.int .i64 y.w, .slice y.A y.n y.c], fun z9 => z9 = .pointer (some ⟨g, off + (K) * 2, none⟩), fun _ => True, fun z9 => z9 = .pointer (some ⟨g, off + (J) * 2, none⟩), fun _ => True] (ISwap W g off cap (K) (J) y x (D2)) (by kernel_rfl) (by kernel_rfl) (by kernel_rfl) (by kernel_rfl) (by kernel_rfl) (by kernel_rfl) rfl rfl (HS.out) ?steps ?done
          case steps =>
            refine ⟨?_, ?_, ?_, ?_, ?_, ?_, ?_, ?_, ?_, ?_, ?_, ?_, ?_, ?_, ?_, ?_, ?_, ?_, trivial⟩
            · intro us au w1 k0 hlo hhi ha hd hst hI
              obtain rfl : k0 = 0 := by omega
              have q0 := slot_far (t := 0) (v := .slice (some ⟨g, off, none⟩) N cap) ha (by kernel_rfl) (by kernel_rfl)
              have p0 := slot_norm q0
              clear ha hd hst
              exact StepI.pure (v := .slice (some ⟨g, off, none⟩) N cap) rfl rfl (by go_simp) ⟨rfl, hI⟩
            · intro us au w1 k1 hlo hhi ha hd hst hI
              obtain rfl : k1 = 0 := by omega
              have q17 := slot_far (t := 17) (v := .int .i64 (K)) ha (by kernel_rfl) (by kernel_rfl)
              have p17 := slot_norm q17
              clear ha hd hst
              exact StepI.pure (v := .int .i64 (K)) rfl rfl (by go_simp) ⟨rfl, hI⟩
            · intro us au w1 k2 hlo hhi ha hd hst hI
              have q0 := slot_far (t := 0) (v := .slice (some ⟨g, off, none⟩) N cap) ha (by kernel_rfl) (by kernel_rfl)
              have p0 := slot_norm q0
              clear ha hd hst
              exact StepI.pure (v := .slice (some ⟨g, off, none⟩) N cap) rfl rfl (by go_simp) ⟨rfl, hI⟩
            · intro us au w1 k3 hlo hhi ha hd hst hI
              have q17 := slot_far (t := 17) (v := .int .i64 (K)) ha (by kernel_rfl) (by kernel_rfl)
              have p17 := slot_norm q17
              clear ha hd hst
              exact StepI.pure (v := .int .i64 (K)) rfl rfl (by go_simp) ⟨rfl, hI⟩
            · intro us au w1 k4 hlo hhi ha hd hst hI
              have e3 := hd 3 _ (by kernel_rfl) rfl
              have q116 := slot_at (t := 116) 3 ha (by kernel_rfl) (by kernel_rfl) (by kernel_rfl) e3
              have p116 := slot_norm q116
              clear ha hd hst
              exact StepI.pure (v := .int .i64 (J)) rfl rfl (by go_simp; exact IntWalk.i64_in _ (by omega)) ⟨rfl, hI⟩
            · intro us au w1 k5 hlo hhi ha hd hst hI
              obtain rfl : k5 = 0 := by omega
              have q0 := slot_far (t := 0) (v := .slice (some ⟨g, off, none⟩) N cap) ha (by kernel_rfl) (by kernel_rfl)
              have p0 := slot_norm q0
              clear ha hd hst
              exact StepI.pure (v := .slice (some ⟨g, off, none⟩) N cap) rfl rfl (by go_simp) ⟨rfl, hI⟩
            · intro us au w1 k6 hlo hhi ha hd hst hI
              obtain rfl : k6 = 0 := by omega
              have q17 := slot_far (t := 17) (v := .int .i64 (K)) ha (by kernel_rfl) (by kernel_rfl)
              have p17 := slot_norm q17
              clear ha hd hst
              exact StepI.pure (v := .int .i64 (K)) rfl rfl (by go_simp) ⟨rfl, hI⟩
            · intro us au w1 k7 hlo hhi ha hd hst hI
              obtain rfl : k7 = 0 := by omega
              have e6 := hd 6 _ (by kernel_rfl) rfl
              have q119 := slot_at (t := 119) 6 ha (by kernel_rfl) (by kernel_rfl) (by kernel_rfl) e6
              have p119 := slot_norm q119
              clear ha hd hst
              exact StepI.pure (v := .int .i64 (J)) rfl rfl (by go_simp; exact IntWalk.i64_in _ (by omega)) ⟨rfl, hI⟩
            · intro us au w1 k8 hlo hhi ha hd hst hI
              obtain rfl : k8 = 0 := by omega
              have e5 := hd 5 _ (by kernel_rfl) rfl
              have e7 := hd 7 _ (by kernel_rfl) rfl
              have q118 := slot_at (t := 118) 5 ha (by kernel_rfl) (by kernel_rfl) (by kernel_rfl) e5
              have p118 := slot_norm q118
              have q120 := slot_at (t := 120) 7 ha (by kernel_rfl) (by kernel_rfl) (by kernel_rfl) e7
              have p120 := slot_norm q120
              clear ha hd hst
              exact StepI.pure (v := .pointer (some ⟨g, off + (J) * 2, none⟩)) rfl rfl (by go_simp) ⟨rfl, hI⟩
            · intro us au w1 k9 hlo hhi ha hd hst hI
              obtain rfl : k9 = 0 := by omega
              have e8 := hd 8 _ (by kernel_rfl) rfl
              have q121 := slot_at (t := 121) 8 ha (by kernel_rfl) (by kernel_rfl) (by kernel_rfl) e8
              have p121 := slot_norm q121
              clear ha hd hst
              have c0 := SrtAt.c0 hI hlj.out
              have c1 := SrtAt.c1 hI hlj.out
              exact StepI.pure (v := .agg #[.int .i64 x.w, .slice x.A x.n x.c]) rfl rfl (by go_simp) ⟨rfl, hI⟩
            · intro us au w1 k10 hlo hhi ha hd hst hI
              obtain rfl : k10 = 0 := by omega
              have q0 := slot_far (t := 0) (v := .slice (some ⟨g, off, none⟩) N cap) ha (by kernel_rfl) (by kernel_rfl)
              have p0 := slot_norm q0
              clear ha hd hst
              exact StepI.pure (v := .slice (some ⟨g, off, none⟩) N cap) rfl rfl (by go_simp) ⟨rfl, hI⟩
            · intro us au w1 k11 hlo hhi ha hd hst hI
              obtain rfl : k11 = 0 := by omega
              have q17 := slot_far (t := 17) (v := .int .i64 (K)) ha (by kernel_rfl) (by kernel_rfl)
              have p17 := slot_norm q17
              clear ha hd hst
              exact StepI.pure (v := .int .i64 (K)) rfl rfl (by go_simp) ⟨rfl, hI⟩
            · intro us au w1 k12 hlo hhi ha hd hst hI
              obtain rfl : k12 = 0 := by omega
              have e10 := hd 10 _ (by kernel_rfl) rfl
              have e11 := hd 11 _ (by kernel_rfl) rfl
              have q123 := slot_at (t := 123) 10 ha (by kernel_rfl) (by kernel_rfl) (by kernel_rfl) e10
              have p123 := slot_norm q123
              have q124 := slot_at (t := 124) 11 ha (by kernel_rfl) (by kernel_rfl) (by kernel_rfl) e11
              have p124 := slot_norm q124
              clear ha hd hst
              exact StepI.pure (v := .pointer (some ⟨g, off + (K) * 2, none⟩)) rfl rfl (by go_simp) ⟨rfl, hI⟩
            · intro us au w1 k13 hlo hhi ha hd hst hI
              obtain rfl : k13 = 0 := by omega
              have e12 := hd 12 _ (by kernel_rfl) rfl
              have q125 := slot_at (t := 125) 12 ha (by kernel_rfl) (by kernel_rfl) (by kernel_rfl) e12
              have p125 := slot_norm q125
              clear ha hd hst
              have c0 := SrtAt.c0 hI hli.out
              have c1 := SrtAt.c1 hI hli.out
              exact StepI.pure (v := .agg #[.int .i64 y.w, .slice y.A y.n y.c]) rfl rfl (by go_simp) ⟨rfl, hI⟩
            · intro us au w1 k14 hlo hhi ha hd hst hI
              obtain rfl : k14 = 0 := by omega
              have e0 := hd 0 _ (by kernel_rfl) rfl
              have e1 := hd 1 _ (by kernel_rfl) rfl
              have q113 := slot_at (t := 113) 0 ha (by kernel_rfl) (by kernel_rfl) (by kernel_rfl) e0
              have p113 := slot_norm q113
              have q114 := slot_at (t := 114) 1 ha (by kernel_rfl) (by kernel_rfl) (by kernel_rfl) e1
              have p114 := slot_norm q114
              clear ha hd hst
              exact StepI.pure (v := .pointer (some ⟨g, off + (K) * 2, none⟩)) rfl rfl (by go_simp) ⟨rfl, hI⟩
            · intro us au w1 ha hd hst hI
              have e14 := hd 14 _ (by kernel_rfl) rfl
              have e9 := hd 9 _ (by kernel_rfl) rfl
              have q127 := slot_at (t := 127) 14 ha (by kernel_rfl) (by kernel_rfl) (by kernel_rfl) e14
              have p127 := slot_norm q127
              have q122 := slot_at (t := 122) 9 ha (by kernel_rfl) (by kernel_rfl) (by kernel_rfl) e9
              have p122 := slot_norm q122
              clear ha hd hst
              have hlt : K < (D2).length := (List.getElem?_eq_some_iff.1 hli.out).1
              have hx := hli.out
              have c0 := SrtAt.c0 hI hx
              have c1 := SrtAt.c1 hI hx
              have f0 := SrtAt.f0 hI hlt
              have f1 := SrtAt.f1 hI hlt
              exact StepI.stored (w' := putCells w1 g (off + (K) * 2) (encE x)) rfl rfl (by simp only [putCells, encE]; go_simp) ⟨trivial, SrtAt.put hI hlt x⟩
            · intro us au w1 k16 hlo hhi ha hd hst hI
              obtain rfl : k16 = 1 := by omega
              have e2 := hd 2 _ (by kernel_rfl) rfl
              have e4 := hd 4 _ (by kernel_rfl) rfl
              have q115 := slot_at (t := 115) 2 ha (by kernel_rfl) (by kernel_rfl) (by kernel_rfl) e2
              have p115 := slot_norm q115
              have q117 := slot_at (t := 117) 4 ha (by kernel_rfl) (by kernel_rfl) (by kernel_rfl) e4
              have p117 := slot_norm q117
              clear ha hd hst
              exact StepI.pure (v := .pointer (some ⟨g, off + (J) * 2, none⟩)) rfl rfl (by go_simp) ⟨rfl, hI⟩
            · intro us au w1 ha hd hst hI
              have e16 := hd 16 _ (by kernel_rfl) rfl
              have e13 := hd 13 _ (by kernel_rfl) rfl
              have q128 := slot_at (t := 128) 16 ha (by kernel_rfl) (by kernel_rfl) (by kernel_rfl) e16
              have p128 := slot_norm q128
              have q126 := slot_at (t := 126) 13 ha (by kernel_rfl) (by kernel_rfl) (by kernel_rfl) e13
              have p126 := slot_norm q126
              clear ha hd hst
              have hlt : J < ((D2).set (K) x).length := by rw [List.length_set]; exact (List.getElem?_eq_some_iff.1 hlj.out).1
              have hx : ((D2).set (K) x)[J]? = some x := by rw [List.getElem?_set_ne (by omega)]; exact hlj.out
              have c0 := SrtAt.c0 hI hx
              have c1 := SrtAt.c1 hI hx
              have f0 := SrtAt.f0 hI hlt
              have f1 := SrtAt.f1 hI hlt
              exact StepI.stored (w' := putCells w1 g (off + (J) * 2) (encE y)) rfl rfl (by simp only [putCells, encE]; go_simp) ⟨trivial, SrtAt.put hI hlt y⟩
          case done =>
            intro us w1 hI hd
            clear hd HS hli hlj hJK
            simp only [putAll]
            go_simp
            go_wp2
            go_roundw
            case rel => exact ⟨J, q0, x :: q2, rfl, by rw [HV1.out]; simp, HJ.out, by rw [← HSET.out]; exact hI⟩
            case measure => have := HJK.out; simp [intOf]; omega
        · obtain rfl : q1 = [] := List.eq_nil_of_length_eq_zero (by omega)
          obtain rfl : K = j := by simpa using hK
          have hx : u3 = q2 := by simpa using hv1
          rw [← hx] at hAt
          have hAt' : SrtAt W g off cap (p ++ Srt.mrg ltE u [y] ++ s) wr := by
            rw [← HT.out]
            have := hAt
            simp only [List.append_assoc, List.cons_append, List.nil_append] at this ⊢
            exact this
          have HAt := Lib.hid hAt'
          clear hAt hAt' hv1 hx hK hl2 hjn
          go_wp2
          go_end0
          exact ⟨rfl, HAt.out.1, HAt.out.2⟩
end Go.Proofs.Ytdmggpngmlhboaa
