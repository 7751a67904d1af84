/- The packages of a row of coins. -/
import Derived.Test.YtdmggpngmlhboaaHufC
namespace Go.Proofs.Ytdmggpngmlhboaa
open Go.RowKit
set_option linter.unusedVariables false
set_option linter.unusedSimpArgs false

def PkPost (W : World) (C : List Huf.Coin) (e : Ending) (w' : World) : Prop :=
  ∃ A c P, e = .returned (.slice A (Huf.pk C).length c) ∧ OwnS w' W.heap.size 76 2 (.slice A (Huf.pk C).length c) (Huf.pk C).length (P.flatMap encE) ∧ CoinsAt w' W.heap.size P (Huf.pk C) ∧ Below W.heap.size W w'
set_option maxRecDepth 100000 in
set_option maxHeartbeats 4000000 in
theorem packages_any (g off N cap B : Nat) (L : List El) (C : List Huf.Coin) (W : World) (hS : SRow W 76 2 encE g off cap L) (hN : L.length = N) (hC : CoinsAt W B L C) (hbd : ∀ c ∈ C, 0 ≤ c.1 ∧ c.1 ≤ 576460752303423488 ∧ c.2.length ≤ 1073741824) (hNb : N ≤ 1073741824) :
    Calls Try.prog 35 #[.slice (some ⟨g, off, none⟩) N cap] W (PkPost W C) := by
  have hcap := hS.capLe
  unfold maxLen at hcap
  have hNc : N ≤ cap := by rw [← hN]; exact hcap.1
  have hcm : cap ≤ 9223372036854775807 := hcap.2
  have hCN : C.length = N := by rw [← hC.length]; exact hN
  obtain ⟨i0, hi, hz0, hz1, hz2'⟩ := info_parts Try.info_Coin
  have HS0 := Lib.hid hS
  have HC := Lib.hid hC
  have HCN := Lib.hid hCN
  have HBD := Lib.hid hbd
  clear hS hN hcap hC hCN hbd
  go_enter Try.func35, Try.ntmps35
  go_wp2
  go_loopw [3, 4] (fun vo iv wr => ∃ (k I : Nat) (P : List El), iv = .int .i64 I ∧ I = 2 * k ∧ I ≤ N ∧ OwnS wr W.heap.size 76 2 vo k (P.flatMap encE) ∧ CoinsAt wr W.heap.size P ((Huf.pk C).take k) ∧ Below W.heap.size W wr) (fun _ iv _ => N + 2 - (intOf iv).toNat)
  case atStart => exact ⟨0, 0, [], rfl, rfl, Nat.zero_le _, OwnS.nil _ _ _ _, trivial, Below.refl _ _⟩
  case round =>
    obtain ⟨k, I, P, rfl, hI2, hIN, hO, hP, hB⟩ := hrel
    by_cases hlt : I + 1 < N
    · obtain ⟨Ao, co, rfl⟩ := hO.shape
      have hcn := HCN.out
      obtain ⟨J, hJ⟩ : ∃ J, J = I + 1 := ⟨_, rfl⟩
      obtain ⟨c1, hc1⟩ : ∃ c, C[I]? = some c := ⟨C[I]'(by omega), List.getElem?_eq_getElem (by omega)⟩
      obtain ⟨c2, hc2⟩ : ∃ c, C[J]? = some c := ⟨C[J]'(by omega), List.getElem?_eq_getElem (by omega)⟩
      obtain ⟨e1, hli, ha1⟩ := HC.out.get I c1 hc1
      obtain ⟨e2, hlj, ha2⟩ := HC.out.get J c2 hc2
      have hd1 := HBD.out c1 (List.mem_of_getElem? hc1)
      have hd2 := HBD.out c2 (List.mem_of_getElem? hc2)
      have hpk : (Huf.pk C)[k]? = some (c1.1 + c2.1, c1.2 ++ c2.2) := pk_get C k c1 c2 (by rw [← hI2]; exact hc1) (by rw [← hI2, ← hJ]; exact hc2)
      obtain ⟨ids, hids⟩ : ∃ ids, c1.2 ++ c2.2 = ids := ⟨_, rfl⟩
      have hln : e1.n + e2.n = ids.length := by rw [ha1.n, ha2.n, ← hids, List.length_append]
      have hn1 := ha1.n
      have hn2 := ha2.n
      have hw1 : 0 ≤ e1.w ∧ e1.w ≤ 576460752303423488 := by rw [ha1.w]; exact ⟨hd1.1, hd1.2.1⟩
      have hw2 : 0 ≤ e2.w ∧ e2.w ≤ 576460752303423488 := by rw [ha2.w]; exact ⟨hd2.1, hd2.2.1⟩
      have hns : (e1.n + e2.n) * 8 ≤ 140737488355328 := by rw [hn1, hn2]; omega
      have hsw : e1.w + e2.w = c1.1 + c2.1 := by rw [ha1.w, ha2.w]
      rw [hids] at hpk
      obtain ⟨hw10, hw11⟩ := hw1
      obtain ⟨hw20, hw21⟩ := hw2
      have f1 : (I : Int) + 1 = (J : Int) := by omega
      have j0 : (0 : Int) ≤ (I : Int) := by omega
      have j1 : (I : Int) < (N : Int) := by omega
      have j2 : (0 : Int) ≤ (J : Int) := by omega
      have j3 : (J : Int) < (N : Int) := by omega
      have hk : k ≤ 1073741824 := by omega
      have hmx1 : k + 1 ≤ maxLen := by unfold maxLen; omega
      have hmx2 : (k + 1) * 32 ≤ 140737488355328 := by omega
      have HS := Lib.hid ((HS0.out.below hB).below (Below.refl _ _).drew)
      have HC1 := Lib.hid (((ha1.below hB)).below (Below.refl _ _).drew)
      have HC2 := Lib.hid (((ha2.below hB)).below (Below.refl _ _).drew)
      have HO := Lib.hid hO.drew
      have HP := Lib.hid (hP.imp (fun e c h => h.below (Below.refl _ _).drew))
      have HZ : Hid (W.heap.size ≤ wr.drew.heap.size) := hB.size
      have HB := Lib.hid (hB.trans ((Below.refl wr.heap.size wr).drew.mono hB.size))
      have HPK := Lib.hid hpk
      have HID := Lib.hid hids
      have HLN := Lib.hid hln
      have HSW := Lib.hid hsw
      have HI2 := Lib.hid hI2
      have hli := Lib.hid hli
      have hlj := Lib.hid hlj
      have HJ := Lib.hid hJ
      clear hcn hc1 hc2 ha1 ha2 hd1 hd2 hpk hids hln hn1 hn2 hO hP hB hI2 hsw hJ
      go_upto_region 5 with (fail)
      refine wp_region_ph (by kernel_rfl) [24, 25, 26, 27, 28, 29] [.span 0 4, .span 0 2, .span 0 2, .span 0 2, .span 0 2, .span 0 2, .span 0 2, .span 0 2, .span 0 2, .span 0 2, .span 0 2, .span 0 2, .span 0 2, .span 0 0, .span 0 0, .span 0 0, .span 0 0, .span 0 0, .span 0 0, .span 0 0, .span 0 0, .span 0 0, .span 0 0, .span 0 0, .phase 0, .phase 1, .phase 2, .phase 3, .phase 4, .phase 5] [fun z9 => z9 = .slice Ao k co, fun z9 => z9 = .slice (some ⟨g, off, none⟩) N cap, fun z9 => z9 = .int .i64 (I), fun z9 => z9 = .pointer (some ⟨g, off + (I) * 2, none⟩), fun z9 => z9 = .pointer (some ⟨g, off + (I) * 2, none⟩), fun z9 => z9 = .int .i64 e1.w, fun z9 => z9 = .slice (some ⟨g, off, none⟩) N cap, fun z9 => z9 = .int .i64 (I), fun z9 => z9 = .int .i64 (J), fun z9 => z9 = .pointer (some ⟨g, off + (J) * 2, none⟩), fun z9 => z9 = .pointer (some ⟨g, off + (J) * 2, none⟩), fun z9 => z9 = .int .i64 e2.w, fun z9 => z9 = .int .i64 (e1.w + e2.w), fun z9 => z9 = .slice (some ⟨g, off, none⟩) N cap, fun z9 => z9 = .int .i64 (I), fun z9 => z9 = .pointer (some ⟨g, off + (I) * 2, none⟩), fun z9 => z9 = .pointer (some ⟨g, off + (I) * 2 + 1, none⟩), fun z9 => z9 = .slice e1.A e1.n e1.c, fun z9 => z9 = .slice (some ⟨g, off, none⟩) N cap, fun z9 => z9 = .int .i64 (I), fun z9 => z9 = .int .i64 (J), fun z9 => z9 = .pointer (some ⟨g, off + (J) * 2, none⟩), fun z9 => z9 = .pointer (some ⟨g, off + (J) * 2 + 1, none⟩), fun z9 => z9 = .slice e2.A e2.n e2.c, fun v => ∃ bb, v = .slice (some ⟨bb, 0, none⟩) 2 2, fun v => ∃ A c, v = .slice A ids.length c, fun v => ∃ A c, v = .agg #[.int .i64 (e1.w + e2.w), .slice A ids.length c], fun v => ∃ bb, v = .slice (some ⟨bb, 0, none⟩) 1 1, fun _ => True, fun _ => True] (IPk wr.drew e1 e2 ids (FPk W W.heap.size k P ((Huf.pk C).take k) (e1.w + e2.w, ids))) (by kernel_rfl) (by kernel_rfl) (by kernel_rfl) (by kernel_rfl) (by kernel_rfl) (by kernel_rfl) rfl rfl (Below.refl _ _) ?steps ?done
      case steps =>
        refine ⟨?_, ?_, ?_, ?_, ?_, ?_, ?_, ?_, ?_, ?_, ?_, ?_, ?_, ?_, ?_, ?_, ?_, ?_, ?_, ?_, ?_, ?_, ?_, ?_, ?_, ?_, ?_, ?_, ?_, ?_, trivial⟩
        · intro us au w1 k0 hlo hhi ha hd hst hI
          have q3 := slot_start (t := 3) (v := .slice Ao k co) 29 ha (hst 29 (by decide) (by kernel_rfl)) (by kernel_rfl) (by kernel_rfl) (by kernel_rfl) (by kernel_rfl)
          have p3 := slot_norm q3
          clear ha hd hst
          exact StepI.pure (v := .slice Ao k co) rfl rfl (by go_simp) ⟨rfl, hI⟩
        · intro us au w1 k1 hlo hhi ha hd hst hI
          have q0 := slot_far (t := 0) (v := .slice (some ⟨g, off, none⟩) N cap) ha (by kernel_rfl) (by kernel_rfl)
          have p0 := slot_norm q0
          clear ha hd hst
          exact StepI.pure (v := .slice (some ⟨g, off, none⟩) N cap) rfl rfl (by go_simp) ⟨rfl, hI⟩
        · intro us au w1 k2 hlo hhi ha hd hst hI
          have q4 := slot_far (t := 4) (v := .int .i64 (I)) ha (by kernel_rfl) (by kernel_rfl)
          have p4 := slot_norm q4
          clear ha hd hst
          exact StepI.pure (v := .int .i64 (I)) rfl rfl (by go_simp) ⟨rfl, hI⟩
        · intro us au w1 k3 hlo hhi ha hd hst hI
          have e1 := hd 1 _ (by kernel_rfl) rfl
          have e2 := hd 2 _ (by kernel_rfl) rfl
          have q13 := slot_at (t := 13) 1 ha (by kernel_rfl) (by kernel_rfl) (by kernel_rfl) e1
          have p13 := slot_norm q13
          have q14 := slot_at (t := 14) 2 ha (by kernel_rfl) (by kernel_rfl) (by kernel_rfl) e2
          have p14 := slot_norm q14
          clear ha hd hst
          exact StepI.pure (v := .pointer (some ⟨g, off + (I) * 2, none⟩)) rfl rfl (by go_simp) ⟨rfl, hI⟩
        · intro us au w1 k4 hlo hhi ha hd hst hI
          have e3 := hd 3 _ (by kernel_rfl) rfl
          have q15 := slot_at (t := 15) 3 ha (by kernel_rfl) (by kernel_rfl) (by kernel_rfl) e3
          have p15 := slot_norm q15
          clear ha hd hst
          exact StepI.pure (v := .pointer (some ⟨g, off + (I) * 2, none⟩)) rfl rfl (by go_simp) ⟨rfl, hI⟩
        · intro us au w1 k5 hlo hhi ha hd hst hI
          have e4 := hd 4 _ (by kernel_rfl) rfl
          have q16 := slot_at (t := 16) 4 ha (by kernel_rfl) (by kernel_rfl) (by kernel_rfl) e4
          have p16 := slot_norm q16
          clear ha hd hst
          have hSw := HS.out.below (IPk.below (Nat.le_trans hhi (by decide)) hI)
          have cl := hSw.e0 hli.out
          exact StepI.pure (v := .int .i64 e1.w) rfl rfl (by go_simp) ⟨rfl, hI⟩
        · intro us au w1 k6 hlo hhi ha hd hst hI
          have q0 := slot_far (t := 0) (v := .slice (some ⟨g, off, none⟩) N cap) ha (by kernel_rfl) (by kernel_rfl)
          have p0 := slot_norm q0
          clear ha hd hst
          exact StepI.pure (v := .slice (some ⟨g, off, none⟩) N cap) rfl rfl (by go_simp) ⟨rfl, hI⟩
        · intro us au w1 k7 hlo hhi ha hd hst hI
          have q4 := slot_far (t := 4) (v := .int .i64 (I)) ha (by kernel_rfl) (by kernel_rfl)
          have p4 := slot_norm q4
          clear ha hd hst
          exact StepI.pure (v := .int .i64 (I)) rfl rfl (by go_simp) ⟨rfl, hI⟩
        · intro us au w1 k8 hlo hhi ha hd hst hI
          have e7 := hd 7 _ (by kernel_rfl) rfl
          have q19 := slot_at (t := 19) 7 ha (by kernel_rfl) (by kernel_rfl) (by kernel_rfl) e7
          have p19 := slot_norm q19
          clear ha hd hst
          exact StepI.pure (v := .int .i64 (J)) rfl rfl (by go_simp; exact IntWalk.i64_in _ (by omega)) ⟨rfl, hI⟩
        · intro us au w1 k9 hlo hhi ha hd hst hI
          have e6 := hd 6 _ (by kernel_rfl) rfl
          have e8 := hd 8 _ (by kernel_rfl) rfl
          have q18 := slot_at (t := 18) 6 ha (by kernel_rfl) (by kernel_rfl) (by kernel_rfl) e6
          have p18 := slot_norm q18
          have q20 := slot_at (t := 20) 8 ha (by kernel_rfl) (by kernel_rfl) (by kernel_rfl) e8
          have p20 := slot_norm q20
          clear ha hd hst
          exact StepI.pure (v := .pointer (some ⟨g, off + (J) * 2, none⟩)) rfl rfl (by go_simp) ⟨rfl, hI⟩
        · intro us au w1 k10 hlo hhi ha hd hst hI
          have e9 := hd 9 _ (by kernel_rfl) rfl
          have q21 := slot_at (t := 21) 9 ha (by kernel_rfl) (by kernel_rfl) (by kernel_rfl) e9
          have p21 := slot_norm q21
          clear ha hd hst
          exact StepI.pure (v := .pointer (some ⟨g, off + (J) * 2, none⟩)) rfl rfl (by go_simp) ⟨rfl, hI⟩
        · intro us au w1 k11 hlo hhi ha hd hst hI
          have e10 := hd 10 _ (by kernel_rfl) rfl
          have q22 := slot_at (t := 22) 10 ha (by kernel_rfl) (by kernel_rfl) (by kernel_rfl) e10
          have p22 := slot_norm q22
          clear ha hd hst
          have hSw := HS.out.below (IPk.below (Nat.le_trans hhi (by decide)) hI)
          have cl := hSw.e0 hlj.out
          exact StepI.pure (v := .int .i64 e2.w) rfl rfl (by go_simp) ⟨rfl, hI⟩
        · intro us au w1 k12 hlo hhi ha hd hst hI
          have e5 := hd 5 _ (by kernel_rfl) rfl
          have e11 := hd 11 _ (by kernel_rfl) rfl
          have q17 := slot_at (t := 17) 5 ha (by kernel_rfl) (by kernel_rfl) (by kernel_rfl) e5
          have p17 := slot_norm q17
          have q23 := slot_at (t := 23) 11 ha (by kernel_rfl) (by kernel_rfl) (by kernel_rfl) e11
          have p23 := slot_norm q23
          clear ha hd hst
          exact StepI.pure (v := .int .i64 (e1.w + e2.w)) rfl rfl (by go_simp; exact IntWalk.i64_in _ (by omega)) ⟨rfl, hI⟩
        · intro us au w1 k13 hlo hhi ha hd hst hI
          obtain rfl : k13 = 0 := by omega
          have q0 := slot_far (t := 0) (v := .slice (some ⟨g, off, none⟩) N cap) ha (by kernel_rfl) (by kernel_rfl)
          have p0 := slot_norm q0
          clear ha hd hst
          exact StepI.pure (v := .slice (some ⟨g, off, none⟩) N cap) rfl rfl (by go_simp) ⟨rfl, hI⟩
        · intro us au w1 k14 hlo hhi ha hd hst hI
          obtain rfl : k14 = 0 := by omega
          have q4 := slot_far (t := 4) (v := .int .i64 (I)) ha (by kernel_rfl) (by kernel_rfl)
          have p4 := slot_norm q4
          clear ha hd hst
          exact StepI.pure (v := .int .i64 (I)) rfl rfl (by go_simp) ⟨rfl, hI⟩
        · intro us au w1 k15 hlo hhi ha hd hst hI
          obtain rfl : k15 = 0 := by omega
          have e13 := hd 13 _ (by kernel_rfl) rfl
          have e14 := hd 14 _ (by kernel_rfl) rfl
          have q25 := slot_at (t := 25) 13 ha (by kernel_rfl) (by kernel_rfl) (by kernel_rfl) e13
          have p25 := slot_norm q25
          have q26 := slot_at (t := 26) 14 ha (by kernel_rfl) (by kernel_rfl) (by kernel_rfl) e14
          have p26 := slot_norm q26
          clear ha hd hst
          exact StepI.pure (v := .pointer (some ⟨g, off + (I) * 2, none⟩)) rfl rfl (by go_simp) ⟨rfl, hI⟩
        · intro us au w1 k16 hlo hhi ha hd hst hI
          obtain rfl : k16 = 0 := by omega
          have e15 := hd 15 _ (by kernel_rfl) rfl
          have q27 := slot_at (t := 27) 15 ha (by kernel_rfl) (by kernel_rfl) (by kernel_rfl) e15
          have p27 := slot_norm q27
          clear ha hd hst
          exact StepI.pure (v := .pointer (some ⟨g, off + (I) * 2 + 1, none⟩)) rfl rfl (by go_simp) ⟨rfl, hI⟩
        · intro us au w1 k17 hlo hhi ha hd hst hI
          obtain rfl : k17 = 0 := by omega
          have e16 := hd 16 _ (by kernel_rfl) rfl
          have q28 := slot_at (t := 28) 16 ha (by kernel_rfl) (by kernel_rfl) (by kernel_rfl) e16
          have p28 := slot_norm q28
          clear ha hd hst
          have hSw := HS.out.below (IPk.below (Nat.le_trans hhi (by decide)) hI)
          have cl := hSw.e1 hli.out
          exact StepI.pure (v := .slice e1.A e1.n e1.c) rfl rfl (by go_simp) ⟨rfl, hI⟩
        · intro us au w1 k18 hlo hhi ha hd hst hI
          obtain rfl : k18 = 0 := by omega
          have q0 := slot_far (t := 0) (v := .slice (some ⟨g, off, none⟩) N cap) ha (by kernel_rfl) (by kernel_rfl)
          have p0 := slot_norm q0
          clear ha hd hst
          exact StepI.pure (v := .slice (some ⟨g, off, none⟩) N cap) rfl rfl (by go_simp) ⟨rfl, hI⟩
        · intro us au w1 k19 hlo hhi ha hd hst hI
          obtain rfl : k19 = 0 := by omega
          have q4 := slot_far (t := 4) (v := .int .i64 (I)) ha (by kernel_rfl) (by kernel_rfl)
          have p4 := slot_norm q4
          clear ha hd hst
          exact StepI.pure (v := .int .i64 (I)) rfl rfl (by go_simp) ⟨rfl, hI⟩
        · intro us au w1 k20 hlo hhi ha hd hst hI
          obtain rfl : k20 = 0 := by omega
          have e19 := hd 19 _ (by kernel_rfl) rfl
          have q31 := slot_at (t := 31) 19 ha (by kernel_rfl) (by kernel_rfl) (by kernel_rfl) e19
          have p31 := slot_norm q31
          clear ha hd hst
          exact StepI.pure (v := .int .i64 (J)) rfl rfl (by go_simp; exact IntWalk.i64_in _ (by omega)) ⟨rfl, hI⟩
        · intro us au w1 k21 hlo hhi ha hd hst hI
          obtain rfl : k21 = 0 := by omega
          have e18 := hd 18 _ (by kernel_rfl) rfl
          have e20 := hd 20 _ (by kernel_rfl) rfl
          have q30 := slot_at (t := 30) 18 ha (by kernel_rfl) (by kernel_rfl) (by kernel_rfl) e18
          have p30 := slot_norm q30
          have q32 := slot_at (t := 32) 20 ha (by kernel_rfl) (by kernel_rfl) (by kernel_rfl) e20
          have p32 := slot_norm q32
          clear ha hd hst
          exact StepI.pure (v := .pointer (some ⟨g, off + (J) * 2, none⟩)) rfl rfl (by go_simp) ⟨rfl, hI⟩
        · intro us au w1 k22 hlo hhi ha hd hst hI
          obtain rfl : k22 = 0 := by omega
          have e21 := hd 21 _ (by kernel_rfl) rfl
          have q33 := slot_at (t := 33) 21 ha (by kernel_rfl) (by kernel_rfl) (by kernel_rfl) e21
          have p33 := slot_norm q33
          clear ha hd hst
          exact StepI.pure (v := .pointer (some ⟨g, off + (J) * 2 + 1, none⟩)) rfl rfl (by go_simp) ⟨rfl, hI⟩
        · intro us au w1 k23 hlo hhi ha hd hst hI
          obtain rfl : k23 = 0 := by omega
          have e22 := hd 22 _ (by kernel_rfl) rfl
          have q34 := slot_at (t := 34) 22 ha (by kernel_rfl) (by kernel_rfl) (by kernel_rfl) e22
          have p34 := slot_norm q34
          clear ha hd hst
          have hSw := HS.out.below (IPk.below (Nat.le_trans hhi (by decide)) hI)
          have cl := hSw.e1 hlj.out
          exact StepI.pure (v := .slice e2.A e2.n e2.c) rfl rfl (by go_simp) ⟨rfl, hI⟩
        · intro us au w1 ha hd hst hI
          have e17 := hd 17 _ (by kernel_rfl) rfl
          have e23 := hd 23 _ (by kernel_rfl) rfl
          have q29 := slot_at (t := 29) 17 ha (by kernel_rfl) (by kernel_rfl) (by kernel_rfl) e17
          have p29 := slot_norm q29
          have q35 := slot_at (t := 35) 23 ha (by kernel_rfl) (by kernel_rfl) (by kernel_rfl) e23
          have p35 := slot_norm q35
          clear ha hd hst
          exact StepI.runs (v := .slice (some ⟨w1.heap.size, 0, none⟩) 2 2) (w' := w1.alloc (.cells #[.slice e1.A e1.n e1.c, .slice e2.A e2.n e2.c] 23)) rfl rfl (by go_simp) ⟨⟨_, rfl⟩, Below.trans hI ((Below.refl _ _).alloc hI.size _), _, rfl, by simp, by simp, by simp⟩
        · intro us au w1 ha hd hst hI
          obtain ⟨b24, e24⟩ := hd 24 _ (by kernel_rfl) rfl
          have q36 := slot_at (t := 36) 24 ha (by kernel_rfl) (by kernel_rfl) (by kernel_rfl) (Eq.refl (us 24))
          have p36 := slot_norm q36
          clear ha hd hst
          obtain ⟨hb, bb, hv, hbb, hc1, hc2⟩ := hI
          rw [hv] at p36
          refine StepI.call (f := 68) (args := #[.slice (some ⟨bb, 0, none⟩) 2 2]) rfl rfl (by go_simp) ?_
          refine (concat_Int bb 0 2 e1.n e2.n _ _ (idsV c1.2) (idsV c2.2) w1 hc1 hc2 hbb ((HC1.out.below hb).src) ((HC2.out.below hb).src) (by omega)).mono ?_
          rintro e w' ⟨A, c, rfl, ho, hbl⟩
          rw [← idsV_append, HID.out] at ho
          rw [HLN.out] at ho ⊢
          exact ⟨_, rfl, ⟨A, c, rfl⟩, Below.trans hb (hbl.mono hb.size), A, c, rfl, ho.base_ hb.size⟩
        · intro us au w1 ha hd hst hI
          have e12 := hd 12 _ (by kernel_rfl) rfl
          obtain ⟨A25, c25, e25⟩ := hd 25 _ (by kernel_rfl) rfl
          have q24 := slot_at (t := 24) 12 ha (by kernel_rfl) (by kernel_rfl) (by kernel_rfl) e12
          have p24 := slot_norm q24
          have q37 := slot_at (t := 37) 25 ha (by kernel_rfl) (by kernel_rfl) (by kernel_rfl) (Eq.refl (us 25))
          have p37 := slot_norm q37
          clear ha hd hst
          obtain ⟨hb, A, c, hv, ho⟩ := hI
          rw [hv] at p37
          exact StepI.pure (v := .agg #[.int .i64 (e1.w + e2.w), .slice A ids.length c]) rfl rfl (by go_simp) ⟨⟨A, c, rfl⟩, hb, A, c, rfl, ho⟩
        · intro us au w1 ha hd hst hI
          obtain ⟨A26, c26, e26⟩ := hd 26 _ (by kernel_rfl) rfl
          have q38 := slot_at (t := 38) 26 ha (by kernel_rfl) (by kernel_rfl) (by kernel_rfl) (Eq.refl (us 26))
          have p38 := slot_norm q38
          clear ha hd hst
          obtain ⟨hb, A, c, hx, ho⟩ := hI
          rw [hx] at p38
          exact StepI.runs (v := .slice (some ⟨w1.heap.size, 0, none⟩) 1 1) (w' := w1.alloc (.cells #[.int .i64 (e1.w + e2.w), .slice A ids.length c] 76)) rfl rfl (by go_simp) ⟨⟨_, rfl⟩, hb.trans ((Below.refl _ _).alloc hb.size _), A, c, ho.alloc _, ⟨_, rfl⟩, Src.coin ⟨e1.w + e2.w, A, ids.length, c⟩⟩
        · intro us au w1 ha hd hst hI
          have e0 := hd 0 _ (by kernel_rfl) rfl
          obtain ⟨b27, e27⟩ := hd 27 _ (by kernel_rfl) rfl
          have q12 := slot_at (t := 12) 0 ha (by kernel_rfl) (by kernel_rfl) (by kernel_rfl) e0
          have p12 := slot_norm q12
          have q39 := slot_at (t := 39) 27 ha (by kernel_rfl) (by kernel_rfl) (by kernel_rfl) (Eq.refl (us 27))
          have p39 := slot_norm q39
          clear ha hd hst
          obtain ⟨hb, A, c, ho, ⟨bb, hu⟩, hsrc⟩ := hI
          rw [hu] at hsrc
          rw [hu] at q39
          have hO := HO.out.chg (S := fun _ => False) (Chg.of_below hb) (fun _ _ h => h)
          have hP := HP.out.imp (fun e c h => h.below hb)
          have hz := HZ.out
          have hz2 := hb.size
          refine StepI.wp rfl rfl (fun K hK => ?_)
          refine wp_append_S (.tmp 12) (.tmp 39) 74 74 rfl i0 _ 32 (.slice 76) Try.underlying74 Try.underlying74 (fun _ h => by cases h) hi hz0 hz1 hz2' rfl (v := .slice Ao k co) (x := .slice (some ⟨bb, 0, none⟩) 1 1) q12 q39 hO hsrc hmx1 hmx2 (by omega) (fun A9 c9 w9 ho9 hg9 hw9 => hK _ _ ⟨trivial, FPk.mk hO ho rfl hP hg9 ho9 (HB.out.trans (hb.mono hz)) hz (by omega)⟩)
        · intro us au w1 ha hd hst hI
          obtain ⟨_⟩ := hd 28 _ (by kernel_rfl) rfl
          have q40 := slot_at (t := 40) 28 ha (by kernel_rfl) (by kernel_rfl) (by kernel_rfl) (Eq.refl (us 28))
          have p40 := slot_norm q40
          clear ha hd hst
          exact StepI.pure (v := us 28) rfl rfl (by go_simp) ⟨trivial, rfl, hI⟩
      case done =>
        intro us w1 hI hd
        obtain ⟨hx, e', hO9, hC9, hP9, hB9⟩ := hI
        have HX := Lib.hid (show OwnS w1 W.heap.size 76 2 (us 29) (k + 1) ((P ++ [e']).flatMap encE) from by rw [show us 29 = us 28 from hx]; exact hO9)
        clear hd hx
        simp only [putAll]
        go_simp
        go_wp2
        go_roundw
        case rel =>
          refine ⟨k + 1, I + 2, P ++ [e'], by go_num, by have := HI2.out; omega, by omega, HX.out, ?_, hB9⟩
          rw [List.take_add_one, HPK.out]
          exact hP9.append ⟨by rw [← HSW.out]; exact hC9, trivial⟩
        case measure => simp [intOf]; omega
    · have hkl : (Huf.pk C).length = k := by rw [Huf.pk_length]; have := HCN.out; omega
      have hpl := hP.length
      have htk : (Huf.pk C).take k = Huf.pk C := List.take_of_length_le (by omega)
      rw [htk] at hP
      obtain ⟨Ao, co, rfl⟩ := hO.shape
      have HO := Lib.hid hO
      have HP := Lib.hid hP
      have HB := Lib.hid hB
      have HK := Lib.hid hkl
      clear hO hP hB hkl hpl htk hI2
      go_wp2
      go_ret
      refine ⟨Ao, co, P, by rw [HK.out]; rfl, by rw [HK.out]; exact HO.out, HP.out, HB.out⟩
end Go.Proofs.Ytdmggpngmlhboaa
