/- The insertion sort. -/
import Derived.Test.YtdmggpngmlhboaaSrtA
namespace Go.Proofs.Ytdmggpngmlhboaa
open Go.RowKit
set_option linter.unusedVariables false
set_option linter.unusedSimpArgs false

theorem isort_one {α : Type} (lt : α → α → Bool) (u : List α) : Srt.isort lt (u.take 1) = u.take 1 := by
  cases u with
  | nil => rfl
  | cons x t => rfl
theorem ins_round {α : Type} (lt : α → α → Bool) (u1 u2 : List α) (x : α) : Srt.isort lt ((u1 ++ x :: u2).take (u1.length + 1)) = Srt.ins lt x (Srt.isort lt u1) := by
  rw [show (u1 ++ x :: u2).take (u1.length + 1) = u1 ++ [x] by rw [List.take_append, List.take_of_length_le (by omega), show u1.length + 1 - u1.length = 1 by omega]; rfl, Srt.isort_snoc]
theorem drop_round {α : Type} (u1 u2 : List α) (x : α) : (u1 ++ x :: u2).drop (u1.length + 1) = u2 := by
  rw [List.drop_append, List.drop_of_length_le (by omega), show u1.length + 1 - u1.length = 1 by omega]; rfl
theorem last_of {α : Type} {l : List α} (h : 0 < l.length) : ∃ t z, l = t ++ [z] ∧ t.length + 1 = l.length := by
  refine ⟨l.dropLast, l.getLast (by intro e; rw [e] at h; simp at h), (List.dropLast_concat_getLast _).symm, by rw [List.length_dropLast]; omega⟩
set_option maxRecDepth 100000 in
set_option maxHeartbeats 8000000 in
theorem insSort_any (g off cap N a b : Nat) (p u s : List El) (W : World) (hS : SRow W 76 2 encE g off cap (p ++ u ++ s)) (hN : (p ++ u ++ s).length = N) (ha : p.length = a) (hb : a + u.length = b) (hok : ∀ x ∈ u, okE x) (hNb : N ≤ 140737488355328) :
    Calls Try.prog 80 #[.slice (some ⟨g, off, none⟩) N cap, .int .i64 a, .int .i64 b, .func (.func 32) #[] #[]] W (SrtPost g off cap (p ++ Srt.isort ltE u ++ s) W) := by
  have hcap := hS.capLe
  unfold maxLen at hcap
  have hNc : N ≤ cap := by rw [← hN]; exact hcap.1
  have hcm : cap ≤ 9223372036854775807 := hcap.2
  have hlen : b + s.length = N := by simp at hN; omega
  obtain ⟨n, hn⟩ : ∃ n, u.length = n := ⟨_, rfl⟩
  rw [hn] at hb
  have hab : a ≤ b := by omega
  have HS := Lib.hid (SrtAt.start hS)
  have HNU := Lib.hid hn
  have HA := Lib.hid ha
  have HB := Lib.hid hb
  have HOK := Lib.hid hok
  clear hS hN hcap ha hn hb hok
  go_enter Try.func80, Try.ntmps80
  go_wp2
  go_loopw [8] (fun iv wr => ∃ (k i : Nat), iv = .int .i64 i ∧ i = a + k ∧ 1 ≤ k ∧ (k ≤ n ∨ k = 1) ∧ SrtAt W g off cap (p ++ Srt.isort ltE (u.take k) ++ u.drop k ++ s) wr) (fun iv _ => b + 1 - (intOf iv).toNat)
  case atStart => exact ⟨1, a + 1, rfl, rfl, Nat.le_refl _, .inr rfl, by rw [isort_one, List.append_assoc p, List.take_append_drop]; exact HS.out⟩
  case round =>
    clear HS
    obtain ⟨k, i, rfl, hik, hk1, hk, hAt⟩ := hrel
    have hb := HB.out
    by_cases hlt : i < b
    · have hkn : k < n := by omega
      obtain ⟨u1, u2', hu, h1, h2⟩ := split_at u k (by have := HNU.out; omega)
      obtain ⟨x, u2, rfl, h3⟩ := cons_of (l := u2') (m := n - k) (by have := HNU.out; omega) (by omega)
      have hox : okE x := HOK.out x (by rw [hu]; simp)
      have hou : ∀ z ∈ Srt.isort ltE u1, okE z := fun z hz => HOK.out z (by rw [hu]; exact List.mem_append_left _ (Srt.mem_isort.1 hz))
      have hst : u.take k = u1 ∧ u.drop k = x :: u2 := by rw [hu, ← h1]; exact ⟨List.take_left' rfl, List.drop_left' rfl⟩
      have htk : Srt.isort ltE (u.take (k + 1)) = Srt.ins ltE x (Srt.isort ltE u1) := by rw [hu, ← h1]; exact ins_round _ _ _ _
      have hdk : u.drop (k + 1) = u2 := by rw [hu, ← h1]; exact drop_round _ _ _
      rw [hst.1, hst.2] at hAt
      have hsl : (Srt.isort ltE u1).length = k := by rw [Srt.isort_length, h1]
      have hso := Srt.isort_sorted swoE u1
      have hlenD : a + k + 1 + u2.length + s.length = N := by omega
      generalize Srt.isort ltE u1 = S at *
      have HAt := Lib.hid hAt
      have HSL := Lib.hid hsl
      have HSO := Lib.hid hso
      have HOU := Lib.hid hou
      have HOx := Lib.hid hox
      have HTK := Lib.hid htk
      have HDK := Lib.hid hdk
      have HIK := Lib.hid hik
      have hiN : i < N := by omega
      clear hAt hsl hso hou hox htk hdk hst h1 h2 h3 hu hik
      go_wp2
      go_loopw [9] (fun jv wr => ∃ (J : Nat) (l1 l2 : List El), jv = .int .i64 J ∧ S = l1 ++ l2 ∧ J = a + l1.length ∧ (∀ y t, l2 = y :: t → ltE x y = true) ∧ SrtAt W g off cap (p ++ l1 ++ x :: l2 ++ u2 ++ s) wr) (fun jv _ => (intOf jv).toNat)
      case atStart => exact ⟨i, S, [], rfl, by simp, by rw [HIK.out, HSL.out], fun y t h => (by cases h), by have := HAt.out; simpa using this⟩
      case round =>
        clear HAt
        obtain ⟨J, l1, l2, rfl, hSl, hJ, hl2, hAt⟩ := hrel
        have HSl := Lib.hid hSl
        have HL2 := Lib.hid hl2
        by_cases hl1 : 0 < l1.length
        · obtain ⟨l0, z, rfl, hz⟩ := last_of hl1
          obtain ⟨K, hK⟩ : ∃ K, K = a + l0.length := ⟨_, rfl⟩
          have e1 : (J : Int) - 1 = (K : Int) := by omega
          obtain ⟨D, hD⟩ : ∃ D, D = (p ++ l0) ++ z :: [] ++ x :: (l2 ++ u2 ++ s) := ⟨_, rfl⟩
          have hDa : p ++ (l0 ++ [z]) ++ x :: l2 ++ u2 ++ s = D := by rw [hD]; simp
          rw [hDa] at hAt
          have hli : D[J]? = some x := by
            have := at_2 (p ++ l0) [] (l2 ++ u2 ++ s) z x
            rw [hD, show J = (p ++ l0).length + 1 + ([] : List El).length by rw [List.length_append, HA.out, List.length_nil]; omega]; exact this
          have hlj : D[K]? = some z := by
            have := at_1 (p ++ l0) [] (l2 ++ u2 ++ s) z x
            rw [hD, show K = (p ++ l0).length by rw [List.length_append, HA.out]; omega]; exact this
          have hset : (D.set J z).set K x = p ++ l0 ++ x :: (z :: l2) ++ u2 ++ s := by
            have := set_set' (p ++ l0) [] (l2 ++ u2 ++ s) z x
            rw [hD, show J = (p ++ l0).length + 1 + ([] : List El).length by rw [List.length_append, HA.out, List.length_nil]; omega, show K = (p ++ l0).length by rw [List.length_append, HA.out]; omega, this]; simp
          have hJN : J < N := by
            have h1 := HSl.out
            have h2 := congrArg List.length h1
            rw [HSL.out] at h2
            simp only [List.length_append] at h2 hJ
            have h3 := HIK.out
            omega
          have hoz : okE z := HOU.out z (by rw [HSl.out]; simp)
          have g1 : decide ((a : Int) < (J : Int)) = true := decide_eq_true (by omega)
          have g2 : decide (a < J) = true := decide_eq_true (by omega)
          have j0 : (0 : Int) ≤ (K : Int) := by omega
          have j1 : (K : Int) < (N : Int) := by omega
          have j2 : (J : Int) < (N : Int) := by omega
          have hKJ : K < J := by omega
          have HOz := Lib.hid hoz
          have HSET := Lib.hid hset
          have HK := Lib.hid hK
          have hli := Lib.hid hli
          have hlj := Lib.hid hlj
          have HS := Lib.hid hAt.drew
          have HKJ := Lib.hid (show K + 1 = J by omega)
          have HD := Lib.hid hD
          clear hSl hl2 hl1 hoz hset hK hAt hJ hz hD hDa
          have hcl := cmpE_lt x z
          cases hxz : ltE x z
          · rw [hxz] at hcl
            have HX := Lib.hid hxz
            clear hxz
            go_upto_region 4 with (fail)
            refine wp_region_ph (by kernel_rfl) [14] [.span 0 0, .span 0 0, .span 0 0, .span 0 0, .span 0 0, .span 0 0, .span 0 0, .span 0 0, .span 0 0, .span 0 0, .span 0 0, .span 0 0, .span 0 0, .span 0 0, .phase 0, .span 1 1, .span 1 1] [fun z9 => z9 = .int .i64 (J), fun z9 => z9 = .int .i64 (a), fun z9 => z9 = .bool true, fun z9 => z9 = .bool true, fun z9 => z9 = .func (.func 32) #[] #[], fun z9 => z9 = .slice (some ⟨g, off, none⟩) N cap, fun z9 => z9 = .int .i64 (J), fun z9 => z9 = .pointer (some ⟨g, off + (J) * 2, none⟩), fun z9 => z9 = .agg #[.int .i64 x.w, .slice x.A x.n x.c], fun z9 => z9 = .slice (some ⟨g, off, none⟩) N cap, fun z9 => z9 = .int .i64 (J), fun z9 => z9 = .int .i64 (K), fun z9 => z9 = .pointer (some ⟨g, off + (K) * 2, none⟩), fun z9 => z9 = .agg #[.int .i64 z.w, .slice z.A z.n z.c], fun z9 => z9 = .int .i64 (cmpE x z), fun z9 => z9 = .bool false, fun z9 => z9 = .bool false] (fun _ w => SrtAt W g off cap (D) w) (by kernel_rfl) (by kernel_rfl) (by kernel_rfl) (by kernel_rfl) (by kernel_rfl) (by kernel_rfl) rfl rfl (HS.out) ?steps ?done
            case steps =>
              refine ⟨?_, ?_, ?_, ?_, ?_, ?_, ?_, ?_, ?_, ?_, ?_, ?_, ?_, ?_, ?_, ?_, ?_, trivial⟩
              · intro us au w1 k0 hlo hhi ha hd hst hI
                obtain rfl : k0 = 0 := by omega
                have q9 := slot_far (t := 9) (v := .int .i64 (J)) ha (by kernel_rfl) (by kernel_rfl)
                have p9 := slot_norm q9
                clear ha hd hst
                exact StepI.pure (v := .int .i64 (J)) rfl rfl (by go_simp) ⟨rfl, hI⟩
              · intro us au w1 k1 hlo hhi ha hd hst hI
                obtain rfl : k1 = 0 := by omega
                have q1 := slot_far (t := 1) (v := .int .i64 (a)) ha (by kernel_rfl) (by kernel_rfl)
                have p1 := slot_norm q1
                clear ha hd hst
                exact StepI.pure (v := .int .i64 (a)) rfl rfl (by go_simp) ⟨rfl, hI⟩
              · intro us au w1 k2 hlo hhi ha hd hst hI
                obtain rfl : k2 = 0 := by omega
                have e0 := hd 0 _ (by kernel_rfl) rfl
                have e1 := hd 1 _ (by kernel_rfl) rfl
                have q18 := slot_at (t := 18) 0 ha (by kernel_rfl) (by kernel_rfl) (by kernel_rfl) e0
                have p18 := slot_norm q18
                have q19 := slot_at (t := 19) 1 ha (by kernel_rfl) (by kernel_rfl) (by kernel_rfl) e1
                have p19 := slot_norm q19
                clear ha hd hst
                exact StepI.pure (v := .bool true) rfl rfl (by go_simp) ⟨rfl, hI⟩
              · intro us au w1 k3 hlo hhi ha hd hst hI
                obtain rfl : k3 = 0 := by omega
                have e2 := hd 2 _ (by kernel_rfl) rfl
                have q20 := slot_at (t := 20) 2 ha (by kernel_rfl) (by kernel_rfl) (by kernel_rfl) e2
                have p20 := slot_norm q20
                clear ha hd hst
                exact StepI.pure (v := .bool true) rfl rfl (by go_simp) ⟨rfl, hI⟩
              · intro us au w1 k4 hlo hhi ha hd hst hI
                obtain rfl : k4 = 0 := by omega
                have e3 := hd 3 _ (by kernel_rfl) rfl
                have q3 := slot_far (t := 3) (v := .func (.func 32) #[] #[]) ha (by kernel_rfl) (by kernel_rfl)
                have p3 := slot_norm q3
                have hg := slot_at (t := 21) 3 ha (by kernel_rfl) (by kernel_rfl) (by kernel_rfl) e3
                clear ha hd hst
                exact StepI.pure (v := .func (.func 32) #[] #[]) rfl (wanted_at rfl rfl hg) (by go_simp) ⟨rfl, hI⟩
              · intro us au w1 k5 hlo hhi ha hd hst hI
                obtain rfl : k5 = 0 := by omega
                have e3 := hd 3 _ (by kernel_rfl) rfl
                have q0 := slot_far (t := 0) (v := .slice (some ⟨g, off, none⟩) N cap) ha (by kernel_rfl) (by kernel_rfl)
                have p0 := slot_norm q0
                have hg := slot_at (t := 21) 3 ha (by kernel_rfl) (by kernel_rfl) (by kernel_rfl) e3
                clear ha hd hst
                exact StepI.pure (v := .slice (some ⟨g, off, none⟩) N cap) rfl (wanted_at rfl rfl hg) (by go_simp) ⟨rfl, hI⟩
              · intro us au w1 k6 hlo hhi ha hd hst hI
                obtain rfl : k6 = 0 := by omega
                have e3 := hd 3 _ (by kernel_rfl) rfl
                have q9 := slot_far (t := 9) (v := .int .i64 (J)) ha (by kernel_rfl) (by kernel_rfl)
                have p9 := slot_norm q9
                have hg := slot_at (t := 21) 3 ha (by kernel_rfl) (by kernel_rfl) (by kernel_rfl) e3
                clear ha hd hst
                exact StepI.pure (v := .int .i64 (J)) rfl (wanted_at rfl rfl hg) (by go_simp) ⟨rfl, hI⟩
              · intro us au w1 k7 hlo hhi ha hd hst hI
                obtain rfl : k7 = 0 := by omega
                have e5 := hd 5 _ (by kernel_rfl) rfl
                have e6 := hd 6 _ (by kernel_rfl) rfl
                have e3 := hd 3 _ (by kernel_rfl) rfl
                have q23 := slot_at (t := 23) 5 ha (by kernel_rfl) (by kernel_rfl) (by kernel_rfl) e5
                have p23 := slot_norm q23
                have q24 := slot_at (t := 24) 6 ha (by kernel_rfl) (by kernel_rfl) (by kernel_rfl) e6
                have p24 := slot_norm q24
                have hg := slot_at (t := 21) 3 ha (by kernel_rfl) (by kernel_rfl) (by kernel_rfl) e3
                clear ha hd hst
                exact StepI.pure (v := .pointer (some ⟨g, off + (J) * 2, none⟩)) rfl (wanted_at rfl rfl hg) (by go_simp) ⟨rfl, hI⟩
              · intro us au w1 k8 hlo hhi ha hd hst hI
                obtain rfl : k8 = 0 := by omega
                have e7 := hd 7 _ (by kernel_rfl) rfl
                have e3 := hd 3 _ (by kernel_rfl) rfl
                have q25 := slot_at (t := 25) 7 ha (by kernel_rfl) (by kernel_rfl) (by kernel_rfl) e7
                have p25 := slot_norm q25
                have hg := slot_at (t := 21) 3 ha (by kernel_rfl) (by kernel_rfl) (by kernel_rfl) e3
                clear ha hd hst
                have c0 := SrtAt.c0 hI hli.out
                have c1 := SrtAt.c1 hI hli.out
                exact StepI.pure (v := .agg #[.int .i64 x.w, .slice x.A x.n x.c]) rfl (wanted_at rfl rfl hg) (by go_simp) ⟨rfl, hI⟩
              · intro us au w1 k9 hlo hhi ha hd hst hI
                obtain rfl : k9 = 0 := by omega
                have e3 := hd 3 _ (by kernel_rfl) rfl
                have q0 := slot_far (t := 0) (v := .slice (some ⟨g, off, none⟩) N cap) ha (by kernel_rfl) (by kernel_rfl)
                have p0 := slot_norm q0
                have hg := slot_at (t := 21) 3 ha (by kernel_rfl) (by kernel_rfl) (by kernel_rfl) e3
                clear ha hd hst
                exact StepI.pure (v := .slice (some ⟨g, off, none⟩) N cap) rfl (wanted_at rfl rfl hg) (by go_simp) ⟨rfl, hI⟩
              · intro us au w1 k10 hlo hhi ha hd hst hI
                obtain rfl : k10 = 0 := by omega
                have e3 := hd 3 _ (by kernel_rfl) rfl
                have q9 := slot_far (t := 9) (v := .int .i64 (J)) ha (by kernel_rfl) (by kernel_rfl)
                have p9 := slot_norm q9
                have hg := slot_at (t := 21) 3 ha (by kernel_rfl) (by kernel_rfl) (by kernel_rfl) e3
                clear ha hd hst
                exact StepI.pure (v := .int .i64 (J)) rfl (wanted_at rfl rfl hg) (by go_simp) ⟨rfl, hI⟩
              · intro us au w1 k11 hlo hhi ha hd hst hI
                obtain rfl : k11 = 0 := by omega
                have e10 := hd 10 _ (by kernel_rfl) rfl
                have e3 := hd 3 _ (by kernel_rfl) rfl
                have q28 := slot_at (t := 28) 10 ha (by kernel_rfl) (by kernel_rfl) (by kernel_rfl) e10
                have p28 := slot_norm q28
                have hg := slot_at (t := 21) 3 ha (by kernel_rfl) (by kernel_rfl) (by kernel_rfl) e3
                clear ha hd hst
                exact StepI.pure (v := .int .i64 (K)) rfl (wanted_at rfl rfl hg) (by go_simp; exact IntWalk.i64_in _ (by omega)) ⟨rfl, hI⟩
              · intro us au w1 k12 hlo hhi ha hd hst hI
                obtain rfl : k12 = 0 := by omega
                have e9 := hd 9 _ (by kernel_rfl) rfl
                have e11 := hd 11 _ (by kernel_rfl) rfl
                have e3 := hd 3 _ (by kernel_rfl) rfl
                have q27 := slot_at (t := 27) 9 ha (by kernel_rfl) (by kernel_rfl) (by kernel_rfl) e9
                have p27 := slot_norm q27
                have q29 := slot_at (t := 29) 11 ha (by kernel_rfl) (by kernel_rfl) (by kernel_rfl) e11
                have p29 := slot_norm q29
                have hg := slot_at (t := 21) 3 ha (by kernel_rfl) (by kernel_rfl) (by kernel_rfl) e3
                clear ha hd hst
                exact StepI.pure (v := .pointer (some ⟨g, off + (K) * 2, none⟩)) rfl (wanted_at rfl rfl hg) (by go_simp) ⟨rfl, hI⟩
              · intro us au w1 k13 hlo hhi ha hd hst hI
                obtain rfl : k13 = 0 := by omega
                have e12 := hd 12 _ (by kernel_rfl) rfl
                have e3 := hd 3 _ (by kernel_rfl) rfl
                have q30 := slot_at (t := 30) 12 ha (by kernel_rfl) (by kernel_rfl) (by kernel_rfl) e12
                have p30 := slot_norm q30
                have hg := slot_at (t := 21) 3 ha (by kernel_rfl) (by kernel_rfl) (by kernel_rfl) e3
                clear ha hd hst
                have c0 := SrtAt.c0 hI hlj.out
                have c1 := SrtAt.c1 hI hlj.out
                exact StepI.pure (v := .agg #[.int .i64 z.w, .slice z.A z.n z.c]) rfl (wanted_at rfl rfl hg) (by go_simp) ⟨rfl, hI⟩
              · intro us au w1 ha hd hst hI
                have e4 := hd 4 _ (by kernel_rfl) rfl
                have e8 := hd 8 _ (by kernel_rfl) rfl
                have e13 := hd 13 _ (by kernel_rfl) rfl
                have e3 := hd 3 _ (by kernel_rfl) rfl
                have q22 := slot_at (t := 22) 4 ha (by kernel_rfl) (by kernel_rfl) (by kernel_rfl) e4
                have p22 := slot_norm q22
                have q26 := slot_at (t := 26) 8 ha (by kernel_rfl) (by kernel_rfl) (by kernel_rfl) e8
                have p26 := slot_norm q26
                have q31 := slot_at (t := 31) 13 ha (by kernel_rfl) (by kernel_rfl) (by kernel_rfl) e13
                have p31 := slot_norm q31
                have hg := slot_at (t := 21) 3 ha (by kernel_rfl) (by kernel_rfl) (by kernel_rfl) e3
                clear ha hd hst
                refine StepI.call (f := 32) (args := #[.agg #[.int .i64 x.w, .slice x.A x.n x.c], .agg #[.int .i64 z.w, .slice z.A z.n z.c]]) rfl (wanted_at rfl rfl hg) (by go_simp) ?_
                refine (cmp_any x z w1 HOx.out HOz.out).mono ?_
                rintro e w' ⟨rfl, hb⟩
                exact ⟨_, rfl, rfl, SrtAt.below hI hb⟩
              · intro us au w1 k15 hlo hhi ha hd hst hI
                obtain rfl : k15 = 1 := by omega
                have e14 := hd 14 _ (by kernel_rfl) rfl
                have e3 := hd 3 _ (by kernel_rfl) rfl
                have q32 := slot_at (t := 32) 14 ha (by kernel_rfl) (by kernel_rfl) (by kernel_rfl) e14
                have p32 := slot_norm q32
                have hg := slot_at (t := 21) 3 ha (by kernel_rfl) (by kernel_rfl) (by kernel_rfl) e3
                clear ha hd hst
                exact StepI.pure (v := .bool false) rfl (wanted_at rfl rfl hg) (by go_simp) ⟨rfl, hI⟩
              · intro us au w1 k16 hlo hhi ha hd hst hI
                obtain rfl : k16 = 1 := by omega
                have e3 := hd 3 _ (by kernel_rfl) rfl
                have e15 := hd 15 _ (by kernel_rfl) rfl
                have q21 := slot_at (t := 21) 3 ha (by kernel_rfl) (by kernel_rfl) (by kernel_rfl) e3
                have p21 := slot_norm q21
                have q33 := slot_at (t := 33) 15 ha (by kernel_rfl) (by kernel_rfl) (by kernel_rfl) e15
                have p33 := slot_norm q33
                clear ha hd hst
                exact StepI.pure (v := .bool false) rfl rfl (by go_simp) ⟨rfl, hI⟩
            case done =>
              intro us w1 hI hd
              have e16 := hd 16 _ (by decide) rfl
              clear hd HS hli hlj hcl
              simp only [putAll]
              go_simp
              go_wp2
              go_roundw
              case rel =>
                have hins := Srt.ins_at (lt := ltE) x (l0 ++ [z]) l2 (Srt.Sorted.all_le swoE (Srt.Sorted.left (by have := HSO.out; rwa [HSl.out] at this)) HX.out) HL2.out
                refine ⟨k + 1, i + 1, by go_num, by have := HIK.out; omega, by omega, .inl (by omega), ?_⟩
                rw [HTK.out, HDK.out, HSl.out, hins]
                have := hI
                rw [HD.out] at this
                simp only [List.append_assoc, List.cons_append, List.nil_append] at this ⊢
                exact this
              case measure => simp [intOf]; omega
          · rw [hxz] at hcl
            have HX := Lib.hid hxz
            clear hxz
            go_upto_region 4 with (fail)
            refine wp_region_ph (by kernel_rfl) [14] [.span 0 0, .span 0 0, .span 0 0, .span 0 0, .span 0 0, .span 0 0, .span 0 0, .span 0 0, .span 0 0, .span 0 0, .span 0 0, .span 0 0, .span 0 0, .span 0 0, .phase 0, .span 1 1, .span 1 1] [fun z9 => z9 = .int .i64 (J), fun z9 => z9 = .int .i64 (a), fun z9 => z9 = .bool true, fun z9 => z9 = .bool true, fun z9 => z9 = .func (.func 32) #[] #[], fun z9 => z9 = .slice (some ⟨g, off, none⟩) N cap, fun z9 => z9 = .int .i64 (J), fun z9 => z9 = .pointer (some ⟨g, off + (J) * 2, none⟩), fun z9 => z9 = .agg #[.int .i64 x.w, .slice x.A x.n x.c], fun z9 => z9 = .slice (some ⟨g, off, none⟩) N cap, fun z9 => z9 = .int .i64 (J), fun z9 => z9 = .int .i64 (K), fun z9 => z9 = .pointer (some ⟨g, off + (K) * 2, none⟩), fun z9 => z9 = .agg #[.int .i64 z.w, .slice z.A z.n z.c], fun z9 => z9 = .int .i64 (cmpE x z), fun z9 => z9 = .bool true, fun z9 => z9 = .bool true] (fun _ w => SrtAt W g off cap (D) w) (by kernel_rfl) (by kernel_rfl) (by kernel_rfl) (by kernel_rfl) (by kernel_rfl) (by kernel_rfl) rfl rfl (HS.out) ?steps ?done
            case steps =>
              refine ⟨?_, ?_, ?_, ?_, ?_, ?_, ?_, ?_, ?_, ?_, ?_, ?_, ?_, ?_, ?_, ?_, ?_, trivial⟩
              · intro us au w1 k0 hlo hhi ha hd hst hI
                obtain rfl : k0 = 0 := by omega
                have q9 := slot_far (t := 9) (v := .int .i64 (J)) ha (by kernel_rfl) (by kernel_rfl)
                have p9 := slot_norm q9
                clear ha hd hst
                exact StepI.pure (v := .int .i64 (J)) rfl rfl (by go_simp) ⟨rfl, hI⟩
              · intro us au w1 k1 hlo hhi ha hd hst hI
                obtain rfl : k1 = 0 := by omega
                have q1 := slot_far (t := 1) (v := .int .i64 (a)) ha (by kernel_rfl) (by kernel_rfl)
                have p1 := slot_norm q1
                clear ha hd hst
                exact StepI.pure (v := .int .i64 (a)) rfl rfl (by go_simp) ⟨rfl, hI⟩
              · intro us au w1 k2 hlo hhi ha hd hst hI
                obtain rfl : k2 = 0 := by omega
                have e0 := hd 0 _ (by kernel_rfl) rfl
                have e1 := hd 1 _ (by kernel_rfl) rfl
                have q18 := slot_at (t := 18) 0 ha (by kernel_rfl) (by kernel_rfl) (by kernel_rfl) e0
                have p18 := slot_norm q18
                have q19 := slot_at (t := 19) 1 ha (by kernel_rfl) (by kernel_rfl) (by kernel_rfl) e1
                have p19 := slot_norm q19
                clear ha hd hst
                exact StepI.pure (v := .bool true) rfl rfl (by go_simp) ⟨rfl, hI⟩
              · intro us au w1 k3 hlo hhi ha hd hst hI
                obtain rfl : k3 = 0 := by omega
                have e2 := hd 2 _ (by kernel_rfl) rfl
                have q20 := slot_at (t := 20) 2 ha (by kernel_rfl) (by kernel_rfl) (by kernel_rfl) e2
                have p20 := slot_norm q20
                clear ha hd hst
                exact StepI.pure (v := .bool true) rfl rfl (by go_simp) ⟨rfl, hI⟩
              · intro us au w1 k4 hlo hhi ha hd hst hI
                obtain rfl : k4 = 0 := by omega
                have e3 := hd 3 _ (by kernel_rfl) rfl
                have q3 := slot_far (t := 3) (v := .func (.func 32) #[] #[]) ha (by kernel_rfl) (by kernel_rfl)
                have p3 := slot_norm q3
                have hg := slot_at (t := 21) 3 ha (by kernel_rfl) (by kernel_rfl) (by kernel_rfl) e3
                clear ha hd hst
                exact StepI.pure (v := .func (.func 32) #[] #[]) rfl (wanted_at rfl rfl hg) (by go_simp) ⟨rfl, hI⟩
              · intro us au w1 k5 hlo hhi ha hd hst hI
                obtain rfl : k5 = 0 := by omega
                have e3 := hd 3 _ (by kernel_rfl) rfl
                have q0 := slot_far (t := 0) (v := .slice (some ⟨g, off, none⟩) N cap) ha (by kernel_rfl) (by kernel_rfl)
                have p0 := slot_norm q0
                have hg := slot_at (t := 21) 3 ha (by kernel_rfl) (by kernel_rfl) (by kernel_rfl) e3
                clear ha hd hst
                exact StepI.pure (v := .slice (some ⟨g, off, none⟩) N cap) rfl (wanted_at rfl rfl hg) (by go_simp) ⟨rfl, hI⟩
              · intro us au w1 k6 hlo hhi ha hd hst hI
                obtain rfl : k6 = 0 := by omega
                have e3 := hd 3 _ (by kernel_rfl) rfl
                have q9 := slot_far (t := 9) (v := .int .i64 (J)) ha (by kernel_rfl) (by kernel_rfl)
                have p9 := slot_norm q9
                have hg := slot_at (t := 21) 3 ha (by kernel_rfl) (by kernel_rfl) (by kernel_rfl) e3
                clear ha hd hst
                exact StepI.pure (v := .int .i64 (J)) rfl (wanted_at rfl rfl hg) (by go_simp) ⟨rfl, hI⟩
              · intro us au w1 k7 hlo hhi ha hd hst hI
                obtain rfl : k7 = 0 := by omega
                have e5 := hd 5 _ (by kernel_rfl) rfl
                have e6 := hd 6 _ (by kernel_rfl) rfl
                have e3 := hd 3 _ (by kernel_rfl) rfl
                have q23 := slot_at (t := 23) 5 ha (by kernel_rfl) (by kernel_rfl) (by kernel_rfl) e5
                have p23 := slot_norm q23
                have q24 := slot_at (t := 24) 6 ha (by kernel_rfl) (by kernel_rfl) (by kernel_rfl) e6
                have p24 := slot_norm q24
                have hg := slot_at (t := 21) 3 ha (by kernel_rfl) (by kernel_rfl) (by kernel_rfl) e3
                clear ha hd hst
                exact StepI.pure (v := .pointer (some ⟨g, off + (J) * 2, none⟩)) rfl (wanted_at rfl rfl hg) (by go_simp) ⟨rfl, hI⟩
              · intro us au w1 k8 hlo hhi ha hd hst hI
                obtain rfl : k8 = 0 := by omega
                have e7 := hd 7 _ (by kernel_rfl) rfl
                have e3 := hd 3 _ (by kernel_rfl) rfl
                have q25 := slot_at (t := 25) 7 ha (by kernel_rfl) (by kernel_rfl) (by kernel_rfl) e7
                have p25 := slot_norm q25
                have hg := slot_at (t := 21) 3 ha (by kernel_rfl) (by kernel_rfl) (by kernel_rfl) e3
                clear ha hd hst
                have c0 := SrtAt.c0 hI hli.out
                have c1 := SrtAt.c1 hI hli.out
                exact StepI.pure (v := .agg #[.int .i64 x.w, .slice x.A x.n x.c]) rfl (wanted_at rfl rfl hg) (by go_simp) ⟨rfl, hI⟩
              · intro us au w1 k9 hlo hhi ha hd hst hI
                obtain rfl : k9 = 0 := by omega
                have e3 := hd 3 _ (by kernel_rfl) rfl
                have q0 := slot_far (t := 0) (v := .slice (some ⟨g, off, none⟩) N cap) ha (by kernel_rfl) (by kernel_rfl)
                have p0 := slot_norm q0
                have hg := slot_at (t := 21) 3 ha (by kernel_rfl) (by kernel_rfl) (by kernel_rfl) e3
                clear ha hd hst
                exact StepI.pure (v := .slice (some ⟨g, off, none⟩) N cap) rfl (wanted_at rfl rfl hg) (by go_simp) ⟨rfl, hI⟩
              · intro us au w1 k10 hlo hhi ha hd hst hI
                obtain rfl : k10 = 0 := by omega
                have e3 := hd 3 _ (by kernel_rfl) rfl
                have q9 := slot_far (t := 9) (v := .int .i64 (J)) ha (by kernel_rfl) (by kernel_rfl)
                have p9 := slot_norm q9
                have hg := slot_at (t := 21) 3 ha (by kernel_rfl) (by kernel_rfl) (by kernel_rfl) e3
                clear ha hd hst
                exact StepI.pure (v := .int .i64 (J)) rfl (wanted_at rfl rfl hg) (by go_simp) ⟨rfl, hI⟩
              · intro us au w1 k11 hlo hhi ha hd hst hI
                obtain rfl : k11 = 0 := by omega
                have e10 := hd 10 _ (by kernel_rfl) rfl
                have e3 := hd 3 _ (by kernel_rfl) rfl
                have q28 := slot_at (t := 28) 10 ha (by kernel_rfl) (by kernel_rfl) (by kernel_rfl) e10
                have p28 := slot_norm q28
                have hg := slot_at (t := 21) 3 ha (by kernel_rfl) (by kernel_rfl) (by kernel_rfl) e3
                clear ha hd hst
                exact StepI.pure (v := .int .i64 (K)) rfl (wanted_at rfl rfl hg) (by go_simp; exact IntWalk.i64_in _ (by omega)) ⟨rfl, hI⟩
              · intro us au w1 k12 hlo hhi ha hd hst hI
                obtain rfl : k12 = 0 := by omega
                have e9 := hd 9 _ (by kernel_rfl) rfl
                have e11 := hd 11 _ (by kernel_rfl) rfl
                have e3 := hd 3 _ (by kernel_rfl) rfl
                have q27 := slot_at (t := 27) 9 ha (by kernel_rfl) (by kernel_rfl) (by kernel_rfl) e9
                have p27 := slot_norm q27
                have q29 := slot_at (t := 29) 11 ha (by kernel_rfl) (by kernel_rfl) (by kernel_rfl) e11
                have p29 := slot_norm q29
                have hg := slot_at (t := 21) 3 ha (by kernel_rfl) (by kernel_rfl) (by kernel_rfl) e3
                clear ha hd hst
                exact StepI.pure (v := .pointer (some ⟨g, off + (K) * 2, none⟩)) rfl (wanted_at rfl rfl hg) (by go_simp) ⟨rfl, hI⟩
              · intro us au w1 k13 hlo hhi ha hd hst hI
                obtain rfl : k13 = 0 := by omega
                have e12 := hd 12 _ (by kernel_rfl) rfl
                have e3 := hd 3 _ (by kernel_rfl) rfl
                have q30 := slot_at (t := 30) 12 ha (by kernel_rfl) (by kernel_rfl) (by kernel_rfl) e12
                have p30 := slot_norm q30
                have hg := slot_at (t := 21) 3 ha (by kernel_rfl) (by kernel_rfl) (by kernel_rfl) e3
                clear ha hd hst
                have c0 := SrtAt.c0 hI hlj.out
                have c1 := SrtAt.c1 hI hlj.out
                exact StepI.pure (v := .agg #[.int .i64 z.w, .slice z.A z.n z.c]) rfl (wanted_at rfl rfl hg) (by go_simp) ⟨rfl, hI⟩
              · intro us au w1 ha hd hst hI
                have e4 := hd 4 _ (by kernel_rfl) rfl
                have e8 := hd 8 _ (by kernel_rfl) rfl
                have e13 := hd 13 _ (by kernel_rfl) rfl
                have e3 := hd 3 _ (by kernel_rfl) rfl
                have q22 := slot_at (t := 22) 4 ha (by kernel_rfl) (by kernel_rfl) (by kernel_rfl) e4
                have p22 := slot_norm q22
                have q26 := slot_at (t := 26) 8 ha (by kernel_rfl) (by kernel_rfl) (by kernel_rfl) e8
                have p26 := slot_norm q26
                have q31 := slot_at (t := 31) 13 ha (by kernel_rfl) (by kernel_rfl) (by kernel_rfl) e13
                have p31 := slot_norm q31
                have hg := slot_at (t := 21) 3 ha (by kernel_rfl) (by kernel_rfl) (by kernel_rfl) e3
                clear ha hd hst
                refine StepI.call (f := 32) (args := #[.agg #[.int .i64 x.w, .slice x.A x.n x.c], .agg #[.int .i64 z.w, .slice z.A z.n z.c]]) rfl (wanted_at rfl rfl hg) (by go_simp) ?_
                refine (cmp_any x z w1 HOx.out HOz.out).mono ?_
                rintro e w' ⟨rfl, hb⟩
                exact ⟨_, rfl, rfl, SrtAt.below hI hb⟩
              · intro us au w1 k15 hlo hhi ha hd hst hI
                obtain rfl : k15 = 1 := by omega
                have e14 := hd 14 _ (by kernel_rfl) rfl
                have e3 := hd 3 _ (by kernel_rfl) rfl
                have q32 := slot_at (t := 32) 14 ha (by kernel_rfl) (by kernel_rfl) (by kernel_rfl) e14
                have p32 := slot_norm q32
                have hg := slot_at (t := 21) 3 ha (by kernel_rfl) (by kernel_rfl) (by kernel_rfl) e3
                clear ha hd hst
                exact StepI.pure (v := .bool true) rfl (wanted_at rfl rfl hg) (by go_simp) ⟨rfl, hI⟩
              · intro us au w1 k16 hlo hhi ha hd hst hI
                obtain rfl : k16 = 1 := by omega
                have e3 := hd 3 _ (by kernel_rfl) rfl
                have e15 := hd 15 _ (by kernel_rfl) rfl
                have q21 := slot_at (t := 21) 3 ha (by kernel_rfl) (by kernel_rfl) (by kernel_rfl) e3
                have p21 := slot_norm q21
                have q33 := slot_at (t := 33) 15 ha (by kernel_rfl) (by kernel_rfl) (by kernel_rfl) e15
                have p33 := slot_norm q33
                clear ha hd hst
                exact StepI.pure (v := .bool true) rfl rfl (by go_simp) ⟨rfl, hI⟩
            case done =>
              intro us w1 hI hd
              have e16 := hd 16 _ (by decide) rfl
              have HS := Lib.hid (SrtAt.drew hI)
              clear hd hcl
              simp only [putAll]
              go_simp
              go_upto_region 6 with (fail)
              refine wp_region_ph (by kernel_rfl) [15, 17] [.span 0 0, .span 0 0, .span 0 1, .span 0 1, .span 0 1, .span 0 0, .span 0 0, .span 0 0, .span 0 0, .span 0 0, .span 0 0, .span 0 0, .span 0 0, .span 0 0, .span 0 0, .phase 0, .span 1 1, .phase 1] [fun z9 => z9 = .slice (some ⟨g, off, none⟩) N cap, fun z9 => z9 = .int .i64 (J), fun z9 => z9 = .slice (some ⟨g, off, none⟩) N cap, fun z9 => z9 = .int .i64 (J), fun z9 => z9 = .int .i64 (K), fun z9 => z9 = .slice (some ⟨g, off, none⟩) N cap, fun z9 => z9 = .int .i64 (J), fun z9 => z9 = .int .i64 (K), fun z9 => z9 = .pointer (some ⟨g, off + (K) * 2, none⟩), fun z9 => z9 = .agg #[.int .i64 z.w, .slice z.A z.n z.c], fun z9 => z9 = .slice (some ⟨g, off, none⟩) N cap, fun z9 => z9 = .int .i64 (J), fun z9 => z9 = .pointer (some ⟨g, off + (J) * 2, none⟩), fun z9 => z9 = .agg #[.int .i64 x.w, .slice x.A x.n x.c], fun z9 => z9 = .pointer (some ⟨g, off + (J) * 2, none⟩), fun _ => True, fun z9 => z9 = .pointer (some ⟨g, off + (K) * 2, none⟩), fun _ => True] (ISwap W g off cap (J) (K) x z (D)) (by kernel_rfl) (by kernel_rfl) (by kernel_rfl) (by kernel_rfl) (by kernel_rfl) (by kernel_rfl) rfl rfl (HS.out) ?steps ?done
              case steps =>
                refine ⟨?_, ?_, ?_, ?_, ?_, ?_, ?_, ?_, ?_, ?_, ?_, ?_, ?_, ?_, ?_, ?_, ?_, ?_, trivial⟩
                · intro us au w1 k0 hlo hhi ha hd hst hI
                  obtain rfl : k0 = 0 := by omega
                  have q0 := slot_far (t := 0) (v := .slice (some ⟨g, off, none⟩) N cap) ha (by kernel_rfl) (by kernel_rfl)
                  have p0 := slot_norm q0
                  clear ha hd hst
                  exact StepI.pure (v := .slice (some ⟨g, off, none⟩) N cap) rfl rfl (by go_simp) ⟨rfl, hI⟩
                · intro us au w1 k1 hlo hhi ha hd hst hI
                  obtain rfl : k1 = 0 := by omega
                  have q9 := slot_far (t := 9) (v := .int .i64 (J)) ha (by kernel_rfl) (by kernel_rfl)
                  have p9 := slot_norm q9
                  clear ha hd hst
                  exact StepI.pure (v := .int .i64 (J)) rfl rfl (by go_simp) ⟨rfl, hI⟩
                · intro us au w1 k2 hlo hhi ha hd hst hI
                  have q0 := slot_far (t := 0) (v := .slice (some ⟨g, off, none⟩) N cap) ha (by kernel_rfl) (by kernel_rfl)
                  have p0 := slot_norm q0
                  clear ha hd hst
                  exact StepI.pure (v := .slice (some ⟨g, off, none⟩) N cap) rfl rfl (by go_simp) ⟨rfl, hI⟩
                · intro us au w1 k3 hlo hhi ha hd hst hI
                  have q9 := slot_far (t := 9) (v := .int .i64 (J)) ha (by kernel_rfl) (by kernel_rfl)
                  have p9 := slot_norm q9
                  clear ha hd hst
                  exact StepI.pure (v := .int .i64 (J)) rfl rfl (by go_simp) ⟨rfl, hI⟩
                · intro us au w1 k4 hlo hhi ha hd hst hI
                  have e3 := hd 3 _ (by kernel_rfl) rfl
                  have q40 := slot_at (t := 40) 3 ha (by kernel_rfl) (by kernel_rfl) (by kernel_rfl) e3
                  have p40 := slot_norm q40
                  clear ha hd hst
                  exact StepI.pure (v := .int .i64 (K)) rfl rfl (by go_simp; exact IntWalk.i64_in _ (by omega)) ⟨rfl, hI⟩
                · intro us au w1 k5 hlo hhi ha hd hst hI
                  obtain rfl : k5 = 0 := by omega
                  have q0 := slot_far (t := 0) (v := .slice (some ⟨g, off, none⟩) N cap) ha (by kernel_rfl) (by kernel_rfl)
                  have p0 := slot_norm q0
                  clear ha hd hst
                  exact StepI.pure (v := .slice (some ⟨g, off, none⟩) N cap) rfl rfl (by go_simp) ⟨rfl, hI⟩
                · intro us au w1 k6 hlo hhi ha hd hst hI
                  obtain rfl : k6 = 0 := by omega
                  have q9 := slot_far (t := 9) (v := .int .i64 (J)) ha (by kernel_rfl) (by kernel_rfl)
                  have p9 := slot_norm q9
                  clear ha hd hst
                  exact StepI.pure (v := .int .i64 (J)) rfl rfl (by go_simp) ⟨rfl, hI⟩
                · intro us au w1 k7 hlo hhi ha hd hst hI
                  obtain rfl : k7 = 0 := by omega
                  have e6 := hd 6 _ (by kernel_rfl) rfl
                  have q43 := slot_at (t := 43) 6 ha (by kernel_rfl) (by kernel_rfl) (by kernel_rfl) e6
                  have p43 := slot_norm q43
                  clear ha hd hst
                  exact StepI.pure (v := .int .i64 (K)) rfl rfl (by go_simp; exact IntWalk.i64_in _ (by omega)) ⟨rfl, hI⟩
                · intro us au w1 k8 hlo hhi ha hd hst hI
                  obtain rfl : k8 = 0 := by omega
                  have e5 := hd 5 _ (by kernel_rfl) rfl
                  have e7 := hd 7 _ (by kernel_rfl) rfl
                  have q42 := slot_at (t := 42) 5 ha (by kernel_rfl) (by kernel_rfl) (by kernel_rfl) e5
                  have p42 := slot_norm q42
                  have q44 := slot_at (t := 44) 7 ha (by kernel_rfl) (by kernel_rfl) (by kernel_rfl) e7
                  have p44 := slot_norm q44
                  clear ha hd hst
                  exact StepI.pure (v := .pointer (some ⟨g, off + (K) * 2, none⟩)) rfl rfl (by go_simp) ⟨rfl, hI⟩
                · intro us au w1 k9 hlo hhi ha hd hst hI
                  obtain rfl : k9 = 0 := by omega
                  have e8 := hd 8 _ (by kernel_rfl) rfl
                  have q45 := slot_at (t := 45) 8 ha (by kernel_rfl) (by kernel_rfl) (by kernel_rfl) e8
                  have p45 := slot_norm q45
                  clear ha hd hst
                  have c0 := SrtAt.c0 hI hlj.out
                  have c1 := SrtAt.c1 hI hlj.out
                  exact StepI.pure (v := .agg #[.int .i64 z.w, .slice z.A z.n z.c]) rfl rfl (by go_simp) ⟨rfl, hI⟩
                · intro us au w1 k10 hlo hhi ha hd hst hI
                  obtain rfl : k10 = 0 := by omega
                  have q0 := slot_far (t := 0) (v := .slice (some ⟨g, off, none⟩) N cap) ha (by kernel_rfl) (by kernel_rfl)
                  have p0 := slot_norm q0
                  clear ha hd hst
                  exact StepI.pure (v := .slice (some ⟨g, off, none⟩) N cap) rfl rfl (by go_simp) ⟨rfl, hI⟩
                · intro us au w1 k11 hlo hhi ha hd hst hI
                  obtain rfl : k11 = 0 := by omega
                  have q9 := slot_far (t := 9) (v := .int .i64 (J)) ha (by kernel_rfl) (by kernel_rfl)
                  have p9 := slot_norm q9
                  clear ha hd hst
                  exact StepI.pure (v := .int .i64 (J)) rfl rfl (by go_simp) ⟨rfl, hI⟩
                · intro us au w1 k12 hlo hhi ha hd hst hI
                  obtain rfl : k12 = 0 := by omega
                  have e10 := hd 10 _ (by kernel_rfl) rfl
                  have e11 := hd 11 _ (by kernel_rfl) rfl
                  have q47 := slot_at (t := 47) 10 ha (by kernel_rfl) (by kernel_rfl) (by kernel_rfl) e10
                  have p47 := slot_norm q47
                  have q48 := slot_at (t := 48) 11 ha (by kernel_rfl) (by kernel_rfl) (by kernel_rfl) e11
                  have p48 := slot_norm q48
                  clear ha hd hst
                  exact StepI.pure (v := .pointer (some ⟨g, off + (J) * 2, none⟩)) rfl rfl (by go_simp) ⟨rfl, hI⟩
                · intro us au w1 k13 hlo hhi ha hd hst hI
                  obtain rfl : k13 = 0 := by omega
                  have e12 := hd 12 _ (by kernel_rfl) rfl
                  have q49 := slot_at (t := 49) 12 ha (by kernel_rfl) (by kernel_rfl) (by kernel_rfl) e12
                  have p49 := slot_norm q49
                  clear ha hd hst
                  have c0 := SrtAt.c0 hI hli.out
                  have c1 := SrtAt.c1 hI hli.out
                  exact StepI.pure (v := .agg #[.int .i64 x.w, .slice x.A x.n x.c]) rfl rfl (by go_simp) ⟨rfl, hI⟩
                · intro us au w1 k14 hlo hhi ha hd hst hI
                  obtain rfl : k14 = 0 := by omega
                  have e0 := hd 0 _ (by kernel_rfl) rfl
                  have e1 := hd 1 _ (by kernel_rfl) rfl
                  have q37 := slot_at (t := 37) 0 ha (by kernel_rfl) (by kernel_rfl) (by kernel_rfl) e0
                  have p37 := slot_norm q37
                  have q38 := slot_at (t := 38) 1 ha (by kernel_rfl) (by kernel_rfl) (by kernel_rfl) e1
                  have p38 := slot_norm q38
                  clear ha hd hst
                  exact StepI.pure (v := .pointer (some ⟨g, off + (J) * 2, none⟩)) rfl rfl (by go_simp) ⟨rfl, hI⟩
                · intro us au w1 ha hd hst hI
                  have e14 := hd 14 _ (by kernel_rfl) rfl
                  have e9 := hd 9 _ (by kernel_rfl) rfl
                  have q51 := slot_at (t := 51) 14 ha (by kernel_rfl) (by kernel_rfl) (by kernel_rfl) e14
                  have p51 := slot_norm q51
                  have q46 := slot_at (t := 46) 9 ha (by kernel_rfl) (by kernel_rfl) (by kernel_rfl) e9
                  have p46 := slot_norm q46
                  clear ha hd hst
                  have hlt : J < (D).length := (List.getElem?_eq_some_iff.1 hli.out).1
                  have hx := hli.out
                  have c0 := SrtAt.c0 hI hx
                  have c1 := SrtAt.c1 hI hx
                  have f0 := SrtAt.f0 hI hlt
                  have f1 := SrtAt.f1 hI hlt
                  exact StepI.stored (w' := putCells w1 g (off + (J) * 2) (encE z)) rfl rfl (by simp only [putCells, encE]; go_simp) ⟨trivial, SrtAt.put hI hlt z⟩
                · intro us au w1 k16 hlo hhi ha hd hst hI
                  obtain rfl : k16 = 1 := by omega
                  have e2 := hd 2 _ (by kernel_rfl) rfl
                  have e4 := hd 4 _ (by kernel_rfl) rfl
                  have q39 := slot_at (t := 39) 2 ha (by kernel_rfl) (by kernel_rfl) (by kernel_rfl) e2
                  have p39 := slot_norm q39
                  have q41 := slot_at (t := 41) 4 ha (by kernel_rfl) (by kernel_rfl) (by kernel_rfl) e4
                  have p41 := slot_norm q41
                  clear ha hd hst
                  exact StepI.pure (v := .pointer (some ⟨g, off + (K) * 2, none⟩)) rfl rfl (by go_simp) ⟨rfl, hI⟩
                · intro us au w1 ha hd hst hI
                  have e16 := hd 16 _ (by kernel_rfl) rfl
                  have e13 := hd 13 _ (by kernel_rfl) rfl
                  have q52 := slot_at (t := 52) 16 ha (by kernel_rfl) (by kernel_rfl) (by kernel_rfl) e16
                  have p52 := slot_norm q52
                  have q50 := slot_at (t := 50) 13 ha (by kernel_rfl) (by kernel_rfl) (by kernel_rfl) e13
                  have p50 := slot_norm q50
                  clear ha hd hst
                  have hlt : K < ((D).set (J) z).length := by rw [List.length_set]; exact (List.getElem?_eq_some_iff.1 hlj.out).1
                  have hx : ((D).set (J) z)[K]? = some z := by rw [List.getElem?_set_ne (by omega)]; exact hlj.out
                  have c0 := SrtAt.c0 hI hx
                  have c1 := SrtAt.c1 hI hx
                  have f0 := SrtAt.f0 hI hlt
                  have f1 := SrtAt.f1 hI hlt
                  exact StepI.stored (w' := putCells w1 g (off + (K) * 2) (encE x)) rfl rfl (by simp only [putCells, encE]; go_simp) ⟨trivial, SrtAt.put hI hlt x⟩
              case done =>
                intro us w1 hI hd
                clear hd HS hli hlj
                simp only [putAll]
                go_simp
                go_wp2
                go_roundw
                case rel => exact ⟨K, l0, z :: l2, rfl, by rw [HSl.out]; simp, HK.out, fun y t h => by injection h with h1 _; rw [← h1]; exact HX.out, by rw [← HSET.out]; exact hI⟩
                case measure => have := HKJ.out; simp [intOf]; omega
        · obtain rfl : l1 = [] := List.eq_nil_of_length_eq_zero (by omega)
          obtain ⟨D, hD⟩ : ∃ D, D = p ++ [] ++ x :: l2 ++ u2 ++ s := ⟨_, rfl⟩
          rw [← hD] at hAt
          have HD := Lib.hid hD
          have hJa : J = a := by simpa using hJ
          subst hJa
          have HS := Lib.hid hAt.drew
          have g1 : decide ((J : Int) < (J : Int)) = false := decide_eq_false (by omega)
          have g2 : decide (J < J) = false := decide_eq_false (by omega)
          clear hSl hl2 hl1 hAt hJ hD
          go_upto_region 4 with (fail)
          refine wp_region_ph (by kernel_rfl) [] [.span 0 0, .span 0 0, .span 0 0, .span 0 0, .span 0 0, .span 0 0, .span 0 0, .span 0 0, .span 0 0, .span 0 0, .span 0 0, .span 0 0, .span 0 0, .span 0 0, .span 0 0, .span 0 0, .span 0 0] [fun z9 => z9 = .int .i64 (J), fun z9 => z9 = .int .i64 (J), fun z9 => z9 = .bool false, fun z9 => z9 = .bool false, fun z9 => z9 = undef, fun z9 => z9 = undef, fun z9 => z9 = undef, fun z9 => z9 = undef, fun z9 => z9 = undef, fun z9 => z9 = undef, fun z9 => z9 = undef, fun z9 => z9 = undef, fun z9 => z9 = undef, fun z9 => z9 = undef, fun z9 => z9 = undef, fun z9 => z9 = undef, fun z9 => z9 = .bool false] (fun _ w => SrtAt W g off cap (D) w) (by kernel_rfl) (by kernel_rfl) (by kernel_rfl) (by kernel_rfl) (by kernel_rfl) (by kernel_rfl) rfl rfl (HS.out) ?steps ?done
          case steps =>
            refine ⟨?_, ?_, ?_, ?_, ?_, ?_, ?_, ?_, ?_, ?_, ?_, ?_, ?_, ?_, ?_, ?_, ?_, trivial⟩
            · intro us au w1 k0 hlo hhi ha hd hst hI
              obtain rfl : k0 = 0 := by omega
              have q9 := slot_far (t := 9) (v := .int .i64 (J)) ha (by kernel_rfl) (by kernel_rfl)
              have p9 := slot_norm q9
              clear ha hd hst
              exact StepI.pure (v := .int .i64 (J)) rfl rfl (by go_simp) ⟨rfl, hI⟩
            · intro us au w1 k1 hlo hhi ha hd hst hI
              obtain rfl : k1 = 0 := by omega
              have q1 := slot_far (t := 1) (v := .int .i64 (J)) ha (by kernel_rfl) (by kernel_rfl)
              have p1 := slot_norm q1
              clear ha hd hst
              exact StepI.pure (v := .int .i64 (J)) rfl rfl (by go_simp) ⟨rfl, hI⟩
            · intro us au w1 k2 hlo hhi ha hd hst hI
              obtain rfl : k2 = 0 := by omega
              have e0 := hd 0 _ (by kernel_rfl) rfl
              have e1 := hd 1 _ (by kernel_rfl) rfl
              have q18 := slot_at (t := 18) 0 ha (by kernel_rfl) (by kernel_rfl) (by kernel_rfl) e0
              have p18 := slot_norm q18
              have q19 := slot_at (t := 19) 1 ha (by kernel_rfl) (by kernel_rfl) (by kernel_rfl) e1
              have p19 := slot_norm q19
              clear ha hd hst
              exact StepI.pure (v := .bool false) rfl rfl (by go_simp) ⟨rfl, hI⟩
            · intro us au w1 k3 hlo hhi ha hd hst hI
              obtain rfl : k3 = 0 := by omega
              have e2 := hd 2 _ (by kernel_rfl) rfl
              have q20 := slot_at (t := 20) 2 ha (by kernel_rfl) (by kernel_rfl) (by kernel_rfl) e2
              have p20 := slot_norm q20
              clear ha hd hst
              exact StepI.pure (v := .bool false) rfl rfl (by go_simp) ⟨rfl, hI⟩
            · intro us au w1 k4 hlo hhi ha hd hst hI
              obtain rfl : k4 = 0 := by omega
              have e3 := hd 3 _ (by kernel_rfl) rfl
              have hg := slot_at (t := 21) 3 ha (by kernel_rfl) (by kernel_rfl) (by kernel_rfl) e3
              exact StepI.skip rfl (unwanted_at rfl rfl hg rfl) ⟨rfl, hI⟩
            · intro us au w1 k5 hlo hhi ha hd hst hI
              obtain rfl : k5 = 0 := by omega
              have e3 := hd 3 _ (by kernel_rfl) rfl
              have hg := slot_at (t := 21) 3 ha (by kernel_rfl) (by kernel_rfl) (by kernel_rfl) e3
              exact StepI.skip rfl (unwanted_at rfl rfl hg rfl) ⟨rfl, hI⟩
            · intro us au w1 k6 hlo hhi ha hd hst hI
              obtain rfl : k6 = 0 := by omega
              have e3 := hd 3 _ (by kernel_rfl) rfl
              have hg := slot_at (t := 21) 3 ha (by kernel_rfl) (by kernel_rfl) (by kernel_rfl) e3
              exact StepI.skip rfl (unwanted_at rfl rfl hg rfl) ⟨rfl, hI⟩
            · intro us au w1 k7 hlo hhi ha hd hst hI
              obtain rfl : k7 = 0 := by omega
              have e3 := hd 3 _ (by kernel_rfl) rfl
              have hg := slot_at (t := 21) 3 ha (by kernel_rfl) (by kernel_rfl) (by kernel_rfl) e3
              exact StepI.skip rfl (unwanted_at rfl rfl hg rfl) ⟨rfl, hI⟩
            · intro us au w1 k8 hlo hhi ha hd hst hI
              obtain rfl : k8 = 0 := by omega
              have e3 := hd 3 _ (by kernel_rfl) rfl
              have hg := slot_at (t := 21) 3 ha (by kernel_rfl) (by kernel_rfl) (by kernel_rfl) e3
              exact StepI.skip rfl (unwanted_at rfl rfl hg rfl) ⟨rfl, hI⟩
            · intro us au w1 k9 hlo hhi ha hd hst hI
              obtain rfl : k9 = 0 := by omega
              have e3 := hd 3 _ (by kernel_rfl) rfl
              have hg := slot_at (t := 21) 3 ha (by kernel_rfl) (by kernel_rfl) (by kernel_rfl) e3
              exact StepI.skip rfl (unwanted_at rfl rfl hg rfl) ⟨rfl, hI⟩
            · intro us au w1 k10 hlo hhi ha hd hst hI
              obtain rfl : k10 = 0 := by omega
              have e3 := hd 3 _ (by kernel_rfl) rfl
              have hg := slot_at (t := 21) 3 ha (by kernel_rfl) (by kernel_rfl) (by kernel_rfl) e3
              exact StepI.skip rfl (unwanted_at rfl rfl hg rfl) ⟨rfl, hI⟩
            · intro us au w1 k11 hlo hhi ha hd hst hI
              obtain rfl : k11 = 0 := by omega
              have e3 := hd 3 _ (by kernel_rfl) rfl
              have hg := slot_at (t := 21) 3 ha (by kernel_rfl) (by kernel_rfl) (by kernel_rfl) e3
              exact StepI.skip rfl (unwanted_at rfl rfl hg rfl) ⟨rfl, hI⟩
            · intro us au w1 k12 hlo hhi ha hd hst hI
              obtain rfl : k12 = 0 := by omega
              have e3 := hd 3 _ (by kernel_rfl) rfl
              have hg := slot_at (t := 21) 3 ha (by kernel_rfl) (by kernel_rfl) (by kernel_rfl) e3
              exact StepI.skip rfl (unwanted_at rfl rfl hg rfl) ⟨rfl, hI⟩
            · intro us au w1 k13 hlo hhi ha hd hst hI
              obtain rfl : k13 = 0 := by omega
              have e3 := hd 3 _ (by kernel_rfl) rfl
              have hg := slot_at (t := 21) 3 ha (by kernel_rfl) (by kernel_rfl) (by kernel_rfl) e3
              exact StepI.skip rfl (unwanted_at rfl rfl hg rfl) ⟨rfl, hI⟩
            · intro us au w1 k14 hlo hhi ha hd hst hI
              obtain rfl : k14 = 0 := by omega
              have e3 := hd 3 _ (by kernel_rfl) rfl
              have hg := slot_at (t := 21) 3 ha (by kernel_rfl) (by kernel_rfl) (by kernel_rfl) e3
              exact StepI.skip rfl (unwanted_at rfl rfl hg rfl) ⟨rfl, hI⟩
            · intro us au w1 k15 hlo hhi ha hd hst hI
              obtain rfl : k15 = 0 := by omega
              have e3 := hd 3 _ (by kernel_rfl) rfl
              have hg := slot_at (t := 21) 3 ha (by kernel_rfl) (by kernel_rfl) (by kernel_rfl) e3
              exact StepI.skip rfl (unwanted_at rfl rfl hg rfl) ⟨rfl, hI⟩
            · intro us au w1 k16 hlo hhi ha hd hst hI
              obtain rfl : k16 = 0 := by omega
              have e3 := hd 3 _ (by kernel_rfl) rfl
              have e15 := hd 15 _ (by kernel_rfl) rfl
              have q21 := slot_at (t := 21) 3 ha (by kernel_rfl) (by kernel_rfl) (by kernel_rfl) e3
              have p21 := slot_norm q21
              have q33 := slot_at (t := 33) 15 ha (by kernel_rfl) (by kernel_rfl) (by kernel_rfl) e15
              have p33 := slot_norm q33
              clear ha hd hst
              exact StepI.pure (v := .bool false) rfl rfl (by go_simp) ⟨rfl, hI⟩
          case done =>
            intro us w1 hI hd
            have e16 := hd 16 _ (by decide) rfl
            clear hd HS g1 g2
            simp only [putAll]
            go_simp
            go_wp2
            go_roundw
            case rel =>
              have hins := Srt.ins_at (lt := ltE) x [] l2 (fun _ h => by cases h) HL2.out
              refine ⟨k + 1, i + 1, by go_num, by have := HIK.out; omega, by omega, .inl (by omega), ?_⟩
              rw [HTK.out, HDK.out, HSl.out, hins]
              have := hI
              rw [HD.out] at this
              simp only [List.append_assoc, List.cons_append, List.nil_append] at this ⊢
              exact this
            case measure => simp [intOf]; omega
    · have hall : Srt.isort ltE (u.take k) = Srt.isort ltE u ∧ u.drop k = [] := by
        have := HNU.out
        exact ⟨by rw [List.take_of_length_le (by omega)], List.drop_of_length_le (by omega)⟩
      rw [hall.1, hall.2, List.append_nil] at hAt
      have HAt := Lib.hid hAt
      clear hAt hall hik hk hb
      go_wp2
      go_end0
      exact ⟨rfl, HAt.out.1, HAt.out.2⟩
end Go.Proofs.Ytdmggpngmlhboaa
