/- The walk of SumIs. -/
import Derived.Test.YtcbccopmbkefgaaSumAwake
import Derived.Test.YtcbccopmbkefgaaRel
namespace Go.Proofs.Ytcbccopmbkefgaa
open Go.RowKit
set_option linter.unusedVariables false

theorem bytes_wf (xs : List Int) (wf : ∀ x ∈ xs, (Lit.int .u8 x).wf = true) : Bytes xs := fun x hx => by
  have := wf x hx
  simp [Lit.wf, IntKind.min, IntKind.max, IntKind.bits, IntKind.signed] at this
  omega
theorem strOfNums_size (xs : List Int) : (strOfNums xs).size = xs.length := by
  show (strOfNums xs).data.size = _
  rw [← Array.length_toList, strOfNums_data, List.length_map]
set_option maxRecDepth 100000 in
set_option maxHeartbeats 1000000 in
theorem sumIs_walk (A : Option Addr) (c : Nat) (xs : List Int) (w : World) (hI : Ints .u8 w A xs) (wf : ∀ x ∈ xs, (Lit.int .u8 x).wf = true) (hsz : xs.length ≤ 140737488351300) :
    Calls Try.prog 6 #[.slice A xs.length c] w fun e w' => e = .returned (.bool true) ∧ Below w.heap.size w w' := by
  have hb := bytes_wf xs wf
  have hss := strOfNums_size xs
  have hbs := bytesOf_str xs hb
  have hcv := run_str_ints (P := Try.prog) (w := w) 35 9 5 Try.underlying35 Try.underlying5 Try.underlying9 A c xs hI
  go_enter Try.func6, Try.ntmps6
  go_wp2
  clear hcv
  refine wp_region_rel (by kernel_rfl) [fun v _ => v = .slice A xs.length c, fun v w => ∃ A c, v = .slice A (shaAll xs).length c ∧ Ints .u8 w A (shaAll xs), fun v _ => v = .string (strOfNums (shaAll xs)), fun v _ => v = .string (strOfNums xs), fun v w => ∃ A c, v = .slice A (shaAll xs).length c ∧ Ints .u8 w A (shaAll xs), fun v _ => v = .string (strOfNums (shaAll xs)), fun v _ => v = .bool true, fun v _ => v = .bool true, fun v _ => v = .slice A xs.length c, fun v _ => v = .int .u32 (4294967295 - (crcTo 4294967295 xs : Nat)), fun v _ => v = .string (strOfNums xs), fun v _ => v = .int .u32 (4294967295 - (crcTo 4294967295 xs : Nat)), fun v _ => v = .bool true, fun v _ => v = .bool true, fun v _ => v = .bool true, fun v _ => v = .slice A xs.length c, fun v _ => v = .int .u32 ((adTo (1, 0) xs).2 * 65536 + (adTo (1, 0) xs).1), fun v _ => v = .string (strOfNums xs), fun v _ => v = .int .u32 ((adTo (1, 0) xs).2 * 65536 + (adTo (1, 0) xs).1), fun v _ => v = .bool true, fun v _ => v = .bool true, fun v _ => v = .bool true, fun v _ => v = .slice A xs.length c, fun v _ => v = .string (strOfNums xs), fun v _ => v = .string (strOfNums xs), fun v _ => v = .bool true, fun v _ => v = .bool true, fun v _ => v = .bool true, fun v _ => v = .bool true, fun v _ => v = .bool true, fun v _ => v = .bool true] (allM ⟨MonoB.eq _, MonoB.ints _ _ _, MonoB.eq _, MonoB.eq _, MonoB.ints _ _ _, MonoB.eq _, MonoB.eq _, MonoB.eq _, MonoB.eq _, MonoB.eq _, MonoB.eq _, MonoB.eq _, MonoB.eq _, MonoB.eq _, MonoB.eq _, MonoB.eq _, MonoB.eq _, MonoB.eq _, MonoB.eq _, MonoB.eq _, MonoB.eq _, MonoB.eq _, MonoB.eq _, MonoB.eq _, MonoB.eq _, MonoB.eq _, MonoB.eq _, MonoB.eq _, MonoB.eq _, MonoB.eq _, MonoB.eq _, trivial⟩) (by kernel_rfl) (by kernel_rfl) ?steps ?done rfl
  case steps =>
    refine ⟨?_, ?_, ?_, ?_, ?_, ?_, ?_, ?_, ?_, ?_, ?_, ?_, ?_, ?_, ?_, ?_, ?_, ?_, ?_, ?_, ?_, ?_, ?_, ?_, ?_, ?_, ?_, ?_, ?_, ?_, ?_, trivial⟩
    · intro us a w1 ha hR hd
      exact StepR.pure (v := .slice A xs.length c) rfl rfl (by rw [ha]; simp only [putAll]; go_simp) (RelB.refl _) rfl
    · intro us a w1 ha hR hd
      have e0 := hd 0 _ (by kernel_rfl) rfl
      refine StepR.call (f := 26) (args := #[.slice A xs.length c]) rfl rfl ?_ ?_
      · rw [ha]; simp only [putAll]; go_simp
      · refine (sha1_any A _ c xs w1 ((hI.drew).below hR) rfl hb (by omega)).mono ?_
        rintro e w' ⟨A2, c2, rfl, ho, hbl⟩
        exact ⟨_, rfl, hbl, A2, c2, rfl, ho.ints⟩
    · intro us a w1 ha hR hd
      obtain ⟨A1, c1, e1, h1⟩ := hd 1 _ (by kernel_rfl) rfl
      have hcv := run_str_ints (P := Try.prog) (w := w1) 35 9 5 Try.underlying35 Try.underlying5 Try.underlying9 A1 c1 (shaAll xs) h1
      exact StepR.pure (v := .string (strOfNums (shaAll xs))) rfl rfl (by rw [ha]; simp only [putAll]; go_simp) (RelB.refl _) rfl
    · intro us a w1 ha hR hd
      exact StepR.pure (v := .string (strOfNums xs)) rfl rfl (by rw [ha]; simp only [putAll]; go_simp) (RelB.refl _) rfl
    · intro us a w1 ha hR hd
      have e3 := hd 3 _ (by kernel_rfl) rfl
      refine StepR.call (f := 27) (args := #[.string (strOfNums xs)]) rfl rfl ?_ ?_
      · rw [ha]; simp only [putAll]; go_simp
      · refine (refSha_any (strOfNums xs) w1 (by rw [hss]; omega)).mono ?_
        rw [hbs, hss, ← shaAll_eq]
        rintro e w' ⟨A2, c2, rfl, ho, hbl⟩
        exact ⟨_, rfl, hbl, A2, c2, rfl, ho.ints⟩
    · intro us a w1 ha hR hd
      obtain ⟨A4, c4, e4, h4⟩ := hd 4 _ (by kernel_rfl) rfl
      have hcv := run_str_ints (P := Try.prog) (w := w1) 35 9 5 Try.underlying35 Try.underlying5 Try.underlying9 A4 c4 (shaAll xs) h4
      exact StepR.pure (v := .string (strOfNums (shaAll xs))) rfl rfl (by rw [ha]; simp only [putAll]; go_simp) (RelB.refl _) rfl
    · intro us a w1 ha hR hd
      have e2 := hd 2 _ (by kernel_rfl) rfl
      have e5 := hd 5 _ (by kernel_rfl) rfl
      exact StepR.pure (v := .bool true) rfl rfl (by rw [ha]; simp only [putAll]; go_simp) (RelB.refl _) rfl
    · intro us a w1 ha hR hd
      have e6 := hd 6 _ (by kernel_rfl) rfl
      exact StepR.pure (v := .bool true) rfl rfl (by rw [ha]; simp only [putAll]; go_simp) (RelB.refl _) rfl
    · intro us a w1 ha hR hd
      have e7 := hd 7 _ (by kernel_rfl) rfl
      exact StepR.pure (v := .slice A xs.length c) rfl (wanted_guard rfl rfl (v := us 7) (t := 13) (by rw [ha]; kernel_rfl) e7) (by rw [ha]; simp only [putAll]; go_simp) (RelB.refl _) rfl
    · intro us a w1 ha hR hd
      have e8 := hd 8 _ (by kernel_rfl) rfl
      have e7 := hd 7 _ (by kernel_rfl) rfl
      refine StepR.call (f := 28) (args := #[.slice A xs.length c]) rfl (wanted_guard rfl rfl (v := us 7) (t := 13) (by rw [ha]; kernel_rfl) e7) ?_ ?_
      · rw [ha]; simp only [putAll]; go_simp
      · refine (crc_any A _ c xs w1 ((hI.drew).below hR) rfl hb (by omega) (crcOut_num xs hb).1).mono ?_
        rw [(crcOut_num xs hb).2]
        rintro e w' ⟨rfl, hbl⟩
        exact ⟨_, rfl, hbl, rfl⟩
    · intro us a w1 ha hR hd
      have e7 := hd 7 _ (by kernel_rfl) rfl
      exact StepR.pure (v := .string (strOfNums xs)) rfl (wanted_guard rfl rfl (v := us 7) (t := 13) (by rw [ha]; kernel_rfl) e7) (by rw [ha]; simp only [putAll]; go_simp) (RelB.refl _) rfl
    · intro us a w1 ha hR hd
      have e10 := hd 10 _ (by kernel_rfl) rfl
      have e7 := hd 7 _ (by kernel_rfl) rfl
      refine StepR.call (f := 29) (args := #[.string (strOfNums xs)]) rfl (wanted_guard rfl rfl (v := us 7) (t := 13) (by rw [ha]; kernel_rfl) e7) ?_ ?_
      · rw [ha]; simp only [putAll]; go_simp
      · refine (refCrc_any (strOfNums xs) w1 (by rw [hss]; omega)).mono ?_
        rw [hbs, ← crcTo_bits]
        rintro e w' ⟨rfl, rfl⟩
        exact ⟨_, rfl, RelB.refl _, rfl⟩
    · intro us a w1 ha hR hd
      have e9 := hd 9 _ (by kernel_rfl) rfl
      have e11 := hd 11 _ (by kernel_rfl) rfl
      have e7 := hd 7 _ (by kernel_rfl) rfl
      exact StepR.pure (v := .bool true) rfl (wanted_guard rfl rfl (v := us 7) (t := 13) (by rw [ha]; kernel_rfl) e7) (by rw [ha]; simp only [putAll]; go_simp) (RelB.refl _) rfl
    · intro us a w1 ha hR hd
      have e7 := hd 7 _ (by kernel_rfl) rfl
      have e12 := hd 12 _ (by kernel_rfl) rfl
      exact StepR.pure (v := .bool true) rfl rfl (by rw [ha]; simp only [putAll]; go_simp) (RelB.refl _) rfl
    · intro us a w1 ha hR hd
      have e13 := hd 13 _ (by kernel_rfl) rfl
      exact StepR.pure (v := .bool true) rfl rfl (by rw [ha]; simp only [putAll]; go_simp) (RelB.refl _) rfl
    · intro us a w1 ha hR hd
      have e14 := hd 14 _ (by kernel_rfl) rfl
      exact StepR.pure (v := .slice A xs.length c) rfl (wanted_guard rfl rfl (v := us 14) (t := 20) (by rw [ha]; kernel_rfl) e14) (by rw [ha]; simp only [putAll]; go_simp) (RelB.refl _) rfl
    · intro us a w1 ha hR hd
      have e15 := hd 15 _ (by kernel_rfl) rfl
      have e14 := hd 14 _ (by kernel_rfl) rfl
      refine StepR.call (f := 30) (args := #[.slice A xs.length c]) rfl (wanted_guard rfl rfl (v := us 14) (t := 20) (by rw [ha]; kernel_rfl) e14) ?_ ?_
      · rw [ha]; simp only [putAll]; go_simp
      · refine (adler_any A _ c xs w1 ((hI.drew).below hR) rfl hb (by omega) (adOut_num xs).1).mono ?_
        rw [(adOut_num xs).2]
        rintro e w' ⟨rfl, hbl⟩
        exact ⟨_, rfl, hbl, rfl⟩
    · intro us a w1 ha hR hd
      have e14 := hd 14 _ (by kernel_rfl) rfl
      exact StepR.pure (v := .string (strOfNums xs)) rfl (wanted_guard rfl rfl (v := us 14) (t := 20) (by rw [ha]; kernel_rfl) e14) (by rw [ha]; simp only [putAll]; go_simp) (RelB.refl _) rfl
    · intro us a w1 ha hR hd
      have e17 := hd 17 _ (by kernel_rfl) rfl
      have e14 := hd 14 _ (by kernel_rfl) rfl
      refine StepR.call (f := 31) (args := #[.string (strOfNums xs)]) rfl (wanted_guard rfl rfl (v := us 14) (t := 20) (by rw [ha]; kernel_rfl) e14) ?_ ?_
      · rw [ha]; simp only [putAll]; go_simp
      · refine (refAdler_any (strOfNums xs) w1 (by rw [hss]; omega)).mono ?_
        rw [hbs]
        rintro e w' ⟨rfl, rfl⟩
        exact ⟨_, rfl, RelB.refl _, rfl⟩
    · intro us a w1 ha hR hd
      have e16 := hd 16 _ (by kernel_rfl) rfl
      have e18 := hd 18 _ (by kernel_rfl) rfl
      have e14 := hd 14 _ (by kernel_rfl) rfl
      exact StepR.pure (v := .bool true) rfl (wanted_guard rfl rfl (v := us 14) (t := 20) (by rw [ha]; kernel_rfl) e14) (by rw [ha]; simp only [putAll]; go_simp) (RelB.refl _) rfl
    · intro us a w1 ha hR hd
      have e14 := hd 14 _ (by kernel_rfl) rfl
      have e19 := hd 19 _ (by kernel_rfl) rfl
      exact StepR.pure (v := .bool true) rfl rfl (by rw [ha]; simp only [putAll]; go_simp) (RelB.refl _) rfl
    · intro us a w1 ha hR hd
      have e20 := hd 20 _ (by kernel_rfl) rfl
      exact StepR.pure (v := .bool true) rfl rfl (by rw [ha]; simp only [putAll]; go_simp) (RelB.refl _) rfl
    · intro us a w1 ha hR hd
      have e21 := hd 21 _ (by kernel_rfl) rfl
      exact StepR.pure (v := .slice A xs.length c) rfl (wanted_guard rfl rfl (v := us 21) (t := 27) (by rw [ha]; kernel_rfl) e21) (by rw [ha]; simp only [putAll]; go_simp) (RelB.refl _) rfl
    · intro us a w1 ha hR hd
      have e22 := hd 22 _ (by kernel_rfl) rfl
      have e21 := hd 21 _ (by kernel_rfl) rfl
      have hcv := run_str_ints (P := Try.prog) (w := w1) 35 9 5 Try.underlying35 Try.underlying5 Try.underlying9 A c (xs) ((hI.drew).below hR)
      exact StepR.pure (v := .string (strOfNums xs)) rfl (wanted_guard rfl rfl (v := us 21) (t := 27) (by rw [ha]; kernel_rfl) e21) (by rw [ha]; simp only [putAll]; go_simp) (RelB.refl _) rfl
    · intro us a w1 ha hR hd
      have e21 := hd 21 _ (by kernel_rfl) rfl
      exact StepR.pure (v := .string (strOfNums xs)) rfl (wanted_guard rfl rfl (v := us 21) (t := 27) (by rw [ha]; kernel_rfl) e21) (by rw [ha]; simp only [putAll]; go_simp) (RelB.refl _) rfl
    · intro us a w1 ha hR hd
      have e23 := hd 23 _ (by kernel_rfl) rfl
      have e24 := hd 24 _ (by kernel_rfl) rfl
      have e21 := hd 21 _ (by kernel_rfl) rfl
      exact StepR.pure (v := .bool true) rfl (wanted_guard rfl rfl (v := us 21) (t := 27) (by rw [ha]; kernel_rfl) e21) (by rw [ha]; simp only [putAll]; go_simp) (RelB.refl _) rfl
    · intro us a w1 ha hR hd
      have e21 := hd 21 _ (by kernel_rfl) rfl
      have e25 := hd 25 _ (by kernel_rfl) rfl
      exact StepR.pure (v := .bool true) rfl rfl (by rw [ha]; simp only [putAll]; go_simp) (RelB.refl _) rfl
    · intro us a w1 ha hR hd
      have e26 := hd 26 _ (by kernel_rfl) rfl
      exact StepR.pure (v := .bool true) rfl rfl (by rw [ha]; simp only [putAll]; go_simp) (RelB.refl _) rfl
    · intro us a w1 ha hR hd
      have e27 := hd 27 _ (by kernel_rfl) rfl
      refine StepR.call (f := 25) (args := #[]) rfl (wanted_guard rfl rfl (v := us 27) (t := 33) (by rw [ha]; kernel_rfl) e27) ?_ ?_
      · rw [ha]; simp only [putAll]; go_simp
      · refine (awake3_any w1).mono ?_
        rintro e w' ⟨rfl, hbl⟩
        exact ⟨_, rfl, hbl, rfl⟩
    · intro us a w1 ha hR hd
      have e27 := hd 27 _ (by kernel_rfl) rfl
      have e28 := hd 28 _ (by kernel_rfl) rfl
      exact StepR.pure (v := .bool true) rfl rfl (by rw [ha]; simp only [putAll]; go_simp) (RelB.refl _) rfl
    · intro us a w1 ha hR hd
      have e29 := hd 29 _ (by kernel_rfl) rfl
      exact StepR.pure (v := .bool true) rfl rfl (by rw [ha]; simp only [putAll]; go_simp) (RelB.refl _) rfl
  case done =>
    intro us w1 hR hd
    have e30 := hd 30 _ rfl
    simp only [putAll]
    go_simp
    go_wp2
    go_ret
    exact ⟨rfl, hR.undrew⟩
end Go.Proofs.Ytcbccopmbkefgaa
