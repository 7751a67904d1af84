/- The walk of SumParts. -/
import Derived.Test.YtcbccopmbkefgaaSumLaw1
import Derived.Test.YtcbccopmbkefgaaRel
namespace Go.Proofs.Ytcbccopmbkefgaa
open Go.RowKit
set_option linter.unusedVariables false

def fillTo (x : Int) (m j : Nat) : List Int := List.replicate j x ++ List.replicate (m - j) 0
theorem fillTo_len (x : Int) (m j : Nat) (h : j ≤ m) : (fillTo x m j).length = m := by simp [fillTo]; omega
theorem fillTo_set (x : Int) (m j : Nat) (h : j < m) : (fillTo x m j).set j x = fillTo x m (j + 1) := by
  unfold fillTo
  rw [List.set_append_right _ _ (by simp), List.length_replicate, Nat.sub_self, show m - j = (m - (j + 1)) + 1 by omega, List.replicate_succ, List.set_cons_zero, List.replicate_succ']
  simp
theorem fillTo_all (x : Int) (m : Nat) : fillTo x m m = List.replicate m x := by simp [fillTo]
set_option maxRecDepth 100000 in
set_option maxHeartbeats 4000000 in
theorem sumParts_main (x : Int) (m : Nat) (w : World) (hx : 0 ≤ x ∧ x < 256) (hm : m ≤ 300) :
    Calls Try.prog 5 #[.int .u8 x, .int .i64 (m : Int)] w fun e w' => e = .returned (.bool true) ∧ Below w.heap.size w w' := by
  obtain ⟨i0, hi, hz0, hz1, hz2⟩ := info_parts Try.info_u8
  go_enter Try.func5, Try.ntmps5
  go_wp2_with (refine wpList_make_full _ rfl _ _ 35 rfl w.heap.size 5 i0 (.int .u8 0) 1 Try.underlying35 hi hz0 hz1 .i64 .i64 _ _ m rfl rfl rfl rfl (by rw [hz2]; omega) (by unfold maxLen; omega) (Nat.le_refl _) ?_; intro w1 hown hgrow)
  have hrow : RowI 5 .u8 w.heap.size w1 w.heap.size m m (fillTo x m 0) := by
    have e : (Value.int IntKind.u8 0).cells = #[.int .u8 0] := rfl
    rw [e, toList_madeCells_one] at hown
    simpa [RowI, fillTo] using hown
  have hbel : Below w.heap.size w w1 := (Below.refl _ _).grown hgrow (Nat.le_refl _) (by simp)
  clear hown hgrow hi hz0 hz1 hz2
  go_loopw [19] (fun i wr => ∃ k : Nat, k ≤ m ∧ i = .int .i64 k ∧ RowI 5 .u8 w.heap.size wr w.heap.size m m (fillTo x m k) ∧ Below w.heap.size w wr) (fun i _ => m - (intOf i).toNat)
  case atStart => exact ⟨0, by omega, rfl, hrow, hbel⟩
  case round =>
    clear hrow hbel
    obtain ⟨k, hk, rfl, hrow, hbel⟩ := hrel
    by_cases hlt : k < m
    · obtain ⟨v0, hco⟩ := RowI.someCell hrow hlt
      have hcf := RowI.frozen hrow k
      go_wp2
      go_roundw
      case rel =>
        refine ⟨k + 1, by omega, by go_num, ?_, hbel.setCell (Nat.le_refl _) _⟩
        rw [← fillTo_set x m k hlt]
        exact RowI.set hrow k x
      case measure => simp [intOf]; omega
    · obtain rfl : k = m := by omega
      rw [fillTo_all] at hrow
      have hI := hrow.ints
      have hb : Bytes (List.replicate k x) := fun y hy => by rw [List.eq_of_mem_replicate hy]; exact hx
      have hl : k = (List.replicate k x).length := by simp
      clear hrow hlt hk
      generalize List.replicate k x = xs at *
      subst hl
      have hcv := run_str_ints (P := Try.prog) (w := wr) 35 9 5 Try.underlying35 Try.underlying5 Try.underlying9 (some ⟨w.heap.size, 0, none⟩) xs.length xs hI
      have hss := strOfNums_size xs
      have hbs := bytesOf_str xs hb
      have hl20 : Hid (((shaAll xs).length : Int) = 20) := by show _ = _; rw [shaAll_len]; rfl
      have hlx : Hid (((strOfNums (hexL xs)).size : Int) = 2 * (xs.length : Int)) := by show _ = _; rw [strOfNums_size, hexL_len]; omega
      have HSS := Lib.hid hss
      clear hss
      go_wp2
      clear hcv
      have hss := HSS.out
      refine wp_region_rel (by kernel_rfl) [fun v _ => v = .slice (some ⟨w.heap.size, 0, none⟩) xs.length xs.length, fun v w => ∃ A c, v = .slice A (shaAll xs).length c ∧ Ints .u8 w A (shaAll xs), fun v _ => v = .string (strOfNums (shaAll xs)), fun v _ => v = .string (strOfNums xs), fun v w => ∃ A c, v = .slice A (shaAll xs).length c ∧ Ints .u8 w A (shaAll xs), fun v _ => v = .string (strOfNums (shaAll xs)), fun v _ => v = .bool true, fun v _ => v = .bool true, fun v _ => v = .slice (some ⟨w.heap.size, 0, none⟩) xs.length xs.length, fun v _ => v = .int .u32 (4294967295 - (crcTo 4294967295 xs : Nat)), fun v _ => v = .string (strOfNums xs), fun v _ => v = .int .u32 (4294967295 - (crcTo 4294967295 xs : Nat)), fun v _ => v = .bool true, fun v _ => v = .bool true, fun v _ => v = .bool true, fun v _ => v = .slice (some ⟨w.heap.size, 0, none⟩) xs.length xs.length, fun v _ => v = .int .u32 ((adTo (1, 0) xs).2 * 65536 + (adTo (1, 0) xs).1), fun v _ => v = .string (strOfNums xs), fun v _ => v = .int .u32 ((adTo (1, 0) xs).2 * 65536 + (adTo (1, 0) xs).1), fun v _ => v = .bool true, fun v _ => v = .bool true, fun v _ => v = .bool true, fun v _ => v = .slice (some ⟨w.heap.size, 0, none⟩) xs.length xs.length, fun v w => ∃ A c, v = .slice A (shaAll xs).length c ∧ Ints .u8 w A (shaAll xs), fun v _ => v = .int .i64 ((shaAll xs).length : Int), fun v _ => v = .bool true, fun v _ => v = .bool true, fun v _ => v = .bool true, fun v _ => v = .slice (some ⟨w.heap.size, 0, none⟩) xs.length xs.length, fun v _ => v = .string (strOfNums (hexL xs)), fun v _ => v = .int .i64 ((strOfNums (hexL xs)).size : Int), fun v _ => v = .int .i64 (xs.length : Int), fun v _ => v = .int .i64 (2 * (xs.length : Int)), fun v _ => v = .bool true, fun v _ => v = .bool true, fun v _ => v = .bool true, fun v _ => v = .bool true, fun v _ => v = .bool true, fun v _ => v = .bool true] (allM ⟨MonoB.eq _, MonoB.ints _ _ _, MonoB.eq _, MonoB.eq _, MonoB.ints _ _ _, MonoB.eq _, MonoB.eq _, MonoB.eq _, MonoB.eq _, MonoB.eq _, MonoB.eq _, MonoB.eq _, MonoB.eq _, MonoB.eq _, MonoB.eq _, MonoB.eq _, MonoB.eq _, MonoB.eq _, MonoB.eq _, MonoB.eq _, MonoB.eq _, MonoB.eq _, MonoB.eq _, MonoB.ints _ _ _, MonoB.eq _, MonoB.eq _, MonoB.eq _, MonoB.eq _, MonoB.eq _, MonoB.eq _, MonoB.eq _, MonoB.eq _, MonoB.eq _, MonoB.eq _, MonoB.eq _, MonoB.eq _, MonoB.eq _, MonoB.eq _, MonoB.eq _, trivial⟩) (by kernel_rfl) (by kernel_rfl) ?steps ?done rfl
      case steps =>
        refine ⟨?_, ?_, ?_, ?_, ?_, ?_, ?_, ?_, ?_, ?_, ?_, ?_, ?_, ?_, ?_, ?_, ?_, ?_, ?_, ?_, ?_, ?_, ?_, ?_, ?_, ?_, ?_, ?_, ?_, ?_, ?_, ?_, ?_, ?_, ?_, ?_, ?_, ?_, ?_, trivial⟩
        · intro us a w1 ha hR hd
          exact StepR.pure (v := .slice (some ⟨w.heap.size, 0, none⟩) xs.length xs.length) rfl rfl (by rw [ha]; simp only [putAll]; go_simp) (RelB.refl _) rfl
        · intro us a w1 ha hR hd
          have e0 := hd 0 _ (by kernel_rfl) rfl
          refine StepR.call (f := 26) (args := #[.slice (some ⟨w.heap.size, 0, none⟩) xs.length xs.length]) rfl rfl ?_ ?_
          · rw [ha]; simp only [putAll]; go_simp
          · refine (sha1_any (some ⟨w.heap.size, 0, none⟩) _ xs.length xs w1 ((hI.drew).below hR) rfl hb (by omega)).mono ?_
            rintro e w' ⟨A2, c2, rfl, ho, hbl⟩
            exact ⟨_, rfl, hbl, A2, c2, rfl, ho.ints⟩
        · intro us a w1 ha hR hd
          obtain ⟨A1, c1, e1, h1⟩ := hd 1 _ (by kernel_rfl) rfl
          have hcv := run_str_ints (P := Try.prog) (w := w1) 35 9 5 Try.underlying35 Try.underlying5 Try.underlying9 A1 c1 (shaAll xs) h1
          exact StepR.pure (v := .string (strOfNums (shaAll xs))) rfl rfl (by rw [ha]; simp only [putAll]; go_simp) (RelB.refl _) rfl
        · intro us a w1 ha hR hd
          exact StepR.pure (v := .string (strOfNums xs)) rfl rfl (by rw [ha]; simp only [putAll]; go_simp) (RelB.refl _) rfl
        · intro us a w1 ha hR hd
          have e3 := hd 3 _ (by kernel_rfl) rfl
          refine StepR.call (f := 27) (args := #[.string (strOfNums xs)]) rfl rfl ?_ ?_
          · rw [ha]; simp only [putAll]; go_simp
          · refine (refSha_any (strOfNums xs) w1 (by rw [hss]; omega)).mono ?_
            rw [hbs, hss, ← shaAll_eq]
            rintro e w' ⟨A2, c2, rfl, ho, hbl⟩
            exact ⟨_, rfl, hbl, A2, c2, rfl, ho.ints⟩
        · intro us a w1 ha hR hd
          obtain ⟨A4, c4, e4, h4⟩ := hd 4 _ (by kernel_rfl) rfl
          have hcv := run_str_ints (P := Try.prog) (w := w1) 35 9 5 Try.underlying35 Try.underlying5 Try.underlying9 A4 c4 (shaAll xs) h4
          exact StepR.pure (v := .string (strOfNums (shaAll xs))) rfl rfl (by rw [ha]; simp only [putAll]; go_simp) (RelB.refl _) rfl
        · intro us a w1 ha hR hd
          have e2 := hd 2 _ (by kernel_rfl) rfl
          have e5 := hd 5 _ (by kernel_rfl) rfl
          exact StepR.pure (v := .bool true) rfl rfl (by rw [ha]; simp only [putAll]; go_simp) (RelB.refl _) rfl
        · intro us a w1 ha hR hd
          have e6 := hd 6 _ (by kernel_rfl) rfl
          exact StepR.pure (v := .bool true) rfl rfl (by rw [ha]; simp only [putAll]; go_simp) (RelB.refl _) rfl
        · intro us a w1 ha hR hd
          have e7 := hd 7 _ (by kernel_rfl) rfl
          exact StepR.pure (v := .slice (some ⟨w.heap.size, 0, none⟩) xs.length xs.length) rfl (wanted_guard rfl rfl (v := us 7) (t := 36) (by rw [ha]; kernel_rfl) e7) (by rw [ha]; simp only [putAll]; go_simp) (RelB.refl _) rfl
        · intro us a w1 ha hR hd
          have e8 := hd 8 _ (by kernel_rfl) rfl
          have e7 := hd 7 _ (by kernel_rfl) rfl
          refine StepR.call (f := 28) (args := #[.slice (some ⟨w.heap.size, 0, none⟩) xs.length xs.length]) rfl (wanted_guard rfl rfl (v := us 7) (t := 36) (by rw [ha]; kernel_rfl) e7) ?_ ?_
          · rw [ha]; simp only [putAll]; go_simp
          · refine (crc_any (some ⟨w.heap.size, 0, none⟩) _ xs.length xs w1 ((hI.drew).below hR) rfl hb (by omega) (crcOut_num xs hb).1).mono ?_
            rw [(crcOut_num xs hb).2]
            rintro e w' ⟨rfl, hbl⟩
            exact ⟨_, rfl, hbl, rfl⟩
        · intro us a w1 ha hR hd
          have e7 := hd 7 _ (by kernel_rfl) rfl
          exact StepR.pure (v := .string (strOfNums xs)) rfl (wanted_guard rfl rfl (v := us 7) (t := 36) (by rw [ha]; kernel_rfl) e7) (by rw [ha]; simp only [putAll]; go_simp) (RelB.refl _) rfl
        · intro us a w1 ha hR hd
          have e10 := hd 10 _ (by kernel_rfl) rfl
          have e7 := hd 7 _ (by kernel_rfl) rfl
          refine StepR.call (f := 29) (args := #[.string (strOfNums xs)]) rfl (wanted_guard rfl rfl (v := us 7) (t := 36) (by rw [ha]; kernel_rfl) e7) ?_ ?_
          · rw [ha]; simp only [putAll]; go_simp
          · refine (refCrc_any (strOfNums xs) w1 (by rw [hss]; omega)).mono ?_
            rw [hbs, ← crcTo_bits]
            rintro e w' ⟨rfl, rfl⟩
            exact ⟨_, rfl, RelB.refl _, rfl⟩
        · intro us a w1 ha hR hd
          have e9 := hd 9 _ (by kernel_rfl) rfl
          have e11 := hd 11 _ (by kernel_rfl) rfl
          have e7 := hd 7 _ (by kernel_rfl) rfl
          exact StepR.pure (v := .bool true) rfl (wanted_guard rfl rfl (v := us 7) (t := 36) (by rw [ha]; kernel_rfl) e7) (by rw [ha]; simp only [putAll]; go_simp) (RelB.refl _) rfl
        · intro us a w1 ha hR hd
          have e7 := hd 7 _ (by kernel_rfl) rfl
          have e12 := hd 12 _ (by kernel_rfl) rfl
          exact StepR.pure (v := .bool true) rfl rfl (by rw [ha]; simp only [putAll]; go_simp) (RelB.refl _) rfl
        · intro us a w1 ha hR hd
          have e13 := hd 13 _ (by kernel_rfl) rfl
          exact StepR.pure (v := .bool true) rfl rfl (by rw [ha]; simp only [putAll]; go_simp) (RelB.refl _) rfl
        · intro us a w1 ha hR hd
          have e14 := hd 14 _ (by kernel_rfl) rfl
          exact StepR.pure (v := .slice (some ⟨w.heap.size, 0, none⟩) xs.length xs.length) rfl (wanted_guard rfl rfl (v := us 14) (t := 43) (by rw [ha]; kernel_rfl) e14) (by rw [ha]; simp only [putAll]; go_simp) (RelB.refl _) rfl
        · intro us a w1 ha hR hd
          have e15 := hd 15 _ (by kernel_rfl) rfl
          have e14 := hd 14 _ (by kernel_rfl) rfl
          refine StepR.call (f := 30) (args := #[.slice (some ⟨w.heap.size, 0, none⟩) xs.length xs.length]) rfl (wanted_guard rfl rfl (v := us 14) (t := 43) (by rw [ha]; kernel_rfl) e14) ?_ ?_
          · rw [ha]; simp only [putAll]; go_simp
          · refine (adler_any (some ⟨w.heap.size, 0, none⟩) _ xs.length xs w1 ((hI.drew).below hR) rfl hb (by omega) (adOut_num xs).1).mono ?_
            rw [(adOut_num xs).2]
            rintro e w' ⟨rfl, hbl⟩
            exact ⟨_, rfl, hbl, rfl⟩
        · intro us a w1 ha hR hd
          have e14 := hd 14 _ (by kernel_rfl) rfl
          exact StepR.pure (v := .string (strOfNums xs)) rfl (wanted_guard rfl rfl (v := us 14) (t := 43) (by rw [ha]; kernel_rfl) e14) (by rw [ha]; simp only [putAll]; go_simp) (RelB.refl _) rfl
        · intro us a w1 ha hR hd
          have e17 := hd 17 _ (by kernel_rfl) rfl
          have e14 := hd 14 _ (by kernel_rfl) rfl
          refine StepR.call (f := 31) (args := #[.string (strOfNums xs)]) rfl (wanted_guard rfl rfl (v := us 14) (t := 43) (by rw [ha]; kernel_rfl) e14) ?_ ?_
          · rw [ha]; simp only [putAll]; go_simp
          · refine (refAdler_any (strOfNums xs) w1 (by rw [hss]; omega)).mono ?_
            rw [hbs]
            rintro e w' ⟨rfl, rfl⟩
            exact ⟨_, rfl, RelB.refl _, rfl⟩
        · intro us a w1 ha hR hd
          have e16 := hd 16 _ (by kernel_rfl) rfl
          have e18 := hd 18 _ (by kernel_rfl) rfl
          have e14 := hd 14 _ (by kernel_rfl) rfl
          exact StepR.pure (v := .bool true) rfl (wanted_guard rfl rfl (v := us 14) (t := 43) (by rw [ha]; kernel_rfl) e14) (by rw [ha]; simp only [putAll]; go_simp) (RelB.refl _) rfl
        · intro us a w1 ha hR hd
          have e14 := hd 14 _ (by kernel_rfl) rfl
          have e19 := hd 19 _ (by kernel_rfl) rfl
          exact StepR.pure (v := .bool true) rfl rfl (by rw [ha]; simp only [putAll]; go_simp) (RelB.refl _) rfl
        · intro us a w1 ha hR hd
          have e20 := hd 20 _ (by kernel_rfl) rfl
          exact StepR.pure (v := .bool true) rfl rfl (by rw [ha]; simp only [putAll]; go_simp) (RelB.refl _) rfl
        · intro us a w1 ha hR hd
          have e21 := hd 21 _ (by kernel_rfl) rfl
          exact StepR.pure (v := .slice (some ⟨w.heap.size, 0, none⟩) xs.length xs.length) rfl (wanted_guard rfl rfl (v := us 21) (t := 50) (by rw [ha]; kernel_rfl) e21) (by rw [ha]; simp only [putAll]; go_simp) (RelB.refl _) rfl
        · intro us a w1 ha hR hd
          have e22 := hd 22 _ (by kernel_rfl) rfl
          have e21 := hd 21 _ (by kernel_rfl) rfl
          refine StepR.call (f := 26) (args := #[.slice (some ⟨w.heap.size, 0, none⟩) xs.length xs.length]) rfl (wanted_guard rfl rfl (v := us 21) (t := 50) (by rw [ha]; kernel_rfl) e21) ?_ ?_
          · rw [ha]; simp only [putAll]; go_simp
          · refine (sha1_any (some ⟨w.heap.size, 0, none⟩) _ xs.length xs w1 ((hI.drew).below hR) rfl hb (by omega)).mono ?_
            rintro e w' ⟨A2, c2, rfl, ho, hbl⟩
            exact ⟨_, rfl, hbl, A2, c2, rfl, ho.ints⟩
        · intro us a w1 ha hR hd
          obtain ⟨A23, c23, e23, h23⟩ := hd 23 _ (by kernel_rfl) rfl
          have e21 := hd 21 _ (by kernel_rfl) rfl
          exact StepR.pure (v := .int .i64 ((shaAll xs).length : Int)) rfl (wanted_guard rfl rfl (v := us 21) (t := 50) (by rw [ha]; kernel_rfl) e21) (by rw [ha]; simp only [putAll]; go_simp) (RelB.refl _) rfl
        · intro us a w1 ha hR hd
          have e24 := hd 24 _ (by kernel_rfl) rfl
          have e21 := hd 21 _ (by kernel_rfl) rfl
          have hl := hl20.out
          exact StepR.pure (v := .bool true) rfl (wanted_guard rfl rfl (v := us 21) (t := 50) (by rw [ha]; kernel_rfl) e21) (by rw [ha]; simp only [putAll]; go_simp) (RelB.refl _) rfl
        · intro us a w1 ha hR hd
          have e21 := hd 21 _ (by kernel_rfl) rfl
          have e25 := hd 25 _ (by kernel_rfl) rfl
          exact StepR.pure (v := .bool true) rfl rfl (by rw [ha]; simp only [putAll]; go_simp) (RelB.refl _) rfl
        · intro us a w1 ha hR hd
          have e26 := hd 26 _ (by kernel_rfl) rfl
          exact StepR.pure (v := .bool true) rfl rfl (by rw [ha]; simp only [putAll]; go_simp) (RelB.refl _) rfl
        · intro us a w1 ha hR hd
          have e27 := hd 27 _ (by kernel_rfl) rfl
          exact StepR.pure (v := .slice (some ⟨w.heap.size, 0, none⟩) xs.length xs.length) rfl (wanted_guard rfl rfl (v := us 27) (t := 56) (by rw [ha]; kernel_rfl) e27) (by rw [ha]; simp only [putAll]; go_simp) (RelB.refl _) rfl
        · intro us a w1 ha hR hd
          have e28 := hd 28 _ (by kernel_rfl) rfl
          have e27 := hd 27 _ (by kernel_rfl) rfl
          refine StepR.call (f := 32) (args := #[.slice (some ⟨w.heap.size, 0, none⟩) xs.length xs.length]) rfl (wanted_guard rfl rfl (v := us 27) (t := 56) (by rw [ha]; kernel_rfl) e27) ?_ ?_
          · rw [ha]; simp only [putAll]; go_simp
          · refine (hex_any (some ⟨w.heap.size, 0, none⟩) _ xs.length xs w1 ((hI.drew).below hR) rfl hb (by omega)).mono ?_
            rintro e w' ⟨rfl, hbl⟩
            exact ⟨_, rfl, hbl, rfl⟩
        · intro us a w1 ha hR hd
          have e29 := hd 29 _ (by kernel_rfl) rfl
          have e27 := hd 27 _ (by kernel_rfl) rfl
          exact StepR.pure (v := .int .i64 ((strOfNums (hexL xs)).size : Int)) rfl (wanted_guard rfl rfl (v := us 27) (t := 56) (by rw [ha]; kernel_rfl) e27) (by rw [ha]; simp only [putAll]; go_simp) (RelB.refl _) rfl
        · intro us a w1 ha hR hd
          have e27 := hd 27 _ (by kernel_rfl) rfl
          exact StepR.pure (v := .int .i64 (xs.length : Int)) rfl (wanted_guard rfl rfl (v := us 27) (t := 56) (by rw [ha]; kernel_rfl) e27) (by rw [ha]; simp only [putAll]; go_simp) (RelB.refl _) rfl
        · intro us a w1 ha hR hd
          have e31 := hd 31 _ (by kernel_rfl) rfl
          have e27 := hd 27 _ (by kernel_rfl) rfl
          have hw : IntKind.i64.wrap (2 * (xs.length : Int)) = 2 * (xs.length : Int) := IntWalk.i64_in _ (by omega)
          exact StepR.pure (v := .int .i64 (2 * (xs.length : Int))) rfl (wanted_guard rfl rfl (v := us 27) (t := 56) (by rw [ha]; kernel_rfl) e27) (by rw [ha]; simp only [putAll]; go_simp) (RelB.refl _) rfl
        · intro us a w1 ha hR hd
          have e30 := hd 30 _ (by kernel_rfl) rfl
          have e32 := hd 32 _ (by kernel_rfl) rfl
          have e27 := hd 27 _ (by kernel_rfl) rfl
          have hl := hlx.out
          exact StepR.pure (v := .bool true) rfl (wanted_guard rfl rfl (v := us 27) (t := 56) (by rw [ha]; kernel_rfl) e27) (by rw [ha]; simp only [putAll]; go_simp) (RelB.refl _) rfl
        · intro us a w1 ha hR hd
          have e27 := hd 27 _ (by kernel_rfl) rfl
          have e33 := hd 33 _ (by kernel_rfl) rfl
          exact StepR.pure (v := .bool true) rfl rfl (by rw [ha]; simp only [putAll]; go_simp) (RelB.refl _) rfl
        · intro us a w1 ha hR hd
          have e34 := hd 34 _ (by kernel_rfl) rfl
          exact StepR.pure (v := .bool true) rfl rfl (by rw [ha]; simp only [putAll]; go_simp) (RelB.refl _) rfl
        · intro us a w1 ha hR hd
          have e35 := hd 35 _ (by kernel_rfl) rfl
          refine StepR.call (f := 25) (args := #[]) rfl (wanted_guard rfl rfl (v := us 35) (t := 64) (by rw [ha]; kernel_rfl) e35) ?_ ?_
          · rw [ha]; simp only [putAll]; go_simp
          · refine (awake3_any w1).mono ?_
            rintro e w' ⟨rfl, hbl⟩
            exact ⟨_, rfl, hbl, rfl⟩
        · intro us a w1 ha hR hd
          have e35 := hd 35 _ (by kernel_rfl) rfl
          have e36 := hd 36 _ (by kernel_rfl) rfl
          exact StepR.pure (v := .bool true) rfl rfl (by rw [ha]; simp only [putAll]; go_simp) (RelB.refl _) rfl
        · intro us a w1 ha hR hd
          have e37 := hd 37 _ (by kernel_rfl) rfl
          exact StepR.pure (v := .bool true) rfl rfl (by rw [ha]; simp only [putAll]; go_simp) (RelB.refl _) rfl
      case done =>
        intro us w1 hR hd
        have e38 := hd 38 _ rfl
        simp only [putAll]
        go_simp
        go_wp2
        go_ret
        exact ⟨rfl, hbel.trans (hR.undrew.mono hbel.size)⟩

set_option maxRecDepth 100000 in
theorem sumParts_walk (x n : Int) (w : World) (wx : (Lit.int .u8 x).wf = true) (wn : (Lit.int .i64 n).wf = true) :
    Calls Try.prog 5 #[.int .u8 x, .int .i64 n] w fun e w' => e = .returned (.bool true) ∧ Below w.heap.size w w' := by
  have hx : 0 ≤ x ∧ x < 256 := bytes_wf [x] (fun y hy => by rw [List.mem_singleton.1 hy]; exact wx) x (by simp)
  by_cases h0 : n < 0
  · go_enter Try.func5, Try.ntmps5
    go_wp2_with (go_at_call 25; refine (awake3_any w).mono ?_; rintro e w1 ⟨rfl, hb1⟩)
    go_ret
    exact ⟨rfl, hb1⟩
  · by_cases h1 : 300 < n
    · go_enter Try.func5, Try.ntmps5
      go_wp2_with (go_at_call 25; refine (awake3_any w).mono ?_; rintro e w1 ⟨rfl, hb1⟩)
      go_ret
      exact ⟨rfl, hb1⟩
    · obtain ⟨m, rfl⟩ := Int.eq_ofNat_of_zero_le (Int.not_lt.1 h0)
      exact sumParts_main x m w hx (by omega)
end Go.Proofs.Ytcbccopmbkefgaa
