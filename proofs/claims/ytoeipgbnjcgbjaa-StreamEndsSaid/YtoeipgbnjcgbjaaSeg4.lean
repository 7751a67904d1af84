/- Walk: Parse of package stream, where the head is that of a segment. -/
import Derived.Test.YtoeipgbnjcgbjaaSeg3
import Derived.Test.YtoeipgbnjcgbjaaRelC
namespace Go.Proofs.Ytoeipgbnjcgbjaa
open Go.RowKit
set_option linter.unusedVariables false

theorem nat4_drop (bs : List Int) (k : Nat) : nat4 (bs.drop k) 0 = nat4 bs k := by
  unfold nat4
  simp [List.getD_eq_getElem?_getD]
theorem nat4_ok (bs : List Int) (k : Nat) (hb : Bytes bs) (hk : k + 4 ≤ bs.length) : 0 ≤ nat4 bs k ∧ nat4 bs k < 4294967296 := by
  have h0 := hb.at_ k (by omega)
  have h1 := hb.at_ (k + 1) (by omega)
  have h2 := hb.at_ (k + 2) (by omega)
  have h3 := hb.at_ (k + 3) (by omega)
  unfold nat4
  omega
theorem Bytes.drop {xs : List Int} (h : Bytes xs) (k : Nat) : Bytes (xs.drop k) := fun x hx => h x (List.mem_of_mem_drop hx)

set_option maxRecDepth 100000 in
set_option maxHeartbeats 4000000 in
theorem parse_tail (A : Option Addr) (n c N : Nat) (bs : List Int) (w : World) (hI : Ints .u8 w A bs) (hn : bs.length = n) (hN : n = N + 19) (h4 : N ≤ 400) (hb : Bytes bs) (hc : n ≤ c) (hcm : c ≤ 9223372036854775807)
    (hl : bs.getD 13 0 * 256 + bs.getD 14 0 = N) (ht1 : 1 ≤ bs.getD 0 0) (ht5 : bs.getD 0 0 ≤ 5) (hbad : crcV (bs.take (15 + N)) ≠ nat4 bs (15 + N)) :
    Calls Try.prog 15 #[.slice A n c] w (ParseNo w) := by
  have HX : Hid ((crcV (bs.take (15 + N)) != nat4 bs (15 + N)) = true) := by show _ = _; simpa using hbad
  clear hbad
  have hC := cel_zero w
  have hB : Below w.heap.size w (w.alloc (.cells #[.int .i64 0, .int .i64 0, .int .i64 0, .int .i64 0, .slice none 0 0] 24)) := (Below.refl _ _).alloc (Nat.le_refl _) _
  have hbA : ∀ b o, A = some ⟨b, o, none⟩ → b < w.heap.size := fun b o hA => by
    obtain ⟨b', o', h1, h2, _⟩ := hI (by omega)
    rw [hA] at h1; injection h1 with h1; injection h1 with h1; omega
  have hIB := hI.below hB
  obtain ⟨b, o, rfl, hlt, hcell⟩ := hIB (by omega)
  have hbw := hbA b o rfl
  have x13 := hb.at_ 13 (by omega)
  have x14 := hb.at_ 14 (by omega)
  have x0 := hb.at_ 0 (by omega)
  have hn4 := nat4_ok bs (15 + N) hb (by omega)
  have HT : Hid ((bs.take (15 + N)).length = 15 + N) := by show _ = _; rw [List.length_take]; omega
  have HD : Hid ((bs.drop (15 + N)).length = n - (15 + N)) := by show _ = _; rw [List.length_drop]; omega
  have HU : Hid (IntKind.u32.wrap (nat4 bs (15 + N)) = nat4 bs (15 + N)) := by show _ = _; rw [IntKind.wrap_u32']; omega
  have l13 : (13 : Int) < n := by omega
  have l14 : (14 : Int) < n := by omega
  have l0 : (0 : Int) < n := by omega
  have hn0 : ¬ n = 0 := by omega
  have hn1 : 0 < n := by omega
  generalize hwb : w.alloc (.cells #[.int .i64 0, .int .i64 0, .int .i64 0, .int .i64 0, .slice none 0 0] 24) = wb at *
  have hcellR : ∀ w1, Chg (fun _ => False) wb.drew w1 → ∀ j, j < bs.length → w1.cell? ⟨b, o + j, none⟩ = some (.int .u8 (bs.getD j 0)) := fun w1 h j hj => (World.cell?_of_block (h.block b hlt (fun h => h))).trans (hcell j hj)
  have HI : Hid (∀ w1, Chg (fun _ => False) wb.drew w1 → Ints .u8 w1 (some ⟨b, o, none⟩) bs) := fun w1 h => (hIB.drew).chg h (fun _ _ _ h => h)
  have HK13 : Hid (∀ w1, Chg (fun _ => False) wb.drew w1 → w1.cell? ⟨b, o + 13, none⟩ = some (.int .u8 (bs.getD 13 0))) := fun w1 h => hcellR w1 h 13 (by omega)
  have HK14 : Hid (∀ w1, Chg (fun _ => False) wb.drew w1 → w1.cell? ⟨b, o + 14, none⟩ = some (.int .u8 (bs.getD 14 0))) := fun w1 h => hcellR w1 h 14 (by omega)
  have HK0 : Hid (∀ w1, Chg (fun _ => False) wb.drew w1 → w1.cell? ⟨b, o, none⟩ = some (.int .u8 (bs.getD 0 0))) := fun w1 h => by have := hcellR w1 h 0 (by omega); rwa [Nat.add_zero] at this
  clear hcell hI hcellR hbA
  have HP0 : Hid (bs.getD 0 0 = bs.getD 0 0) := rfl
  generalize bs.getD 13 0 = b13 at *
  generalize bs.getD 14 0 = b14 at *
  generalize hb0 : bs.getD 0 0 = b0 at *
  have HB0 := Lib.hid hb0
  clear hb0 HP0
  have hor := i64_num2 b13 b14 x13 x14
  have hw : IntKind.i64.wrap (b13 * 256) = b13 * 256 := IntWalk.i64_in _ (by omega)
  have hw13 : IntKind.i64.wrap b13 = b13 := IntWalk.i64_in _ (by omega)
  have hw14 : IntKind.i64.wrap b14 = b14 := IntWalk.i64_in _ (by omega)
  have dN : decide ((N : Int) < 0) = false := by simp
  have d4 : decide ((400 : Int) < (N : Int)) = false := by simp; omega
  have h1 : (b13 * 256 + b14 != (N : Int)) = false := by simpa using hl
  have h2 : decide (b0 < 1) = false := by simpa using ht1
  have h3 : decide (5 < b0) = false := by simpa using ht5
  have s1 : IntKind.i64.wrap (15 + (N : Int)) = 15 + (N : Int) := IntWalk.i64_in _ (by omega)
  have s2 : (0 : Int) ≤ 15 + (N : Int) := by omega
  have s3 : (15 + (N : Int)) ≤ c := by omega
  have s4 : (15 + (N : Int)) ≤ n := by omega
  have s5 : (15 + (N : Int)).toNat = 15 + N := by omega
  have s6 : ¬ c = 15 + N := by omega
  have HN := Lib.hid hN
  have HNb := Lib.hid hn
  have HL := Lib.hid hl
  clear hn hN hl
  have HW := Lib.hid hwb
  clear hwb
  go_enter Try.func15, Try.ntmps15
  go_upto_region 1 with (fail)
  go_cut [4] (fun v4 wx => v4 = .int .i64 (N : Int) ∧ wx = wb)
  case first =>
    go_wp2
    go_meet
    have h1 := HN.out
    have h2 := HW.out
    exact ⟨by congr 1; omega, h2⟩
  case rest =>
    obtain ⟨rfl, rfl⟩ := hcut
    go_wp2
    refine wp_region_relC (fun _ => False) (by kernel_rfl) [fun v _ => v = .int .i64 (N : Int), fun v _ => v = .bool false, fun v _ => v = .bool false, fun v _ => v = .int .i64 (N : Int), fun v _ => v = .bool false, fun v _ => v = .bool false, fun v _ => v = .bool false, fun v _ => v = .slice (some ⟨b, o, none⟩) n c, fun v _ => v = .pointer (some ⟨b, o + 13, none⟩), fun v _ => v = .int .u8 b13, fun v _ => v = .int .i64 b13, fun v _ => v = .int .i64 (b13 * 256), fun v _ => v = .slice (some ⟨b, o, none⟩) n c, fun v _ => v = .pointer (some ⟨b, o + 14, none⟩), fun v _ => v = .int .u8 b14, fun v _ => v = .int .i64 b14, fun v _ => v = .int .i64 (b13 * 256 + b14), fun v _ => v = .int .i64 (N : Int), fun v _ => v = .bool false, fun v _ => v = .bool false, fun v _ => v = .bool false, fun v _ => v = .slice (some ⟨b, o, none⟩) n c, fun v _ => v = .pointer (some ⟨b, o, none⟩), fun v _ => v = .int .u8 b0, fun v _ => v = .bool false, fun v _ => v = .bool false, fun v _ => v = .bool false, fun v _ => v = .slice (some ⟨b, o, none⟩) n c, fun v _ => v = .pointer (some ⟨b, o, none⟩), fun v _ => v = .int .u8 b0, fun v _ => v = .bool false, fun v _ => v = .bool false, fun v _ => v = .bool false, fun v _ => v = .slice (some ⟨b, o, none⟩) n c, fun v _ => v = .int .i64 (N : Int), fun v _ => v = .int .i64 (15 + (N : Int)), fun v _ => v = .slice (some ⟨b, o, none⟩) (15 + N) c, fun v _ => v = .int .u32 (crcV (bs.take (15 + N))), fun v _ => v = .slice (some ⟨b, o, none⟩) n c, fun v _ => v = .int .i64 (N : Int), fun v _ => v = .int .i64 (15 + (N : Int)), fun v _ => v = .slice (some ⟨b, o + (15 + N), none⟩) (n - (15 + N)) (c - (15 + N)), fun v _ => v = .int .i64 (nat4 bs (15 + N)), fun v _ => v = .int .u32 (nat4 bs (15 + N)), fun v _ => v = .bool true, fun v _ => v = .bool true] (allC ⟨MonoC.eq _, MonoC.eq _, MonoC.eq _, MonoC.eq _, MonoC.eq _, MonoC.eq _, MonoC.eq _, MonoC.eq _, MonoC.eq _, MonoC.eq _, MonoC.eq _, MonoC.eq _, MonoC.eq _, MonoC.eq _, MonoC.eq _, MonoC.eq _, MonoC.eq _, MonoC.eq _, MonoC.eq _, MonoC.eq _, MonoC.eq _, MonoC.eq _, MonoC.eq _, MonoC.eq _, MonoC.eq _, MonoC.eq _, MonoC.eq _, MonoC.eq _, MonoC.eq _, MonoC.eq _, MonoC.eq _, MonoC.eq _, MonoC.eq _, MonoC.eq _, MonoC.eq _, MonoC.eq _, MonoC.eq _, MonoC.eq _, MonoC.eq _, MonoC.eq _, MonoC.eq _, MonoC.eq _, MonoC.eq _, MonoC.eq _, MonoC.eq _, MonoC.eq _, trivial⟩) (by kernel_rfl) (by kernel_rfl) ?steps ?done rfl
    case steps =>
      refine ⟨?_, ?_, ?_, ?_, ?_, ?_, ?_, ?_, ?_, ?_, ?_, ?_, ?_, ?_, ?_, ?_, ?_, ?_, ?_, ?_, ?_, ?_, ?_, ?_, ?_, ?_, ?_, ?_, ?_, ?_, ?_, ?_, ?_, ?_, ?_, ?_, ?_, ?_, ?_, ?_, ?_, ?_, ?_, ?_, ?_, ?_, trivial⟩
      · intro us a w1 ha hR hd
        exact StepR.pure (v := .int .i64 (N : Int)) rfl rfl (by rw [ha]; simp only [putAll]; go_simp) (Chg.refl _ _) rfl
      · intro us a w1 ha hR hd
        have e0 := hd 0 _ (by kernel_rfl) rfl
        exact StepR.pure (v := .bool false) rfl rfl (by rw [ha]; simp only [putAll]; go_simp) (Chg.refl _ _) rfl
      · intro us a w1 ha hR hd
        have e1 := hd 1 _ (by kernel_rfl) rfl
        exact StepR.pure (v := .bool false) rfl rfl (by rw [ha]; simp only [putAll]; go_simp) (Chg.refl _ _) rfl
      · intro us a w1 ha hR hd
        have e2 := hd 2 _ (by kernel_rfl) rfl
        exact StepR.pure (v := .int .i64 (N : Int)) rfl (wanted_guard rfl rfl (v := us 2) (t := 11) (by rw [ha]; kernel_rfl) e2) (by rw [ha]; simp only [putAll]; go_simp) (Chg.refl _ _) rfl
      · intro us a w1 ha hR hd
        have e3 := hd 3 _ (by kernel_rfl) rfl
        have e2 := hd 2 _ (by kernel_rfl) rfl
        exact StepR.pure (v := .bool false) rfl (wanted_guard rfl rfl (v := us 2) (t := 11) (by rw [ha]; kernel_rfl) e2) (by rw [ha]; simp only [putAll]; go_simp) (Chg.refl _ _) rfl
      · intro us a w1 ha hR hd
        have e2 := hd 2 _ (by kernel_rfl) rfl
        have e4 := hd 4 _ (by kernel_rfl) rfl
        exact StepR.pure (v := .bool false) rfl rfl (by rw [ha]; simp only [putAll]; go_simp) (Chg.refl _ _) rfl
      · intro us a w1 ha hR hd
        have e5 := hd 5 _ (by kernel_rfl) rfl
        exact StepR.pure (v := .bool false) rfl rfl (by rw [ha]; simp only [putAll]; go_simp) (Chg.refl _ _) rfl
      · intro us a w1 ha hR hd
        have e6 := hd 6 _ (by kernel_rfl) rfl
        exact StepR.pure (v := .slice (some ⟨b, o, none⟩) n c) rfl (wanted_guard rfl rfl (v := us 6) (t := 15) (by rw [ha]; kernel_rfl) e6) (by rw [ha]; simp only [putAll]; go_simp) (Chg.refl _ _) rfl
      · intro us a w1 ha hR hd
        have e7 := hd 7 _ (by kernel_rfl) rfl
        have e6 := hd 6 _ (by kernel_rfl) rfl
        exact StepR.pure (v := .pointer (some ⟨b, o + 13, none⟩)) rfl (wanted_guard rfl rfl (v := us 6) (t := 15) (by rw [ha]; kernel_rfl) e6) (by rw [ha]; simp only [putAll]; go_simp) (Chg.refl _ _) rfl
      · intro us a w1 ha hR hd
        have e8 := hd 8 _ (by kernel_rfl) rfl
        have e6 := hd 6 _ (by kernel_rfl) rfl
        have ck := HK13.out w1 hR
        exact StepR.pure (v := .int .u8 b13) rfl (wanted_guard rfl rfl (v := us 6) (t := 15) (by rw [ha]; kernel_rfl) e6) (by rw [ha]; simp only [putAll]; go_simp) (Chg.refl _ _) rfl
      · intro us a w1 ha hR hd
        have e9 := hd 9 _ (by kernel_rfl) rfl
        have e6 := hd 6 _ (by kernel_rfl) rfl
        exact StepR.pure (v := .int .i64 b13) rfl (wanted_guard rfl rfl (v := us 6) (t := 15) (by rw [ha]; kernel_rfl) e6) (by rw [ha]; simp only [putAll]; go_simp) (Chg.refl _ _) rfl
      · intro us a w1 ha hR hd
        have e10 := hd 10 _ (by kernel_rfl) rfl
        have e6 := hd 6 _ (by kernel_rfl) rfl
        exact StepR.pure (v := .int .i64 (b13 * 256)) rfl (wanted_guard rfl rfl (v := us 6) (t := 15) (by rw [ha]; kernel_rfl) e6) (by rw [ha]; simp only [putAll]; go_simp) (Chg.refl _ _) rfl
      · intro us a w1 ha hR hd
        have e6 := hd 6 _ (by kernel_rfl) rfl
        exact StepR.pure (v := .slice (some ⟨b, o, none⟩) n c) rfl (wanted_guard rfl rfl (v := us 6) (t := 15) (by rw [ha]; kernel_rfl) e6) (by rw [ha]; simp only [putAll]; go_simp) (Chg.refl _ _) rfl
      · intro us a w1 ha hR hd
        have e12 := hd 12 _ (by kernel_rfl) rfl
        have e6 := hd 6 _ (by kernel_rfl) rfl
        exact StepR.pure (v := .pointer (some ⟨b, o + 14, none⟩)) rfl (wanted_guard rfl rfl (v := us 6) (t := 15) (by rw [ha]; kernel_rfl) e6) (by rw [ha]; simp only [putAll]; go_simp) (Chg.refl _ _) rfl
      · intro us a w1 ha hR hd
        have e13 := hd 13 _ (by kernel_rfl) rfl
        have e6 := hd 6 _ (by kernel_rfl) rfl
        have ck := HK14.out w1 hR
        exact StepR.pure (v := .int .u8 b14) rfl (wanted_guard rfl rfl (v := us 6) (t := 15) (by rw [ha]; kernel_rfl) e6) (by rw [ha]; simp only [putAll]; go_simp) (Chg.refl _ _) rfl
      · intro us a w1 ha hR hd
        have e14 := hd 14 _ (by kernel_rfl) rfl
        have e6 := hd 6 _ (by kernel_rfl) rfl
        exact StepR.pure (v := .int .i64 b14) rfl (wanted_guard rfl rfl (v := us 6) (t := 15) (by rw [ha]; kernel_rfl) e6) (by rw [ha]; simp only [putAll]; go_simp) (Chg.refl _ _) rfl
      · intro us a w1 ha hR hd
        have e11 := hd 11 _ (by kernel_rfl) rfl
        have e15 := hd 15 _ (by kernel_rfl) rfl
        have e6 := hd 6 _ (by kernel_rfl) rfl
        exact StepR.pure (v := .int .i64 (b13 * 256 + b14)) rfl (wanted_guard rfl rfl (v := us 6) (t := 15) (by rw [ha]; kernel_rfl) e6) (by rw [ha]; simp only [putAll]; go_simp) (Chg.refl _ _) rfl
      · intro us a w1 ha hR hd
        have e6 := hd 6 _ (by kernel_rfl) rfl
        exact StepR.pure (v := .int .i64 (N : Int)) rfl (wanted_guard rfl rfl (v := us 6) (t := 15) (by rw [ha]; kernel_rfl) e6) (by rw [ha]; simp only [putAll]; go_simp) (Chg.refl _ _) rfl
      · intro us a w1 ha hR hd
        have e16 := hd 16 _ (by kernel_rfl) rfl
        have e17 := hd 17 _ (by kernel_rfl) rfl
        have e6 := hd 6 _ (by kernel_rfl) rfl
        exact StepR.pure (v := .bool false) rfl (wanted_guard rfl rfl (v := us 6) (t := 15) (by rw [ha]; kernel_rfl) e6) (by rw [ha]; simp only [putAll]; go_simp) (Chg.refl _ _) rfl
      · intro us a w1 ha hR hd
        have e6 := hd 6 _ (by kernel_rfl) rfl
        have e18 := hd 18 _ (by kernel_rfl) rfl
        exact StepR.pure (v := .bool false) rfl rfl (by rw [ha]; simp only [putAll]; go_simp) (Chg.refl _ _) rfl
      · intro us a w1 ha hR hd
        have e19 := hd 19 _ (by kernel_rfl) rfl
        exact StepR.pure (v := .bool false) rfl rfl (by rw [ha]; simp only [putAll]; go_simp) (Chg.refl _ _) rfl
      · intro us a w1 ha hR hd
        have e20 := hd 20 _ (by kernel_rfl) rfl
        exact StepR.pure (v := .slice (some ⟨b, o, none⟩) n c) rfl (wanted_guard rfl rfl (v := us 20) (t := 29) (by rw [ha]; kernel_rfl) e20) (by rw [ha]; simp only [putAll]; go_simp) (Chg.refl _ _) rfl
      · intro us a w1 ha hR hd
        have e21 := hd 21 _ (by kernel_rfl) rfl
        have e20 := hd 20 _ (by kernel_rfl) rfl
        exact StepR.pure (v := .pointer (some ⟨b, o, none⟩)) rfl (wanted_guard rfl rfl (v := us 20) (t := 29) (by rw [ha]; kernel_rfl) e20) (by rw [ha]; simp only [putAll]; go_simp) (Chg.refl _ _) rfl
      · intro us a w1 ha hR hd
        have e22 := hd 22 _ (by kernel_rfl) rfl
        have e20 := hd 20 _ (by kernel_rfl) rfl
        have ck := HK0.out w1 hR
        exact StepR.pure (v := .int .u8 b0) rfl (wanted_guard rfl rfl (v := us 20) (t := 29) (by rw [ha]; kernel_rfl) e20) (by rw [ha]; simp only [putAll]; go_simp) (Chg.refl _ _) rfl
      · intro us a w1 ha hR hd
        have e23 := hd 23 _ (by kernel_rfl) rfl
        have e20 := hd 20 _ (by kernel_rfl) rfl
        exact StepR.pure (v := .bool false) rfl (wanted_guard rfl rfl (v := us 20) (t := 29) (by rw [ha]; kernel_rfl) e20) (by rw [ha]; simp only [putAll]; go_simp) (Chg.refl _ _) rfl
      · intro us a w1 ha hR hd
        have e20 := hd 20 _ (by kernel_rfl) rfl
        have e24 := hd 24 _ (by kernel_rfl) rfl
        exact StepR.pure (v := .bool false) rfl rfl (by rw [ha]; simp only [putAll]; go_simp) (Chg.refl _ _) rfl
      · intro us a w1 ha hR hd
        have e25 := hd 25 _ (by kernel_rfl) rfl
        exact StepR.pure (v := .bool false) rfl rfl (by rw [ha]; simp only [putAll]; go_simp) (Chg.refl _ _) rfl
      · intro us a w1 ha hR hd
        have e26 := hd 26 _ (by kernel_rfl) rfl
        exact StepR.pure (v := .slice (some ⟨b, o, none⟩) n c) rfl (wanted_guard rfl rfl (v := us 26) (t := 35) (by rw [ha]; kernel_rfl) e26) (by rw [ha]; simp only [putAll]; go_simp) (Chg.refl _ _) rfl
      · intro us a w1 ha hR hd
        have e27 := hd 27 _ (by kernel_rfl) rfl
        have e26 := hd 26 _ (by kernel_rfl) rfl
        exact StepR.pure (v := .pointer (some ⟨b, o, none⟩)) rfl (wanted_guard rfl rfl (v := us 26) (t := 35) (by rw [ha]; kernel_rfl) e26) (by rw [ha]; simp only [putAll]; go_simp) (Chg.refl _ _) rfl
      · intro us a w1 ha hR hd
        have e28 := hd 28 _ (by kernel_rfl) rfl
        have e26 := hd 26 _ (by kernel_rfl) rfl
        have ck := HK0.out w1 hR
        exact StepR.pure (v := .int .u8 b0) rfl (wanted_guard rfl rfl (v := us 26) (t := 35) (by rw [ha]; kernel_rfl) e26) (by rw [ha]; simp only [putAll]; go_simp) (Chg.refl _ _) rfl
      · intro us a w1 ha hR hd
        have e29 := hd 29 _ (by kernel_rfl) rfl
        have e26 := hd 26 _ (by kernel_rfl) rfl
        exact StepR.pure (v := .bool false) rfl (wanted_guard rfl rfl (v := us 26) (t := 35) (by rw [ha]; kernel_rfl) e26) (by rw [ha]; simp only [putAll]; go_simp) (Chg.refl _ _) rfl
      · intro us a w1 ha hR hd
        have e26 := hd 26 _ (by kernel_rfl) rfl
        have e30 := hd 30 _ (by kernel_rfl) rfl
        exact StepR.pure (v := .bool false) rfl rfl (by rw [ha]; simp only [putAll]; go_simp) (Chg.refl _ _) rfl
      · intro us a w1 ha hR hd
        have e31 := hd 31 _ (by kernel_rfl) rfl
        exact StepR.pure (v := .bool false) rfl rfl (by rw [ha]; simp only [putAll]; go_simp) (Chg.refl _ _) rfl
      · intro us a w1 ha hR hd
        have e32 := hd 32 _ (by kernel_rfl) rfl
        exact StepR.pure (v := .slice (some ⟨b, o, none⟩) n c) rfl (wanted_guard rfl rfl (v := us 32) (t := 41) (by rw [ha]; kernel_rfl) e32) (by rw [ha]; simp only [putAll]; go_simp) (Chg.refl _ _) rfl
      · intro us a w1 ha hR hd
        have e32 := hd 32 _ (by kernel_rfl) rfl
        exact StepR.pure (v := .int .i64 (N : Int)) rfl (wanted_guard rfl rfl (v := us 32) (t := 41) (by rw [ha]; kernel_rfl) e32) (by rw [ha]; simp only [putAll]; go_simp) (Chg.refl _ _) rfl
      · intro us a w1 ha hR hd
        have e34 := hd 34 _ (by kernel_rfl) rfl
        have e32 := hd 32 _ (by kernel_rfl) rfl
        exact StepR.pure (v := .int .i64 (15 + (N : Int))) rfl (wanted_guard rfl rfl (v := us 32) (t := 41) (by rw [ha]; kernel_rfl) e32) (by rw [ha]; simp only [putAll]; go_simp) (Chg.refl _ _) rfl
      · intro us a w1 ha hR hd
        have e33 := hd 33 _ (by kernel_rfl) rfl
        have e35 := hd 35 _ (by kernel_rfl) rfl
        have e32 := hd 32 _ (by kernel_rfl) rfl
        exact StepR.pure (v := .slice (some ⟨b, o, none⟩) (15 + N) c) rfl (wanted_guard rfl rfl (v := us 32) (t := 41) (by rw [ha]; kernel_rfl) e32) (by rw [ha]; simp only [putAll]; go_simp) (Chg.refl _ _) rfl
      · intro us a w1 ha hR hd
        have e36 := hd 36 _ (by kernel_rfl) rfl
        have e32 := hd 32 _ (by kernel_rfl) rfl
        refine StepR.call (f := 47) (args := #[.slice (some ⟨b, o, none⟩) (15 + N) c]) rfl (wanted_guard rfl rfl (v := us 32) (t := 41) (by rw [ha]; kernel_rfl) e32) ?_ ?_
        · rw [ha]; simp only [putAll]; go_simp
        · refine (crc_any _ _ c (bs.take (15 + N)) w1 ((HI.out w1 hR).take _) HT.out (hb.take _) (by omega) (crcOut_num _ (hb.take _)).1).mono ?_
          rw [(crcOut_num _ (hb.take _)).2]
          rintro e w' ⟨rfl, hbl⟩
          exact ⟨_, rfl, Chg.of_below hbl, rfl⟩
      · intro us a w1 ha hR hd
        have e32 := hd 32 _ (by kernel_rfl) rfl
        exact StepR.pure (v := .slice (some ⟨b, o, none⟩) n c) rfl (wanted_guard rfl rfl (v := us 32) (t := 41) (by rw [ha]; kernel_rfl) e32) (by rw [ha]; simp only [putAll]; go_simp) (Chg.refl _ _) rfl
      · intro us a w1 ha hR hd
        have e32 := hd 32 _ (by kernel_rfl) rfl
        exact StepR.pure (v := .int .i64 (N : Int)) rfl (wanted_guard rfl rfl (v := us 32) (t := 41) (by rw [ha]; kernel_rfl) e32) (by rw [ha]; simp only [putAll]; go_simp) (Chg.refl _ _) rfl
      · intro us a w1 ha hR hd
        have e39 := hd 39 _ (by kernel_rfl) rfl
        have e32 := hd 32 _ (by kernel_rfl) rfl
        exact StepR.pure (v := .int .i64 (15 + (N : Int))) rfl (wanted_guard rfl rfl (v := us 32) (t := 41) (by rw [ha]; kernel_rfl) e32) (by rw [ha]; simp only [putAll]; go_simp) (Chg.refl _ _) rfl
      · intro us a w1 ha hR hd
        have e38 := hd 38 _ (by kernel_rfl) rfl
        have e40 := hd 40 _ (by kernel_rfl) rfl
        have e32 := hd 32 _ (by kernel_rfl) rfl
        exact StepR.pure (v := .slice (some ⟨b, o + (15 + N), none⟩) (n - (15 + N)) (c - (15 + N))) rfl (wanted_guard rfl rfl (v := us 32) (t := 41) (by rw [ha]; kernel_rfl) e32) (by rw [ha]; simp only [putAll]; go_simp) (Chg.refl _ _) rfl
      · intro us a w1 ha hR hd
        have e41 := hd 41 _ (by kernel_rfl) rfl
        have e32 := hd 32 _ (by kernel_rfl) rfl
        have hq := HN.out
        refine StepR.call (f := 48) (args := #[.slice (some ⟨b, o + (15 + N), none⟩) (n - (15 + N)) (c - (15 + N))]) rfl (wanted_guard rfl rfl (v := us 32) (t := 41) (by rw [ha]; kernel_rfl) e32) ?_ ?_
        · rw [ha]; simp only [putAll]; go_simp
        · refine (snumber_any _ _ _ (bs.drop (15 + N)) w1 ((HI.out w1 hR).drop _) HD.out (by omega) (hb.drop _)).mono ?_
          rw [nat4_drop]
          rintro e w' ⟨rfl, nq, rfl⟩
          exact ⟨_, rfl, (Chg.refl _ _).drewN nq, rfl⟩
      · intro us a w1 ha hR hd
        have e42 := hd 42 _ (by kernel_rfl) rfl
        have e32 := hd 32 _ (by kernel_rfl) rfl
        have hu := HU.out
        exact StepR.pure (v := .int .u32 (nat4 bs (15 + N))) rfl (wanted_guard rfl rfl (v := us 32) (t := 41) (by rw [ha]; kernel_rfl) e32) (by rw [ha]; simp only [putAll]; go_simp) (Chg.refl _ _) rfl
      · intro us a w1 ha hR hd
        have e37 := hd 37 _ (by kernel_rfl) rfl
        have e43 := hd 43 _ (by kernel_rfl) rfl
        have e32 := hd 32 _ (by kernel_rfl) rfl
        have hx := HX.out
        exact StepR.pure (v := .bool true) rfl (wanted_guard rfl rfl (v := us 32) (t := 41) (by rw [ha]; kernel_rfl) e32) (by rw [ha]; simp only [putAll]; go_simp) (Chg.refl _ _) rfl
      · intro us a w1 ha hR hd
        have e32 := hd 32 _ (by kernel_rfl) rfl
        have e44 := hd 44 _ (by kernel_rfl) rfl
        exact StepR.pure (v := .bool true) rfl rfl (by rw [ha]; simp only [putAll]; go_simp) (Chg.refl _ _) rfl
    case done =>
      intro us w1 hR hd
      have e45 := hd 45 _ rfl
      simp only [putAll]
      go_simp
      go_wp2_with (refine wpList_store_part (vs := zeroVs) (off := 0) rfl (.tmp 2) (.tmp 55) rfl rfl rfl (hC.drew.chg hR (fun h => h)) info_seg (by decide) (by simp [zeroVs, Value.oneCell']) ?_; intro w2 hC2 hg2 hs2; have hC3 := cel_stored rfl hC2)
      exact bodyPost_ret (v := .tuple #[zeroSeg, .bool false]) (results_cel2 rfl _ _ rfl rfl hC3 Try.underlying24 rfl info_seg (by decide) (fun j hj => getD_some hj)) rfl ⟨rfl, ((hB.drew).trans (hR.below (by exact hB.size) (fun _ _ h => h))).grown hg2 (by have := hR.size; have := hB.size; exact Nat.le_trans this (by assumption)) (fun k h => by injection h with h; omega)⟩
end Go.Proofs.Ytoeipgbnjcgbjaa
