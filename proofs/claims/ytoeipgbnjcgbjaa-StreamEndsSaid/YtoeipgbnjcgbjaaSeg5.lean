/- Walk: Parse of package stream, of bytes that are a segment. -/
import Derived.Test.YtoeipgbnjcgbjaaSeg4
import Derived.Deep.RegionHeld3
namespace Go.Proofs.Ytoeipgbnjcgbjaa
open Go.RowKit
set_option linter.unusedVariables false

theorem cell_set5 {w : World} {g b o : Nat} {v0 v1 v2 v3 v4 : Value} (h : g ≠ b) : (((((w.setCell ⟨g, 0, none⟩ v0).setCell ⟨g, 1, none⟩ v1).setCell ⟨g, 2, none⟩ v2).setCell ⟨g, 3, none⟩ v3).setCell ⟨g, 4, none⟩ v4).cell? ⟨b, o, none⟩ = w.cell? ⟨b, o, none⟩ := by
  have hh : ∀ (i : Nat) (w : World) (v : Value), (w.setCell ⟨g, i, none⟩ v).cell? ⟨b, o, none⟩ = w.cell? ⟨b, o, none⟩ := fun i w v => World.cell?_setCell_other _ _ _ _ (fun e => by injection e with e1; first | exact h e1.symm | exact h e1)
  rw [hh, hh, hh, hh, hh]
/-- What Parse leaves of bytes that are a segment. -/
def ParseYes (w : World) (bs : List Int) (e : Ending) (w' : World) : Prop :=
  ∃ A, e = .returned (.tuple #[segV (parseS bs) A (parseS bs).data.length, .bool true]) ∧ OwnS w' w.heap.size 5 1 (.slice A (parseS bs).data.length (parseS bs).data.length) (parseS bs).data.length ((parseS bs).data.map (Value.int .u8)) ∧ Below w.heap.size w w'
set_option maxRecDepth 100000 in
set_option maxHeartbeats 8000000 in
theorem parse_good (A : Option Addr) (n c N : Nat) (bs : List Int) (w : World) (hI : Ints .u8 w A bs) (hn : bs.length = n) (hN : n = N + 19) (h4 : N ≤ 400) (hb : Bytes bs) (hc : n ≤ c) (hcm : c ≤ 9223372036854775807)
    (hl : bs.getD 13 0 * 256 + bs.getD 14 0 = N) (ht1 : 1 ≤ bs.getD 0 0) (ht5 : bs.getD 0 0 ≤ 5) (hgood : crcV (bs.take (15 + N)) = nat4 bs (15 + N)) :
    Calls Try.prog 15 #[.slice A n c] w (ParseYes w bs) := by
  have HX : Hid ((crcV (bs.take (15 + N)) != nat4 bs (15 + N)) = false) := by show _ = _; simpa using hgood
  clear hgood
  have hC := cel_zero w
  have hB : Below w.heap.size w (w.alloc (.cells #[.int .i64 0, .int .i64 0, .int .i64 0, .int .i64 0, .slice none 0 0] 24)) := (Below.refl _ _).alloc (Nat.le_refl _) _
  have hbA : ∀ b o, A = some ⟨b, o, none⟩ → b < w.heap.size := fun b o hA => by
    obtain ⟨b', o', h1, h2, _⟩ := hI (by omega)
    rw [hA] at h1; injection h1 with h1; injection h1 with h1; omega
  have hIB := hI.below hB
  obtain ⟨b, o, rfl, hlt, hcell⟩ := hIB (by omega)
  have hbw := hbA b o rfl
  have x13 := hb.at_ 13 (by omega)
  have x14 := hb.at_ 14 (by omega)
  have x0 := hb.at_ 0 (by omega)
  have hn4 := nat4_ok bs (15 + N) hb (by omega)
  have HT : Hid ((bs.take (15 + N)).length = 15 + N) := by show _ = _; rw [List.length_take]; omega
  have HD : Hid ((bs.drop (15 + N)).length = n - (15 + N)) := by show _ = _; rw [List.length_drop]; omega
  have HU : Hid (IntKind.u32.wrap (nat4 bs (15 + N)) = nat4 bs (15 + N)) := by show _ = _; rw [IntKind.wrap_u32']; omega
  have l13 : (13 : Int) < n := by omega
  have l14 : (14 : Int) < n := by omega
  have l0 : (0 : Int) < n := by omega
  have hn0 : ¬ n = 0 := by omega
  have hn1 : 0 < n := by omega
  generalize hwb : w.alloc (.cells #[.int .i64 0, .int .i64 0, .int .i64 0, .int .i64 0, .slice none 0 0] 24) = wb at *
  have hcellR : ∀ w1, Chg (fun _ => False) wb.drew w1 → ∀ j, j < bs.length → w1.cell? ⟨b, o + j, none⟩ = some (.int .u8 (bs.getD j 0)) := fun w1 h j hj => (World.cell?_of_block (h.block b hlt (fun h => h))).trans (hcell j hj)
  have HI : Hid (∀ w1, Chg (fun _ => False) wb.drew w1 → Ints .u8 w1 (some ⟨b, o, none⟩) bs) := fun w1 h => (hIB.drew).chg h (fun _ _ _ h => h)
  have HK13 : Hid (∀ w1, Chg (fun _ => False) wb.drew w1 → w1.cell? ⟨b, o + 13, none⟩ = some (.int .u8 (bs.getD 13 0))) := fun w1 h => hcellR w1 h 13 (by omega)
  have HK14 : Hid (∀ w1, Chg (fun _ => False) wb.drew w1 → w1.cell? ⟨b, o + 14, none⟩ = some (.int .u8 (bs.getD 14 0))) := fun w1 h => hcellR w1 h 14 (by omega)
  have HK0 : Hid (∀ w1, Chg (fun _ => False) wb.drew w1 → w1.cell? ⟨b, o, none⟩ = some (.int .u8 (bs.getD 0 0))) := fun w1 h => by have := hcellR w1 h 0 (by omega); rwa [Nat.add_zero] at this
  clear hcell hI hcellR hbA
  have HP0 : Hid (bs.getD 0 0 = bs.getD 0 0) := rfl
  generalize bs.getD 13 0 = b13 at *
  generalize bs.getD 14 0 = b14 at *
  generalize hb0 : bs.getD 0 0 = b0 at *
  have HB0 := Lib.hid hb0
  clear hb0 HP0
  have hor := i64_num2 b13 b14 x13 x14
  have hw : IntKind.i64.wrap (b13 * 256) = b13 * 256 := IntWalk.i64_in _ (by omega)
  have hw13 : IntKind.i64.wrap b13 = b13 := IntWalk.i64_in _ (by omega)
  have hw14 : IntKind.i64.wrap b14 = b14 := IntWalk.i64_in _ (by omega)
  have dN : decide ((N : Int) < 0) = false := by simp
  have d4 : decide ((400 : Int) < (N : Int)) = false := by simp; omega
  have h1 : (b13 * 256 + b14 != (N : Int)) = false := by simpa using hl
  have h2 : decide (b0 < 1) = false := by simpa using ht1
  have h3 : decide (5 < b0) = false := by simpa using ht5
  have s1 : IntKind.i64.wrap (15 + (N : Int)) = 15 + (N : Int) := IntWalk.i64_in _ (by omega)
  have s2 : (0 : Int) ≤ 15 + (N : Int) := by omega
  have s3 : (15 + (N : Int)) ≤ c := by omega
  have s4 : (15 + (N : Int)) ≤ n := by omega
  have s5 : (15 + (N : Int)).toNat = 15 + N := by omega
  have s6 : ¬ c = 15 + N := by omega
  have HN := Lib.hid hN
  have HNb := Lib.hid hn
  have HL := Lib.hid hl
  clear hn hN hl
  have HW := Lib.hid hwb
  clear hwb
  go_enter Try.func15, Try.ntmps15
  go_upto_region 1 with (fail)
  go_cut [4] (fun v4 wx => v4 = .int .i64 (N : Int) ∧ wx = wb)
  case first =>
    go_wp2
    go_meet
    have h1 := HN.out
    have h2 := HW.out
    exact ⟨by congr 1; omega, h2⟩
  case rest =>
    obtain ⟨rfl, rfl⟩ := hcut
    go_wp2
    refine wp_region_relC (fun _ => False) (by kernel_rfl) [fun v _ => v = .int .i64 (N : Int), fun v _ => v = .bool false, fun v _ => v = .bool false, fun v _ => v = .int .i64 (N : Int), fun v _ => v = .bool false, fun v _ => v = .bool false, fun v _ => v = .bool false, fun v _ => v = .slice (some ⟨b, o, none⟩) n c, fun v _ => v = .pointer (some ⟨b, o + 13, none⟩), fun v _ => v = .int .u8 b13, fun v _ => v = .int .i64 b13, fun v _ => v = .int .i64 (b13 * 256), fun v _ => v = .slice (some ⟨b, o, none⟩) n c, fun v _ => v = .pointer (some ⟨b, o + 14, none⟩), fun v _ => v = .int .u8 b14, fun v _ => v = .int .i64 b14, fun v _ => v = .int .i64 (b13 * 256 + b14), fun v _ => v = .int .i64 (N : Int), fun v _ => v = .bool false, fun v _ => v = .bool false, fun v _ => v = .bool false, fun v _ => v = .slice (some ⟨b, o, none⟩) n c, fun v _ => v = .pointer (some ⟨b, o, none⟩), fun v _ => v = .int .u8 b0, fun v _ => v = .bool false, fun v _ => v = .bool false, fun v _ => v = .bool false, fun v _ => v = .slice (some ⟨b, o, none⟩) n c, fun v _ => v = .pointer (some ⟨b, o, none⟩), fun v _ => v = .int .u8 b0, fun v _ => v = .bool false, fun v _ => v = .bool false, fun v _ => v = .bool false, fun v _ => v = .slice (some ⟨b, o, none⟩) n c, fun v _ => v = .int .i64 (N : Int), fun v _ => v = .int .i64 (15 + (N : Int)), fun v _ => v = .slice (some ⟨b, o, none⟩) (15 + N) c, fun v _ => v = .int .u32 (crcV (bs.take (15 + N))), fun v _ => v = .slice (some ⟨b, o, none⟩) n c, fun v _ => v = .int .i64 (N : Int), fun v _ => v = .int .i64 (15 + (N : Int)), fun v _ => v = .slice (some ⟨b, o + (15 + N), none⟩) (n - (15 + N)) (c - (15 + N)), fun v _ => v = .int .i64 (nat4 bs (15 + N)), fun v _ => v = .int .u32 (nat4 bs (15 + N)), fun v _ => v = .bool false, fun v _ => v = .bool false] (allC ⟨MonoC.eq _, MonoC.eq _, MonoC.eq _, MonoC.eq _, MonoC.eq _, MonoC.eq _, MonoC.eq _, MonoC.eq _, MonoC.eq _, MonoC.eq _, MonoC.eq _, MonoC.eq _, MonoC.eq _, MonoC.eq _, MonoC.eq _, MonoC.eq _, MonoC.eq _, MonoC.eq _, MonoC.eq _, MonoC.eq _, MonoC.eq _, MonoC.eq _, MonoC.eq _, MonoC.eq _, MonoC.eq _, MonoC.eq _, MonoC.eq _, MonoC.eq _, MonoC.eq _, MonoC.eq _, MonoC.eq _, MonoC.eq _, MonoC.eq _, MonoC.eq _, MonoC.eq _, MonoC.eq _, MonoC.eq _, MonoC.eq _, MonoC.eq _, MonoC.eq _, MonoC.eq _, MonoC.eq _, MonoC.eq _, MonoC.eq _, MonoC.eq _, MonoC.eq _, trivial⟩) (by kernel_rfl) (by kernel_rfl) ?steps ?done rfl
    case steps =>
      refine ⟨?_, ?_, ?_, ?_, ?_, ?_, ?_, ?_, ?_, ?_, ?_, ?_, ?_, ?_, ?_, ?_, ?_, ?_, ?_, ?_, ?_, ?_, ?_, ?_, ?_, ?_, ?_, ?_, ?_, ?_, ?_, ?_, ?_, ?_, ?_, ?_, ?_, ?_, ?_, ?_, ?_, ?_, ?_, ?_, ?_, ?_, trivial⟩
      · intro us a w1 ha hR hd
        exact StepR.pure (v := .int .i64 (N : Int)) rfl rfl (by rw [ha]; simp only [putAll]; go_simp) (Chg.refl _ _) rfl
      · intro us a w1 ha hR hd
        have e0 := hd 0 _ (by kernel_rfl) rfl
        exact StepR.pure (v := .bool false) rfl rfl (by rw [ha]; simp only [putAll]; go_simp) (Chg.refl _ _) rfl
      · intro us a w1 ha hR hd
        have e1 := hd 1 _ (by kernel_rfl) rfl
        exact StepR.pure (v := .bool false) rfl rfl (by rw [ha]; simp only [putAll]; go_simp) (Chg.refl _ _) rfl
      · intro us a w1 ha hR hd
        have e2 := hd 2 _ (by kernel_rfl) rfl
        exact StepR.pure (v := .int .i64 (N : Int)) rfl (wanted_guard rfl rfl (v := us 2) (t := 11) (by rw [ha]; kernel_rfl) e2) (by rw [ha]; simp only [putAll]; go_simp) (Chg.refl _ _) rfl
      · intro us a w1 ha hR hd
        have e3 := hd 3 _ (by kernel_rfl) rfl
        have e2 := hd 2 _ (by kernel_rfl) rfl
        exact StepR.pure (v := .bool false) rfl (wanted_guard rfl rfl (v := us 2) (t := 11) (by rw [ha]; kernel_rfl) e2) (by rw [ha]; simp only [putAll]; go_simp) (Chg.refl _ _) rfl
      · intro us a w1 ha hR hd
        have e2 := hd 2 _ (by kernel_rfl) rfl
        have e4 := hd 4 _ (by kernel_rfl) rfl
        exact StepR.pure (v := .bool false) rfl rfl (by rw [ha]; simp only [putAll]; go_simp) (Chg.refl _ _) rfl
      · intro us a w1 ha hR hd
        have e5 := hd 5 _ (by kernel_rfl) rfl
        exact StepR.pure (v := .bool false) rfl rfl (by rw [ha]; simp only [putAll]; go_simp) (Chg.refl _ _) rfl
      · intro us a w1 ha hR hd
        have e6 := hd 6 _ (by kernel_rfl) rfl
        exact StepR.pure (v := .slice (some ⟨b, o, none⟩) n c) rfl (wanted_guard rfl rfl (v := us 6) (t := 15) (by rw [ha]; kernel_rfl) e6) (by rw [ha]; simp only [putAll]; go_simp) (Chg.refl _ _) rfl
      · intro us a w1 ha hR hd
        have e7 := hd 7 _ (by kernel_rfl) rfl
        have e6 := hd 6 _ (by kernel_rfl) rfl
        exact StepR.pure (v := .pointer (some ⟨b, o + 13, none⟩)) rfl (wanted_guard rfl rfl (v := us 6) (t := 15) (by rw [ha]; kernel_rfl) e6) (by rw [ha]; simp only [putAll]; go_simp) (Chg.refl _ _) rfl
      · intro us a w1 ha hR hd
        have e8 := hd 8 _ (by kernel_rfl) rfl
        have e6 := hd 6 _ (by kernel_rfl) rfl
        have ck := HK13.out w1 hR
        exact StepR.pure (v := .int .u8 b13) rfl (wanted_guard rfl rfl (v := us 6) (t := 15) (by rw [ha]; kernel_rfl) e6) (by rw [ha]; simp only [putAll]; go_simp) (Chg.refl _ _) rfl
      · intro us a w1 ha hR hd
        have e9 := hd 9 _ (by kernel_rfl) rfl
        have e6 := hd 6 _ (by kernel_rfl) rfl
        exact StepR.pure (v := .int .i64 b13) rfl (wanted_guard rfl rfl (v := us 6) (t := 15) (by rw [ha]; kernel_rfl) e6) (by rw [ha]; simp only [putAll]; go_simp) (Chg.refl _ _) rfl
      · intro us a w1 ha hR hd
        have e10 := hd 10 _ (by kernel_rfl) rfl
        have e6 := hd 6 _ (by kernel_rfl) rfl
        exact StepR.pure (v := .int .i64 (b13 * 256)) rfl (wanted_guard rfl rfl (v := us 6) (t := 15) (by rw [ha]; kernel_rfl) e6) (by rw [ha]; simp only [putAll]; go_simp) (Chg.refl _ _) rfl
      · intro us a w1 ha hR hd
        have e6 := hd 6 _ (by kernel_rfl) rfl
        exact StepR.pure (v := .slice (some ⟨b, o, none⟩) n c) rfl (wanted_guard rfl rfl (v := us 6) (t := 15) (by rw [ha]; kernel_rfl) e6) (by rw [ha]; simp only [putAll]; go_simp) (Chg.refl _ _) rfl
      · intro us a w1 ha hR hd
        have e12 := hd 12 _ (by kernel_rfl) rfl
        have e6 := hd 6 _ (by kernel_rfl) rfl
        exact StepR.pure (v := .pointer (some ⟨b, o + 14, none⟩)) rfl (wanted_guard rfl rfl (v := us 6) (t := 15) (by rw [ha]; kernel_rfl) e6) (by rw [ha]; simp only [putAll]; go_simp) (Chg.refl _ _) rfl
      · intro us a w1 ha hR hd
        have e13 := hd 13 _ (by kernel_rfl) rfl
        have e6 := hd 6 _ (by kernel_rfl) rfl
        have ck := HK14.out w1 hR
        exact StepR.pure (v := .int .u8 b14) rfl (wanted_guard rfl rfl (v := us 6) (t := 15) (by rw [ha]; kernel_rfl) e6) (by rw [ha]; simp only [putAll]; go_simp) (Chg.refl _ _) rfl
      · intro us a w1 ha hR hd
        have e14 := hd 14 _ (by kernel_rfl) rfl
        have e6 := hd 6 _ (by kernel_rfl) rfl
        exact StepR.pure (v := .int .i64 b14) rfl (wanted_guard rfl rfl (v := us 6) (t := 15) (by rw [ha]; kernel_rfl) e6) (by rw [ha]; simp only [putAll]; go_simp) (Chg.refl _ _) rfl
      · intro us a w1 ha hR hd
        have e11 := hd 11 _ (by kernel_rfl) rfl
        have e15 := hd 15 _ (by kernel_rfl) rfl
        have e6 := hd 6 _ (by kernel_rfl) rfl
        exact StepR.pure (v := .int .i64 (b13 * 256 + b14)) rfl (wanted_guard rfl rfl (v := us 6) (t := 15) (by rw [ha]; kernel_rfl) e6) (by rw [ha]; simp only [putAll]; go_simp) (Chg.refl _ _) rfl
      · intro us a w1 ha hR hd
        have e6 := hd 6 _ (by kernel_rfl) rfl
        exact StepR.pure (v := .int .i64 (N : Int)) rfl (wanted_guard rfl rfl (v := us 6) (t := 15) (by rw [ha]; kernel_rfl) e6) (by rw [ha]; simp only [putAll]; go_simp) (Chg.refl _ _) rfl
      · intro us a w1 ha hR hd
        have e16 := hd 16 _ (by kernel_rfl) rfl
        have e17 := hd 17 _ (by kernel_rfl) rfl
        have e6 := hd 6 _ (by kernel_rfl) rfl
        exact StepR.pure (v := .bool false) rfl (wanted_guard rfl rfl (v := us 6) (t := 15) (by rw [ha]; kernel_rfl) e6) (by rw [ha]; simp only [putAll]; go_simp) (Chg.refl _ _) rfl
      · intro us a w1 ha hR hd
        have e6 := hd 6 _ (by kernel_rfl) rfl
        have e18 := hd 18 _ (by kernel_rfl) rfl
        exact StepR.pure (v := .bool false) rfl rfl (by rw [ha]; simp only [putAll]; go_simp) (Chg.refl _ _) rfl
      · intro us a w1 ha hR hd
        have e19 := hd 19 _ (by kernel_rfl) rfl
        exact StepR.pure (v := .bool false) rfl rfl (by rw [ha]; simp only [putAll]; go_simp) (Chg.refl _ _) rfl
      · intro us a w1 ha hR hd
        have e20 := hd 20 _ (by kernel_rfl) rfl
        exact StepR.pure (v := .slice (some ⟨b, o, none⟩) n c) rfl (wanted_guard rfl rfl (v := us 20) (t := 29) (by rw [ha]; kernel_rfl) e20) (by rw [ha]; simp only [putAll]; go_simp) (Chg.refl _ _) rfl
      · intro us a w1 ha hR hd
        have e21 := hd 21 _ (by kernel_rfl) rfl
        have e20 := hd 20 _ (by kernel_rfl) rfl
        exact StepR.pure (v := .pointer (some ⟨b, o, none⟩)) rfl (wanted_guard rfl rfl (v := us 20) (t := 29) (by rw [ha]; kernel_rfl) e20) (by rw [ha]; simp only [putAll]; go_simp) (Chg.refl _ _) rfl
      · intro us a w1 ha hR hd
        have e22 := hd 22 _ (by kernel_rfl) rfl
        have e20 := hd 20 _ (by kernel_rfl) rfl
        have ck := HK0.out w1 hR
        exact StepR.pure (v := .int .u8 b0) rfl (wanted_guard rfl rfl (v := us 20) (t := 29) (by rw [ha]; kernel_rfl) e20) (by rw [ha]; simp only [putAll]; go_simp) (Chg.refl _ _) rfl
      · intro us a w1 ha hR hd
        have e23 := hd 23 _ (by kernel_rfl) rfl
        have e20 := hd 20 _ (by kernel_rfl) rfl
        exact StepR.pure (v := .bool false) rfl (wanted_guard rfl rfl (v := us 20) (t := 29) (by rw [ha]; kernel_rfl) e20) (by rw [ha]; simp only [putAll]; go_simp) (Chg.refl _ _) rfl
      · intro us a w1 ha hR hd
        have e20 := hd 20 _ (by kernel_rfl) rfl
        have e24 := hd 24 _ (by kernel_rfl) rfl
        exact StepR.pure (v := .bool false) rfl rfl (by rw [ha]; simp only [putAll]; go_simp) (Chg.refl _ _) rfl
      · intro us a w1 ha hR hd
        have e25 := hd 25 _ (by kernel_rfl) rfl
        exact StepR.pure (v := .bool false) rfl rfl (by rw [ha]; simp only [putAll]; go_simp) (Chg.refl _ _) rfl
      · intro us a w1 ha hR hd
        have e26 := hd 26 _ (by kernel_rfl) rfl
        exact StepR.pure (v := .slice (some ⟨b, o, none⟩) n c) rfl (wanted_guard rfl rfl (v := us 26) (t := 35) (by rw [ha]; kernel_rfl) e26) (by rw [ha]; simp only [putAll]; go_simp) (Chg.refl _ _) rfl
      · intro us a w1 ha hR hd
        have e27 := hd 27 _ (by kernel_rfl) rfl
        have e26 := hd 26 _ (by kernel_rfl) rfl
        exact StepR.pure (v := .pointer (some ⟨b, o, none⟩)) rfl (wanted_guard rfl rfl (v := us 26) (t := 35) (by rw [ha]; kernel_rfl) e26) (by rw [ha]; simp only [putAll]; go_simp) (Chg.refl _ _) rfl
      · intro us a w1 ha hR hd
        have e28 := hd 28 _ (by kernel_rfl) rfl
        have e26 := hd 26 _ (by kernel_rfl) rfl
        have ck := HK0.out w1 hR
        exact StepR.pure (v := .int .u8 b0) rfl (wanted_guard rfl rfl (v := us 26) (t := 35) (by rw [ha]; kernel_rfl) e26) (by rw [ha]; simp only [putAll]; go_simp) (Chg.refl _ _) rfl
      · intro us a w1 ha hR hd
        have e29 := hd 29 _ (by kernel_rfl) rfl
        have e26 := hd 26 _ (by kernel_rfl) rfl
        exact StepR.pure (v := .bool false) rfl (wanted_guard rfl rfl (v := us 26) (t := 35) (by rw [ha]; kernel_rfl) e26) (by rw [ha]; simp only [putAll]; go_simp) (Chg.refl _ _) rfl
      · intro us a w1 ha hR hd
        have e26 := hd 26 _ (by kernel_rfl) rfl
        have e30 := hd 30 _ (by kernel_rfl) rfl
        exact StepR.pure (v := .bool false) rfl rfl (by rw [ha]; simp only [putAll]; go_simp) (Chg.refl _ _) rfl
      · intro us a w1 ha hR hd
        have e31 := hd 31 _ (by kernel_rfl) rfl
        exact StepR.pure (v := .bool false) rfl rfl (by rw [ha]; simp only [putAll]; go_simp) (Chg.refl _ _) rfl
      · intro us a w1 ha hR hd
        have e32 := hd 32 _ (by kernel_rfl) rfl
        exact StepR.pure (v := .slice (some ⟨b, o, none⟩) n c) rfl (wanted_guard rfl rfl (v := us 32) (t := 41) (by rw [ha]; kernel_rfl) e32) (by rw [ha]; simp only [putAll]; go_simp) (Chg.refl _ _) rfl
      · intro us a w1 ha hR hd
        have e32 := hd 32 _ (by kernel_rfl) rfl
        exact StepR.pure (v := .int .i64 (N : Int)) rfl (wanted_guard rfl rfl (v := us 32) (t := 41) (by rw [ha]; kernel_rfl) e32) (by rw [ha]; simp only [putAll]; go_simp) (Chg.refl _ _) rfl
      · intro us a w1 ha hR hd
        have e34 := hd 34 _ (by kernel_rfl) rfl
        have e32 := hd 32 _ (by kernel_rfl) rfl
        exact StepR.pure (v := .int .i64 (15 + (N : Int))) rfl (wanted_guard rfl rfl (v := us 32) (t := 41) (by rw [ha]; kernel_rfl) e32) (by rw [ha]; simp only [putAll]; go_simp) (Chg.refl _ _) rfl
      · intro us a w1 ha hR hd
        have e33 := hd 33 _ (by kernel_rfl) rfl
        have e35 := hd 35 _ (by kernel_rfl) rfl
        have e32 := hd 32 _ (by kernel_rfl) rfl
        exact StepR.pure (v := .slice (some ⟨b, o, none⟩) (15 + N) c) rfl (wanted_guard rfl rfl (v := us 32) (t := 41) (by rw [ha]; kernel_rfl) e32) (by rw [ha]; simp only [putAll]; go_simp) (Chg.refl _ _) rfl
      · intro us a w1 ha hR hd
        have e36 := hd 36 _ (by kernel_rfl) rfl
        have e32 := hd 32 _ (by kernel_rfl) rfl
        refine StepR.call (f := 47) (args := #[.slice (some ⟨b, o, none⟩) (15 + N) c]) rfl (wanted_guard rfl rfl (v := us 32) (t := 41) (by rw [ha]; kernel_rfl) e32) ?_ ?_
        · rw [ha]; simp only [putAll]; go_simp
        · refine (crc_any _ _ c (bs.take (15 + N)) w1 ((HI.out w1 hR).take _) HT.out (hb.take _) (by omega) (crcOut_num _ (hb.take _)).1).mono ?_
          rw [(crcOut_num _ (hb.take _)).2]
          rintro e w' ⟨rfl, hbl⟩
          exact ⟨_, rfl, Chg.of_below hbl, rfl⟩
      · intro us a w1 ha hR hd
        have e32 := hd 32 _ (by kernel_rfl) rfl
        exact StepR.pure (v := .slice (some ⟨b, o, none⟩) n c) rfl (wanted_guard rfl rfl (v := us 32) (t := 41) (by rw [ha]; kernel_rfl) e32) (by rw [ha]; simp only [putAll]; go_simp) (Chg.refl _ _) rfl
      · intro us a w1 ha hR hd
        have e32 := hd 32 _ (by kernel_rfl) rfl
        exact StepR.pure (v := .int .i64 (N : Int)) rfl (wanted_guard rfl rfl (v := us 32) (t := 41) (by rw [ha]; kernel_rfl) e32) (by rw [ha]; simp only [putAll]; go_simp) (Chg.refl _ _) rfl
      · intro us a w1 ha hR hd
        have e39 := hd 39 _ (by kernel_rfl) rfl
        have e32 := hd 32 _ (by kernel_rfl) rfl
        exact StepR.pure (v := .int .i64 (15 + (N : Int))) rfl (wanted_guard rfl rfl (v := us 32) (t := 41) (by rw [ha]; kernel_rfl) e32) (by rw [ha]; simp only [putAll]; go_simp) (Chg.refl _ _) rfl
      · intro us a w1 ha hR hd
        have e38 := hd 38 _ (by kernel_rfl) rfl
        have e40 := hd 40 _ (by kernel_rfl) rfl
        have e32 := hd 32 _ (by kernel_rfl) rfl
        exact StepR.pure (v := .slice (some ⟨b, o + (15 + N), none⟩) (n - (15 + N)) (c - (15 + N))) rfl (wanted_guard rfl rfl (v := us 32) (t := 41) (by rw [ha]; kernel_rfl) e32) (by rw [ha]; simp only [putAll]; go_simp) (Chg.refl _ _) rfl
      · intro us a w1 ha hR hd
        have e41 := hd 41 _ (by kernel_rfl) rfl
        have e32 := hd 32 _ (by kernel_rfl) rfl
        have hq := HN.out
        refine StepR.call (f := 48) (args := #[.slice (some ⟨b, o + (15 + N), none⟩) (n - (15 + N)) (c - (15 + N))]) rfl (wanted_guard rfl rfl (v := us 32) (t := 41) (by rw [ha]; kernel_rfl) e32) ?_ ?_
        · rw [ha]; simp only [putAll]; go_simp
        · refine (snumber_any _ _ _ (bs.drop (15 + N)) w1 ((HI.out w1 hR).drop _) HD.out (by omega) (hb.drop _)).mono ?_
          rw [nat4_drop]
          rintro e w' ⟨rfl, nq, rfl⟩
          exact ⟨_, rfl, (Chg.refl _ _).drewN nq, rfl⟩
      · intro us a w1 ha hR hd
        have e42 := hd 42 _ (by kernel_rfl) rfl
        have e32 := hd 32 _ (by kernel_rfl) rfl
        have hu := HU.out
        exact StepR.pure (v := .int .u32 (nat4 bs (15 + N))) rfl (wanted_guard rfl rfl (v := us 32) (t := 41) (by rw [ha]; kernel_rfl) e32) (by rw [ha]; simp only [putAll]; go_simp) (Chg.refl _ _) rfl
      · intro us a w1 ha hR hd
        have e37 := hd 37 _ (by kernel_rfl) rfl
        have e43 := hd 43 _ (by kernel_rfl) rfl
        have e32 := hd 32 _ (by kernel_rfl) rfl
        have hx := HX.out
        exact StepR.pure (v := .bool false) rfl (wanted_guard rfl rfl (v := us 32) (t := 41) (by rw [ha]; kernel_rfl) e32) (by rw [ha]; simp only [putAll]; go_simp) (Chg.refl _ _) rfl
      · intro us a w1 ha hR hd
        have e32 := hd 32 _ (by kernel_rfl) rfl
        have e44 := hd 44 _ (by kernel_rfl) rfl
        exact StepR.pure (v := .bool false) rfl rfl (by rw [ha]; simp only [putAll]; go_simp) (Chg.refl _ _) rfl
    case done =>
      intro us w1 hR hd
      have e45 := hd 45 _ rfl
      simp only [putAll]
      go_simp
      have k0 := HK0.out w1 hR
      have hI1 := HI.out w1 hR
      have hC1 := hC.drew.chg hR (fun h => h)
      have hB1 := (hB.drew).trans (hR.below (by exact hB.size) (fun _ _ h => h))
      have hn' := HN.out
      have hz1 : w.heap.size < w1.heap.size := hC1.blk
      have hbl1 : b < w1.heap.size := Nat.lt_of_lt_of_le hlt hR.size
      have hIx : ∀ (k : Nat) (wx : World), wx.heap = w1.heap → Ints .u8 wx (some ⟨b, o + k, none⟩) (bs.drop k) := fun k wx h => (hI1.drop k).heap h
      have hL : ∀ k, k ≤ n → (bs.drop k).length = n - k := fun k hk => by rw [List.length_drop, HNb.out]
      have hDl : ((bs.drop 15).take N).length = N := by rw [List.length_take, hL 15 (by omega)]; omega
      have HPS : Hid (parseS bs = ⟨b0, nat4 bs 1, nat4 bs 5, nat4 bs 9, (bs.drop 15).take N⟩) := by
        show _ = _
        unfold parseS
        rw [HNb.out, hn', show N + 19 - 19 = N by omega, HB0.out]
      have s7 : (1 : Int) ≤ n := by omega
      have s8 : (1 : Int) ≤ c := by omega
      have s9 : (5 : Int) ≤ n := by omega
      have s10 : (5 : Int) ≤ c := by omega
      have s11 : (9 : Int) ≤ n := by omega
      have s12 : (9 : Int) ≤ c := by omega
      have s13 : (15 : Int) ≤ 15 + (N : Int) := by omega
      have s14 : ¬ c = 1 := by omega
      have s15 : ¬ c = 5 := by omega
      have s16 : ¬ c = 9 := by omega
      have s17 : ¬ c = 15 := by omega
      have s18 : 15 + N - 15 = N := by omega
      have q1 : 4 ≤ n - 1 := by omega
      have q5 : 4 ≤ n - 5 := by omega
      have q9 : 4 ≤ n - 9 := by omega
      have L1 := Lib.hid (hL 1 (by omega))
      have L5 := Lib.hid (hL 5 (by omega))
      have L9 := Lib.hid (hL 9 (by omega))
      have HDL := Lib.hid hDl
      have HIX := Lib.hid hIx
      have HR := Lib.hid hR
      have hbne : w.heap.size ≠ b := by omega
      have hw0 : IntKind.i64.wrap b0 = b0 := IntWalk.i64_in _ (by omega)
      have nk0 := World.new_ne w1 ⟨b, o, none⟩ k0
      clear hd hL hDl hIx hn' hR hI1 HU HT HD e45 hor hw hw13 hw14 dN d4 h1 h2 h3 hn4 HX HK13 HK14 HK0 HI hC hB hIB s1 s2 s3 s4 s5 s6

      have s1 : IntKind.i64.wrap (15 + (N : Int)) = 15 + (N : Int) := IntWalk.i64_in _ (by omega)
      have s2 : (0 : Int) ≤ 15 + (N : Int) := by omega
      have s3 : (15 + (N : Int)) ≤ c := by have := HN.out; omega
      have s5 : (15 + (N : Int)).toNat = 15 + N := by omega
      go_wp2
      go_region_held3 (fun w' => w'.cell? ⟨b, o, none⟩ = some (.int .u8 b0)) (first | (with_reducible exact hS6) | (with_reducible exact (cell_set5 hbne).trans hS6) | go_keep) (first
        | (go_at_call 48; ((with_reducible refine (snumber_any (some ⟨b, o + 1, none⟩) (n - 1) (c - 1) (bs.drop 1) _ ?_ L1.out q1 (hb.drop _)).mono ?_); (exact HIX.out 1 _ rfl); rw [nat4_drop]; rintro e w' ⟨rfl, nq, rfl⟩))
        | (go_at_call 48; ((with_reducible refine (snumber_any (some ⟨b, o + 5, none⟩) (n - 5) (c - 5) (bs.drop 5) _ ?_ L5.out q5 (hb.drop _)).mono ?_); (exact HIX.out 5 _ rfl); rw [nat4_drop]; rintro e w' ⟨rfl, nq, rfl⟩))
        | (go_at_call 48; ((with_reducible refine (snumber_any (some ⟨b, o + 9, none⟩) (n - 9) (c - 9) (bs.drop 9) _ ?_ L9.out q9 (hb.drop _)).mono ?_); (exact HIX.out 9 _ rfl); rw [nat4_drop]; rintro e w' ⟨rfl, nq, rfl⟩))
        | (go_at_call 50; ((with_reducible refine (clone_any (some ⟨b, o + 15, none⟩) N (c - 15) ((bs.drop 15).take N) _ ?_ HDL.out (by omega) (by simp)).mono ?_); (exact (HIX.out 15 _ rfl).take N); rintro e w6 ⟨A6, c6, rfl, ho6, hb6⟩; have hS6 := (hb6.cell (p := ⟨b, o, none⟩) hbl1).trans k0; have hC6 := hC1.same (hb6.block _ hz1); have g0 := hC6.cell 0 (by decide); have g1 := hC6.cell 1 (by decide); have g2 := hC6.cell 2 (by decide); have g3 := hC6.cell 3 (by decide); have g4 := hC6.cell 4 (by decide); have f0 := hC6.frozen 0; have f1 := hC6.frozen 1; have f2 := hC6.frozen 2; have f3 := hC6.frozen 3; have f4 := hC6.frozen 4))
        | (go_at_call 49; refine (clip_any A6 N c6 w6 ho6.capLe.1 ho6.capLe.2).mono ?_; rintro e w7 ⟨rfl, rfl⟩))
      have hC7 : Cel (((((w6.setCell ⟨w.heap.size, 0, none⟩ (.int .i64 b0)).setCell ⟨w.heap.size, 1, none⟩ (.int .i64 (nat4 bs 1))).setCell ⟨w.heap.size, 2, none⟩ (.int .i64 (nat4 bs 5))).setCell ⟨w.heap.size, 3, none⟩ (.int .i64 (nat4 bs 9))).setCell ⟨w.heap.size, 4, none⟩ (.slice A6 N N)) w.heap.size 24 5 (fun i => (#[Value.int .i64 b0, .int .i64 (nat4 bs 1), .int .i64 (nat4 bs 5), .int .i64 (nat4 bs 9), .slice A6 N N] : Array Value).getD i undef) := by
        refine (((((hC6.set 0 _).set 1 _).set 2 _).set 3 _).set 4 _).congr (fun i hi => ?_)
        rcases i with _ | _ | _ | _ | _ | i <;> first | rfl | omega
      have hlo : w.heap.size < w1.heap.size := hz1
      have ho7 := ((((((ho6.clip).setLow (a := ⟨w.heap.size, 0, none⟩) hlo (.int .i64 b0)).setLow (a := ⟨w.heap.size, 1, none⟩) hlo (.int .i64 (nat4 bs 1))).setLow (a := ⟨w.heap.size, 2, none⟩) hlo (.int .i64 (nat4 bs 5))).setLow (a := ⟨w.heap.size, 3, none⟩) hlo (.int .i64 (nat4 bs 9))).setLow (a := ⟨w.heap.size, 4, none⟩) hlo (.slice A6 N N)).base_ (base' := w.heap.size) (Nat.le_of_lt hlo)
      have hB7 : Below w.heap.size w (((((w6.setCell ⟨w.heap.size, 0, none⟩ (.int .i64 b0)).setCell ⟨w.heap.size, 1, none⟩ (.int .i64 (nat4 bs 1))).setCell ⟨w.heap.size, 2, none⟩ (.int .i64 (nat4 bs 5))).setCell ⟨w.heap.size, 3, none⟩ (.int .i64 (nat4 bs 9))).setCell ⟨w.heap.size, 4, none⟩ (.slice A6 N N)) :=
        (((((hB1.trans ((Below.mk hb6.os hb6.tape hb6.output hb6.size hb6.block : Below w1.heap.size w1 w6).mono (Nat.le_of_lt hlo))).setCell (Nat.le_refl _) _).setCell (Nat.le_refl _) _).setCell (Nat.le_refl _) _).setCell (Nat.le_refl _) _).setCell (Nat.le_refl _) _
      clear g0 g1 g2 g3 g4 f0 f1 f2 f3 f4 hS6 hC6 ho6 hb6
      generalize hW7 : ((((w6.setCell ⟨w.heap.size, 0, none⟩ (.int .i64 b0)).setCell ⟨w.heap.size, 1, none⟩ (.int .i64 (nat4 bs 1))).setCell ⟨w.heap.size, 2, none⟩ (.int .i64 (nat4 bs 5))).setCell ⟨w.heap.size, 3, none⟩ (.int .i64 (nat4 bs 9))).setCell ⟨w.heap.size, 4, none⟩ (.slice A6 N N) = w7 at *
      clear hW7
      go_wp2
      have hps := HPS.out
      have hdl := HDL.out
      refine bodyPost_ret (v := .tuple #[.agg #[.int .i64 b0, .int .i64 (nat4 bs 1), .int .i64 (nat4 bs 5), .int .i64 (nat4 bs 9), .slice A6 N N], .bool true]) (results_cel2 rfl _ _ rfl rfl hC7 Try.underlying24 rfl info_seg (Nat.le_refl 5) (fun j hj => getD_some hj)) rfl ?_
      refine ⟨A6, ?_, ?_, hB7⟩
      · rw [hps]; simp only [segV, hdl]
      · rw [hps]; simp only [hdl]; exact ho7
end Go.Proofs.Ytoeipgbnjcgbjaa
