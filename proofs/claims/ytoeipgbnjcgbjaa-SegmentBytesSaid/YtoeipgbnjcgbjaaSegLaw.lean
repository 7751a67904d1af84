/- The walk of SegmentBytes. -/
import Derived.Test.YtoeipgbnjcgbjaaSeg2
import Derived.Test.YtoeipgbnjcgbjaaPAll
import Derived.Test.YtoeipgbnjcgbjaaRelC
import Derived.Test.YtoeipgbnjcgbjaaStrAwk
namespace Go.Proofs.Ytoeipgbnjcgbjaa
open Go.RowKit
set_option linter.unusedVariables false

set_option maxRecDepth 100000 in
set_option maxHeartbeats 4000000 in
theorem segmentBytes_walk (s : Sg) (A0 : Option Addr) (c0 : Nat) (A1 : Option Addr) (c1 : Nat) (b : List Int) (w : World) (hI0 : Ints .u8 w A0 s.data) (hb0 : Bytes s.data) (hc0 : s.data.length ≤ c0) (hcm0 : c0 ≤ 9223372036854775807)
    (hI1 : Ints .u8 w A1 b) (hb1 : Bytes b) (hc1 : b.length ≤ c1) (hcm1 : c1 ≤ 9223372036854775807) (hsz : b.length ≤ 140737488351300) :
    Calls Try.prog 3 #[segV s A0 c0, .slice A1 b.length c1] w fun e w' => e = .returned (.bool true) ∧ Below w.heap.size w w' := by
  have hCs := cel_seg w s A0 c0
  have hBs : Below w.heap.size w (w.alloc (.cells #[.int .i64 s.t, .int .i64 s.id, .int .i64 s.seq, .int .i64 s.ack, .slice A0 s.data.length c0] 24)) := (Below.refl _ _).alloc (Nat.le_refl _) _
  obtain ⟨t, id, seq, ack, data⟩ := s
  simp only [segV] at *
  go_enter Try.func3, Try.ntmps3
  go_upto_region 1 with (fail)
  generalize (w.alloc (.cells #[.int .i64 t, .int .i64 id, .int .i64 seq, .int .i64 ack, .slice A0 data.length c0] 24)) = wa at *
  have hI0a := hI0.below hBs
  have hI1a := hI1.below hBs
  have hss := strOfNums_size' b
  have hP := parse_all A1 b.length c1 b wa hI1a rfl hb1 hc1 hcm1 (by omega)
  have hRf := fun W => refParse_all (strOfNums b) W (by rw [hss]; exact hsz)
  rw [bytesOf_str b hb1] at hRf
  generalize parseX b = X at *
  generalize parseB b = ok at *
  obtain ⟨xt, xid, xseq, xack, xdata⟩ := X
  simp only [segV] at hP hRf
  go_wp2_with fail
  refine hP.mono ?_
  rintro e wb ⟨Ax, cx, rfl, hIx, hbb⟩
  have hCx := cel_seg wb ⟨xt, xid, xseq, xack, xdata⟩ Ax cx
  have hBb : Below wb.heap.size wb (wb.alloc (.cells #[.int .i64 xt, .int .i64 xid, .int .i64 xseq, .int .i64 xack, .slice Ax xdata.length cx] 24)) := (Below.refl _ _).alloc (Nat.le_refl _) _
  simp only at hCx hIx
  go_upto_region 2 with (fail)
  clear hP
  generalize (wb.alloc (.cells #[.int .i64 xt, .int .i64 xid, .int .i64 xseq, .int .i64 xack, .slice Ax xdata.length cx] 24)) = wc at *
  have hz1 := hBs.size
  have hz2 := hbb.size
  have hz3 := hBb.size
  have hbc : Below wa.heap.size wa wc := hbb.trans (hBb.mono hz2)
  have hIxc := hIx.below hBb
  have hI1c := hI1a.below hbc
  have hI0c := hI0a.below hbc
  have hCsc := hCs.below hbc hCs.blk
  have hcv := run_str_ints (P := Try.prog) (w := wc) 22 9 5 Try.underlying22 Try.underlying5 Try.underlying9 A1 c1 b hI1c
  clear hIx hI1a hI0a hI0 hI1 hss
  go_wp2_with fail
  refine (hRf wc).mono ?_
  rintro e wd ⟨Ay, cy, rfl, hIy, hbd⟩
  have hCy := cel_seg wd ⟨xt, xid, xseq, xack, xdata⟩ Ay cy
  have hBd : Below wd.heap.size wd (wd.alloc (.cells #[.int .i64 xt, .int .i64 xid, .int .i64 xseq, .int .i64 xack, .slice Ay xdata.length cy] 24)) := (Below.refl _ _).alloc (Nat.le_refl _) _
  simp only at hCy hIy
  go_upto_region 3 with (fail)
  clear hRf hcv
  generalize (wd.alloc (.cells #[.int .i64 xt, .int .i64 xid, .int .i64 xseq, .int .i64 xack, .slice Ay xdata.length cy] 24)) = we at *
  have hz4 := hbd.size
  have hz5 := hBd.size
  have hbe : Below wc.heap.size wc we := hbd.trans (hBd.mono hz4)
  have hIxe := hIxc.below hbe
  have hIye := hIy.below hBd
  have hI0e := hI0c.below hbe
  have hCse := hCsc.below hbe hCsc.blk
  have hCxe := hCx.below hbe hCx.blk
  have hB : Below w.heap.size w we := hBs.trans ((hbc.trans (hbe.mono hbc.size)).mono hz1)
  clear hIy hI0c hCs hCsc hCx hI1c hBs hBb hBd hbb hbc hbd hbe hIxc
  have hzw := hB.size
  clear hz1 hz2 hz3 hz4 hz5
  generalize hsb : w.heap.size = sb at *
  have HSB := Lib.hid hsb
  clear hsb
  generalize wb.heap.size = xb at *
  generalize wd.heap.size = yb at *
  have hIx := hIxe
  have hIy := hIye
  have hCsd := hCse.drew
  have hCxd := hCxe.drew
  have hCyd := hCy.drew
  have sb0 : we.drew.cell? ⟨sb, 0, none⟩ = some (.int .i64 t) := hCsd.cell 0 (by decide)
  have sb1 : we.drew.cell? ⟨sb, 1, none⟩ = some (.int .i64 id) := hCsd.cell 1 (by decide)
  have sb2 : we.drew.cell? ⟨sb, 2, none⟩ = some (.int .i64 seq) := hCsd.cell 2 (by decide)
  have sb3 : we.drew.cell? ⟨sb, 3, none⟩ = some (.int .i64 ack) := hCsd.cell 3 (by decide)
  have sb4 : we.drew.cell? ⟨sb, 4, none⟩ = some (.slice A0 data.length c0) := hCsd.cell 4 (by decide)
  have xb0 : we.drew.cell? ⟨xb, 0, none⟩ = some (.int .i64 xt) := hCxd.cell 0 (by decide)
  have xb1 : we.drew.cell? ⟨xb, 1, none⟩ = some (.int .i64 xid) := hCxd.cell 1 (by decide)
  have xb2 : we.drew.cell? ⟨xb, 2, none⟩ = some (.int .i64 xseq) := hCxd.cell 2 (by decide)
  have xb3 : we.drew.cell? ⟨xb, 3, none⟩ = some (.int .i64 xack) := hCxd.cell 3 (by decide)
  have xb4 : we.drew.cell? ⟨xb, 4, none⟩ = some (.slice Ax xdata.length cx) := hCxd.cell 4 (by decide)
  have yb0 : we.drew.cell? ⟨yb, 0, none⟩ = some (.int .i64 xt) := hCyd.cell 0 (by decide)
  have yb1 : we.drew.cell? ⟨yb, 1, none⟩ = some (.int .i64 xid) := hCyd.cell 1 (by decide)
  have yb2 : we.drew.cell? ⟨yb, 2, none⟩ = some (.int .i64 xseq) := hCyd.cell 2 (by decide)
  have yb3 : we.drew.cell? ⟨yb, 3, none⟩ = some (.int .i64 xack) := hCyd.cell 3 (by decide)
  have yb4 : we.drew.cell? ⟨yb, 4, none⟩ = some (.slice Ay xdata.length cy) := hCyd.cell 4 (by decide)
  have sbl : sb < we.drew.heap.size := hCsd.blk
  have xbl : xb < we.drew.heap.size := hCxd.blk
  have ybl : yb < we.drew.heap.size := hCyd.blk
  have hI0d : Ints .u8 we.drew A0 data := hI0e
  have hSeg : ∀ w1 : World, Chg (fun _ => False) we.drew w1 → Calls Try.prog 17 #[.agg #[.int .i64 t, .int .i64 id, .int .i64 seq, .int .i64 ack, .slice A0 data.length c0]] w1 fun e w' => ∃ A c, e = .returned (.slice A (segL ⟨t, id, seq, ack, data⟩).length c) ∧ Ints .u8 w' A (segL ⟨t, id, seq, ack, data⟩) ∧ Below w1.heap.size w1 w' := by
    intro w1 hR
    refine (segment_any ⟨t, id, seq, ack, data⟩ A0 c0 w1 (hI0d.chg hR (fun _ _ _ h => h)) hb0 hc0 hcm0).mono ?_
    rintro e w' ⟨A, rfl, ho, hbl⟩
    exact ⟨A, _, rfl, ho.ints, hbl⟩
  have hSegR : ∀ w1 : World, Chg (fun _ => False) we.drew w1 → Calls Try.prog 18 #[.agg #[.int .i64 t, .int .i64 id, .int .i64 seq, .int .i64 ack, .slice A0 data.length c0]] w1 fun e w' => e = .returned (.string (strOfNums (segL ⟨t, id, seq, ack, data⟩))) ∧ Below w1.heap.size w1 w' :=
    fun w1 hR => refSegment_any ⟨t, id, seq, ack, data⟩ A0 c0 w1 (hI0d.chg hR (fun _ _ _ h => h)) hb0 hc0 hcm0
  have HSeg := Lib.hid hSeg
  have HSegR := Lib.hid hSegR
  have HB0 := Lib.hid hb0
  clear hSeg hSegR hI0d
  generalize hL : segL ⟨t, id, seq, ack, data⟩ = L at HSeg HSegR
  have HL := Lib.hid hL
  clear hL
  refine wp_region_relC (fun _ => False) (by kernel_rfl) [fun v _ => v = .agg #[.int .i64 t, .int .i64 id, .int .i64 seq, .int .i64 ack, .slice A0 data.length c0], fun v w => ∃ A c, v = .slice A (L).length c ∧ Ints .u8 w A (L) ∧ (0 < (L).length → ∀ b o, A = some ⟨b, o, none⟩ → ¬ (fun _ => False) b), fun v _ => v = .string (strOfNums L), fun v _ => v = .agg #[.int .i64 t, .int .i64 id, .int .i64 seq, .int .i64 ack, .slice A0 data.length c0], fun v _ => v = .string (strOfNums L), fun v _ => v = .bool false, fun v _ => v = .bool false, fun v _ => v = .bool ok, fun v _ => v = .bool ok, fun v _ => v = .bool false, fun v _ => v = .bool false, fun v _ => v = .bool false, fun v _ => v = .pointer (some ⟨xb, 0, none⟩), fun v _ => v = .int .i64 xt, fun v _ => v = .pointer (some ⟨yb, 0, none⟩), fun v _ => v = .int .i64 xt, fun v _ => v = .bool false, fun v _ => v = .bool false, fun v _ => v = .bool false, fun v _ => v = .pointer (some ⟨xb, 1, none⟩), fun v _ => v = .int .i64 xid, fun v _ => v = .pointer (some ⟨yb, 1, none⟩), fun v _ => v = .int .i64 xid, fun v _ => v = .bool false, fun v _ => v = .bool false, fun v _ => v = .bool false, fun v _ => v = .pointer (some ⟨xb, 2, none⟩), fun v _ => v = .int .i64 xseq, fun v _ => v = .pointer (some ⟨yb, 2, none⟩), fun v _ => v = .int .i64 xseq, fun v _ => v = .bool false, fun v _ => v = .bool false, fun v _ => v = .bool false, fun v _ => v = .pointer (some ⟨xb, 3, none⟩), fun v _ => v = .int .i64 xack, fun v _ => v = .pointer (some ⟨yb, 3, none⟩), fun v _ => v = .int .i64 xack, fun v _ => v = .bool false, fun v _ => v = .bool false, fun v _ => v = .bool false, fun v _ => v = .pointer (some ⟨xb, 4, none⟩), fun v _ => v = .slice Ax xdata.length cx, fun v _ => v = .string (strOfNums xdata), fun v _ => v = .pointer (some ⟨yb, 4, none⟩), fun v _ => v = .slice Ay xdata.length cy, fun v _ => v = .string (strOfNums xdata), fun v _ => v = .bool false, fun v _ => v = .bool false] (allC ⟨MonoC.eq _, MonoC.ints _ _ _, MonoC.eq _, MonoC.eq _, MonoC.eq _, MonoC.eq _, MonoC.eq _, MonoC.eq _, MonoC.eq _, MonoC.eq _, MonoC.eq _, MonoC.eq _, MonoC.eq _, MonoC.eq _, MonoC.eq _, MonoC.eq _, MonoC.eq _, MonoC.eq _, MonoC.eq _, MonoC.eq _, MonoC.eq _, MonoC.eq _, MonoC.eq _, MonoC.eq _, MonoC.eq _, MonoC.eq _, MonoC.eq _, MonoC.eq _, MonoC.eq _, MonoC.eq _, MonoC.eq _, MonoC.eq _, MonoC.eq _, MonoC.eq _, MonoC.eq _, MonoC.eq _, MonoC.eq _, MonoC.eq _, MonoC.eq _, MonoC.eq _, MonoC.eq _, MonoC.eq _, MonoC.eq _, MonoC.eq _, MonoC.eq _, MonoC.eq _, MonoC.eq _, MonoC.eq _, trivial⟩) (by kernel_rfl) (by kernel_rfl) ?steps ?done rfl
  case steps =>
    refine ⟨?_, ?_, ?_, ?_, ?_, ?_, ?_, ?_, ?_, ?_, ?_, ?_, ?_, ?_, ?_, ?_, ?_, ?_, ?_, ?_, ?_, ?_, ?_, ?_, ?_, ?_, ?_, ?_, ?_, ?_, ?_, ?_, ?_, ?_, ?_, ?_, ?_, ?_, ?_, ?_, ?_, ?_, ?_, ?_, ?_, ?_, ?_, ?_, trivial⟩
    · intro us a w1 ha hR hd
      have ksb0 := (World.cell?_of_block (a := ⟨sb, 0, none⟩) (hR.block sb sbl (fun h => h))).trans sb0
      have ksb1 := (World.cell?_of_block (a := ⟨sb, 1, none⟩) (hR.block sb sbl (fun h => h))).trans sb1
      have ksb2 := (World.cell?_of_block (a := ⟨sb, 2, none⟩) (hR.block sb sbl (fun h => h))).trans sb2
      have ksb3 := (World.cell?_of_block (a := ⟨sb, 3, none⟩) (hR.block sb sbl (fun h => h))).trans sb3
      have ksb4 := (World.cell?_of_block (a := ⟨sb, 4, none⟩) (hR.block sb sbl (fun h => h))).trans sb4
      exact StepR.pure (v := .agg #[.int .i64 t, .int .i64 id, .int .i64 seq, .int .i64 ack, .slice A0 data.length c0]) rfl rfl (by rw [ha]; simp only [putAll]; go_simp) (Chg.refl _ _) rfl
    · intro us a w1 ha hR hd
      have e0 := hd 0 _ (by kernel_rfl) rfl
      refine StepR.call (f := 17) (args := #[.agg #[.int .i64 t, .int .i64 id, .int .i64 seq, .int .i64 ack, .slice A0 data.length c0]]) rfl rfl ?_ ?_
      · rw [ha]; simp only [putAll]; go_simp
      · refine (HSeg.out w1 hR).mono ?_
        rintro e w' ⟨A2, c2, rfl, hi2, hbl⟩
        exact ⟨_, rfl, Chg.of_below hbl, A2, c2, rfl, hi2, fun _ _ _ _ h => h⟩
    · intro us a w1 ha hR hd
      obtain ⟨A1, c1, e1, h1, f1⟩ := hd 1 _ (by kernel_rfl) rfl
      have hcv := run_str_ints (P := Try.prog) (w := w1) 22 9 5 Try.underlying22 Try.underlying5 Try.underlying9 A1 c1 (L) h1
      exact StepR.pure (v := .string (strOfNums L)) rfl rfl (by rw [ha]; simp only [putAll]; go_simp) (Chg.refl _ _) rfl
    · intro us a w1 ha hR hd
      have ksb0 := (World.cell?_of_block (a := ⟨sb, 0, none⟩) (hR.block sb sbl (fun h => h))).trans sb0
      have ksb1 := (World.cell?_of_block (a := ⟨sb, 1, none⟩) (hR.block sb sbl (fun h => h))).trans sb1
      have ksb2 := (World.cell?_of_block (a := ⟨sb, 2, none⟩) (hR.block sb sbl (fun h => h))).trans sb2
      have ksb3 := (World.cell?_of_block (a := ⟨sb, 3, none⟩) (hR.block sb sbl (fun h => h))).trans sb3
      have ksb4 := (World.cell?_of_block (a := ⟨sb, 4, none⟩) (hR.block sb sbl (fun h => h))).trans sb4
      exact StepR.pure (v := .agg #[.int .i64 t, .int .i64 id, .int .i64 seq, .int .i64 ack, .slice A0 data.length c0]) rfl rfl (by rw [ha]; simp only [putAll]; go_simp) (Chg.refl _ _) rfl
    · intro us a w1 ha hR hd
      have e3 := hd 3 _ (by kernel_rfl) rfl
      refine StepR.call (f := 18) (args := #[.agg #[.int .i64 t, .int .i64 id, .int .i64 seq, .int .i64 ack, .slice A0 data.length c0]]) rfl rfl ?_ ?_
      · rw [ha]; simp only [putAll]; go_simp
      · refine (HSegR.out w1 hR).mono ?_
        rintro e w' ⟨rfl, hbl⟩
        exact ⟨_, rfl, Chg.of_below hbl, rfl⟩
    · intro us a w1 ha hR hd
      have e2 := hd 2 _ (by kernel_rfl) rfl
      have e4 := hd 4 _ (by kernel_rfl) rfl
      exact StepR.pure (v := .bool false) rfl rfl (by rw [ha]; simp only [putAll]; go_simp) (Chg.refl _ _) rfl
    · intro us a w1 ha hR hd
      have e5 := hd 5 _ (by kernel_rfl) rfl
      exact StepR.pure (v := .bool false) rfl rfl (by rw [ha]; simp only [putAll]; go_simp) (Chg.refl _ _) rfl
    · intro us a w1 ha hR hd
      have e6 := hd 6 _ (by kernel_rfl) rfl
      exact StepR.pure (v := .bool ok) rfl (wanted_guard rfl rfl (v := us 6) (t := 29) (by rw [ha]; kernel_rfl) e6) (by rw [ha]; simp only [putAll]; go_simp) (Chg.refl _ _) rfl
    · intro us a w1 ha hR hd
      have e6 := hd 6 _ (by kernel_rfl) rfl
      exact StepR.pure (v := .bool ok) rfl (wanted_guard rfl rfl (v := us 6) (t := 29) (by rw [ha]; kernel_rfl) e6) (by rw [ha]; simp only [putAll]; go_simp) (Chg.refl _ _) rfl
    · intro us a w1 ha hR hd
      have e7 := hd 7 _ (by kernel_rfl) rfl
      have e8 := hd 8 _ (by kernel_rfl) rfl
      have e6 := hd 6 _ (by kernel_rfl) rfl
      exact StepR.pure (v := .bool false) rfl (wanted_guard rfl rfl (v := us 6) (t := 29) (by rw [ha]; kernel_rfl) e6) (by rw [ha]; simp only [putAll]; go_simp) (Chg.refl _ _) rfl
    · intro us a w1 ha hR hd
      have e6 := hd 6 _ (by kernel_rfl) rfl
      have e9 := hd 9 _ (by kernel_rfl) rfl
      exact StepR.pure (v := .bool false) rfl rfl (by rw [ha]; simp only [putAll]; go_simp) (Chg.refl _ _) rfl
    · intro us a w1 ha hR hd
      have e10 := hd 10 _ (by kernel_rfl) rfl
      exact StepR.pure (v := .bool false) rfl rfl (by rw [ha]; simp only [putAll]; go_simp) (Chg.refl _ _) rfl
    · intro us a w1 ha hR hd
      have e11 := hd 11 _ (by kernel_rfl) rfl
      exact StepR.pure (v := .pointer (some ⟨xb, 0, none⟩)) rfl (wanted_guard rfl rfl (v := us 11) (t := 34) (by rw [ha]; kernel_rfl) e11) (by rw [ha]; simp only [putAll]; go_simp) (Chg.refl _ _) rfl
    · intro us a w1 ha hR hd
      have e12 := hd 12 _ (by kernel_rfl) rfl
      have e11 := hd 11 _ (by kernel_rfl) rfl
      have kxb0 := (World.cell?_of_block (a := ⟨xb, 0, none⟩) (hR.block xb xbl (fun h => h))).trans xb0
      exact StepR.pure (v := .int .i64 xt) rfl (wanted_guard rfl rfl (v := us 11) (t := 34) (by rw [ha]; kernel_rfl) e11) (by rw [ha]; simp only [putAll]; go_simp) (Chg.refl _ _) rfl
    · intro us a w1 ha hR hd
      have e11 := hd 11 _ (by kernel_rfl) rfl
      exact StepR.pure (v := .pointer (some ⟨yb, 0, none⟩)) rfl (wanted_guard rfl rfl (v := us 11) (t := 34) (by rw [ha]; kernel_rfl) e11) (by rw [ha]; simp only [putAll]; go_simp) (Chg.refl _ _) rfl
    · intro us a w1 ha hR hd
      have e14 := hd 14 _ (by kernel_rfl) rfl
      have e11 := hd 11 _ (by kernel_rfl) rfl
      have kyb0 := (World.cell?_of_block (a := ⟨yb, 0, none⟩) (hR.block yb ybl (fun h => h))).trans yb0
      exact StepR.pure (v := .int .i64 xt) rfl (wanted_guard rfl rfl (v := us 11) (t := 34) (by rw [ha]; kernel_rfl) e11) (by rw [ha]; simp only [putAll]; go_simp) (Chg.refl _ _) rfl
    · intro us a w1 ha hR hd
      have e13 := hd 13 _ (by kernel_rfl) rfl
      have e15 := hd 15 _ (by kernel_rfl) rfl
      have e11 := hd 11 _ (by kernel_rfl) rfl
      exact StepR.pure (v := .bool false) rfl (wanted_guard rfl rfl (v := us 11) (t := 34) (by rw [ha]; kernel_rfl) e11) (by rw [ha]; simp only [putAll]; go_simp) (Chg.refl _ _) rfl
    · intro us a w1 ha hR hd
      have e11 := hd 11 _ (by kernel_rfl) rfl
      have e16 := hd 16 _ (by kernel_rfl) rfl
      exact StepR.pure (v := .bool false) rfl rfl (by rw [ha]; simp only [putAll]; go_simp) (Chg.refl _ _) rfl
    · intro us a w1 ha hR hd
      have e17 := hd 17 _ (by kernel_rfl) rfl
      exact StepR.pure (v := .bool false) rfl rfl (by rw [ha]; simp only [putAll]; go_simp) (Chg.refl _ _) rfl
    · intro us a w1 ha hR hd
      have e18 := hd 18 _ (by kernel_rfl) rfl
      exact StepR.pure (v := .pointer (some ⟨xb, 1, none⟩)) rfl (wanted_guard rfl rfl (v := us 18) (t := 41) (by rw [ha]; kernel_rfl) e18) (by rw [ha]; simp only [putAll]; go_simp) (Chg.refl _ _) rfl
    · intro us a w1 ha hR hd
      have e19 := hd 19 _ (by kernel_rfl) rfl
      have e18 := hd 18 _ (by kernel_rfl) rfl
      have kxb1 := (World.cell?_of_block (a := ⟨xb, 1, none⟩) (hR.block xb xbl (fun h => h))).trans xb1
      exact StepR.pure (v := .int .i64 xid) rfl (wanted_guard rfl rfl (v := us 18) (t := 41) (by rw [ha]; kernel_rfl) e18) (by rw [ha]; simp only [putAll]; go_simp) (Chg.refl _ _) rfl
    · intro us a w1 ha hR hd
      have e18 := hd 18 _ (by kernel_rfl) rfl
      exact StepR.pure (v := .pointer (some ⟨yb, 1, none⟩)) rfl (wanted_guard rfl rfl (v := us 18) (t := 41) (by rw [ha]; kernel_rfl) e18) (by rw [ha]; simp only [putAll]; go_simp) (Chg.refl _ _) rfl
    · intro us a w1 ha hR hd
      have e21 := hd 21 _ (by kernel_rfl) rfl
      have e18 := hd 18 _ (by kernel_rfl) rfl
      have kyb1 := (World.cell?_of_block (a := ⟨yb, 1, none⟩) (hR.block yb ybl (fun h => h))).trans yb1
      exact StepR.pure (v := .int .i64 xid) rfl (wanted_guard rfl rfl (v := us 18) (t := 41) (by rw [ha]; kernel_rfl) e18) (by rw [ha]; simp only [putAll]; go_simp) (Chg.refl _ _) rfl
    · intro us a w1 ha hR hd
      have e20 := hd 20 _ (by kernel_rfl) rfl
      have e22 := hd 22 _ (by kernel_rfl) rfl
      have e18 := hd 18 _ (by kernel_rfl) rfl
      exact StepR.pure (v := .bool false) rfl (wanted_guard rfl rfl (v := us 18) (t := 41) (by rw [ha]; kernel_rfl) e18) (by rw [ha]; simp only [putAll]; go_simp) (Chg.refl _ _) rfl
    · intro us a w1 ha hR hd
      have e18 := hd 18 _ (by kernel_rfl) rfl
      have e23 := hd 23 _ (by kernel_rfl) rfl
      exact StepR.pure (v := .bool false) rfl rfl (by rw [ha]; simp only [putAll]; go_simp) (Chg.refl _ _) rfl
    · intro us a w1 ha hR hd
      have e24 := hd 24 _ (by kernel_rfl) rfl
      exact StepR.pure (v := .bool false) rfl rfl (by rw [ha]; simp only [putAll]; go_simp) (Chg.refl _ _) rfl
    · intro us a w1 ha hR hd
      have e25 := hd 25 _ (by kernel_rfl) rfl
      exact StepR.pure (v := .pointer (some ⟨xb, 2, none⟩)) rfl (wanted_guard rfl rfl (v := us 25) (t := 48) (by rw [ha]; kernel_rfl) e25) (by rw [ha]; simp only [putAll]; go_simp) (Chg.refl _ _) rfl
    · intro us a w1 ha hR hd
      have e26 := hd 26 _ (by kernel_rfl) rfl
      have e25 := hd 25 _ (by kernel_rfl) rfl
      have kxb2 := (World.cell?_of_block (a := ⟨xb, 2, none⟩) (hR.block xb xbl (fun h => h))).trans xb2
      exact StepR.pure (v := .int .i64 xseq) rfl (wanted_guard rfl rfl (v := us 25) (t := 48) (by rw [ha]; kernel_rfl) e25) (by rw [ha]; simp only [putAll]; go_simp) (Chg.refl _ _) rfl
    · intro us a w1 ha hR hd
      have e25 := hd 25 _ (by kernel_rfl) rfl
      exact StepR.pure (v := .pointer (some ⟨yb, 2, none⟩)) rfl (wanted_guard rfl rfl (v := us 25) (t := 48) (by rw [ha]; kernel_rfl) e25) (by rw [ha]; simp only [putAll]; go_simp) (Chg.refl _ _) rfl
    · intro us a w1 ha hR hd
      have e28 := hd 28 _ (by kernel_rfl) rfl
      have e25 := hd 25 _ (by kernel_rfl) rfl
      have kyb2 := (World.cell?_of_block (a := ⟨yb, 2, none⟩) (hR.block yb ybl (fun h => h))).trans yb2
      exact StepR.pure (v := .int .i64 xseq) rfl (wanted_guard rfl rfl (v := us 25) (t := 48) (by rw [ha]; kernel_rfl) e25) (by rw [ha]; simp only [putAll]; go_simp) (Chg.refl _ _) rfl
    · intro us a w1 ha hR hd
      have e27 := hd 27 _ (by kernel_rfl) rfl
      have e29 := hd 29 _ (by kernel_rfl) rfl
      have e25 := hd 25 _ (by kernel_rfl) rfl
      exact StepR.pure (v := .bool false) rfl (wanted_guard rfl rfl (v := us 25) (t := 48) (by rw [ha]; kernel_rfl) e25) (by rw [ha]; simp only [putAll]; go_simp) (Chg.refl _ _) rfl
    · intro us a w1 ha hR hd
      have e25 := hd 25 _ (by kernel_rfl) rfl
      have e30 := hd 30 _ (by kernel_rfl) rfl
      exact StepR.pure (v := .bool false) rfl rfl (by rw [ha]; simp only [putAll]; go_simp) (Chg.refl _ _) rfl
    · intro us a w1 ha hR hd
      have e31 := hd 31 _ (by kernel_rfl) rfl
      exact StepR.pure (v := .bool false) rfl rfl (by rw [ha]; simp only [putAll]; go_simp) (Chg.refl _ _) rfl
    · intro us a w1 ha hR hd
      have e32 := hd 32 _ (by kernel_rfl) rfl
      exact StepR.pure (v := .pointer (some ⟨xb, 3, none⟩)) rfl (wanted_guard rfl rfl (v := us 32) (t := 55) (by rw [ha]; kernel_rfl) e32) (by rw [ha]; simp only [putAll]; go_simp) (Chg.refl _ _) rfl
    · intro us a w1 ha hR hd
      have e33 := hd 33 _ (by kernel_rfl) rfl
      have e32 := hd 32 _ (by kernel_rfl) rfl
      have kxb3 := (World.cell?_of_block (a := ⟨xb, 3, none⟩) (hR.block xb xbl (fun h => h))).trans xb3
      exact StepR.pure (v := .int .i64 xack) rfl (wanted_guard rfl rfl (v := us 32) (t := 55) (by rw [ha]; kernel_rfl) e32) (by rw [ha]; simp only [putAll]; go_simp) (Chg.refl _ _) rfl
    · intro us a w1 ha hR hd
      have e32 := hd 32 _ (by kernel_rfl) rfl
      exact StepR.pure (v := .pointer (some ⟨yb, 3, none⟩)) rfl (wanted_guard rfl rfl (v := us 32) (t := 55) (by rw [ha]; kernel_rfl) e32) (by rw [ha]; simp only [putAll]; go_simp) (Chg.refl _ _) rfl
    · intro us a w1 ha hR hd
      have e35 := hd 35 _ (by kernel_rfl) rfl
      have e32 := hd 32 _ (by kernel_rfl) rfl
      have kyb3 := (World.cell?_of_block (a := ⟨yb, 3, none⟩) (hR.block yb ybl (fun h => h))).trans yb3
      exact StepR.pure (v := .int .i64 xack) rfl (wanted_guard rfl rfl (v := us 32) (t := 55) (by rw [ha]; kernel_rfl) e32) (by rw [ha]; simp only [putAll]; go_simp) (Chg.refl _ _) rfl
    · intro us a w1 ha hR hd
      have e34 := hd 34 _ (by kernel_rfl) rfl
      have e36 := hd 36 _ (by kernel_rfl) rfl
      have e32 := hd 32 _ (by kernel_rfl) rfl
      exact StepR.pure (v := .bool false) rfl (wanted_guard rfl rfl (v := us 32) (t := 55) (by rw [ha]; kernel_rfl) e32) (by rw [ha]; simp only [putAll]; go_simp) (Chg.refl _ _) rfl
    · intro us a w1 ha hR hd
      have e32 := hd 32 _ (by kernel_rfl) rfl
      have e37 := hd 37 _ (by kernel_rfl) rfl
      exact StepR.pure (v := .bool false) rfl rfl (by rw [ha]; simp only [putAll]; go_simp) (Chg.refl _ _) rfl
    · intro us a w1 ha hR hd
      have e38 := hd 38 _ (by kernel_rfl) rfl
      exact StepR.pure (v := .bool false) rfl rfl (by rw [ha]; simp only [putAll]; go_simp) (Chg.refl _ _) rfl
    · intro us a w1 ha hR hd
      have e39 := hd 39 _ (by kernel_rfl) rfl
      exact StepR.pure (v := .pointer (some ⟨xb, 4, none⟩)) rfl (wanted_guard rfl rfl (v := us 39) (t := 62) (by rw [ha]; kernel_rfl) e39) (by rw [ha]; simp only [putAll]; go_simp) (Chg.refl _ _) rfl
    · intro us a w1 ha hR hd
      have e40 := hd 40 _ (by kernel_rfl) rfl
      have e39 := hd 39 _ (by kernel_rfl) rfl
      have kxb4 := (World.cell?_of_block (a := ⟨xb, 4, none⟩) (hR.block xb xbl (fun h => h))).trans xb4
      exact StepR.pure (v := .slice Ax xdata.length cx) rfl (wanted_guard rfl rfl (v := us 39) (t := 62) (by rw [ha]; kernel_rfl) e39) (by rw [ha]; simp only [putAll]; go_simp) (Chg.refl _ _) rfl
    · intro us a w1 ha hR hd
      have e41 := hd 41 _ (by kernel_rfl) rfl
      have e39 := hd 39 _ (by kernel_rfl) rfl
      have hcv := run_str_ints (P := Try.prog) (w := w1) 22 9 5 Try.underlying22 Try.underlying5 Try.underlying9 Ax cx (xdata) (hIx.drew.chg hR (fun _ _ _ h => h))
      exact StepR.pure (v := .string (strOfNums xdata)) rfl (wanted_guard rfl rfl (v := us 39) (t := 62) (by rw [ha]; kernel_rfl) e39) (by rw [ha]; simp only [putAll]; go_simp) (Chg.refl _ _) rfl
    · intro us a w1 ha hR hd
      have e39 := hd 39 _ (by kernel_rfl) rfl
      exact StepR.pure (v := .pointer (some ⟨yb, 4, none⟩)) rfl (wanted_guard rfl rfl (v := us 39) (t := 62) (by rw [ha]; kernel_rfl) e39) (by rw [ha]; simp only [putAll]; go_simp) (Chg.refl _ _) rfl
    · intro us a w1 ha hR hd
      have e43 := hd 43 _ (by kernel_rfl) rfl
      have e39 := hd 39 _ (by kernel_rfl) rfl
      have kyb4 := (World.cell?_of_block (a := ⟨yb, 4, none⟩) (hR.block yb ybl (fun h => h))).trans yb4
      exact StepR.pure (v := .slice Ay xdata.length cy) rfl (wanted_guard rfl rfl (v := us 39) (t := 62) (by rw [ha]; kernel_rfl) e39) (by rw [ha]; simp only [putAll]; go_simp) (Chg.refl _ _) rfl
    · intro us a w1 ha hR hd
      have e44 := hd 44 _ (by kernel_rfl) rfl
      have e39 := hd 39 _ (by kernel_rfl) rfl
      have hcv := run_str_ints (P := Try.prog) (w := w1) 22 9 5 Try.underlying22 Try.underlying5 Try.underlying9 Ay cy (xdata) (hIy.drew.chg hR (fun _ _ _ h => h))
      exact StepR.pure (v := .string (strOfNums xdata)) rfl (wanted_guard rfl rfl (v := us 39) (t := 62) (by rw [ha]; kernel_rfl) e39) (by rw [ha]; simp only [putAll]; go_simp) (Chg.refl _ _) rfl
    · intro us a w1 ha hR hd
      have e42 := hd 42 _ (by kernel_rfl) rfl
      have e45 := hd 45 _ (by kernel_rfl) rfl
      have e39 := hd 39 _ (by kernel_rfl) rfl
      exact StepR.pure (v := .bool false) rfl (wanted_guard rfl rfl (v := us 39) (t := 62) (by rw [ha]; kernel_rfl) e39) (by rw [ha]; simp only [putAll]; go_simp) (Chg.refl _ _) rfl
    · intro us a w1 ha hR hd
      have e39 := hd 39 _ (by kernel_rfl) rfl
      have e46 := hd 46 _ (by kernel_rfl) rfl
      exact StepR.pure (v := .bool false) rfl rfl (by rw [ha]; simp only [putAll]; go_simp) (Chg.refl _ _) rfl
  case done =>
    intro us w1 hR hd
    have e47 := hd 47 _ rfl
    have hcc := (Chg.refl (fun _ => False) we).drew.trans hR (fun _ _ h => h)
    clear hd hR HSeg HSegR sb0 sb1 sb2 sb3 sb4 xb0 xb1 xb2 xb3 xb4 yb0 yb1 yb2 yb3 yb4 sbl xbl ybl hIx hIy hCsd hCxd hCyd hIxe hIye hCxe hCy
    have hCs := hCse.chg hcc (fun h => h)
    have hI0 := hI0e.chg hcc (fun _ _ _ h => h)
    have hB2 : Below sb w w1 := hB.trans (hcc.below hzw (fun _ _ h => h))
    clear hCse hI0e hB hcc hzw
    have hzw := hB2.size
    have g0 : w1.cell? ⟨sb, 0, none⟩ = some (.int .i64 t) := hCs.cell 0 (by decide)
    have g1 : w1.cell? ⟨sb, 1, none⟩ = some (.int .i64 id) := hCs.cell 1 (by decide)
    have g2 : w1.cell? ⟨sb, 2, none⟩ = some (.int .i64 seq) := hCs.cell 2 (by decide)
    have g3 : w1.cell? ⟨sb, 3, none⟩ = some (.int .i64 ack) := hCs.cell 3 (by decide)
    have g4 : w1.cell? ⟨sb, 4, none⟩ = some (.slice A0 data.length c0) := hCs.cell 4 (by decide)
    simp only [putAll]
    go_simp
    go_wp2_with fail
    refine (segment_any ⟨t, id, seq, ack, data⟩ A0 c0 w1 hI0 hb0 hc0 hcm0).mono ?_
    rintro e w2 ⟨As, rfl, hos, hbs⟩
    have hLb := segL_ok ⟨t, id, seq, ack, data⟩ hb0
    have hLl : (segL ⟨t, id, seq, ack, data⟩).length ≤ 419 := by
      have h1 := segL_len ⟨t, id, seq, ack, data⟩
      have h2 : (data.take 400).length ≤ 400 := List.length_take_le _ _
      simp only at h1; omega
    have hP := parse_all As _ _ (segL ⟨t, id, seq, ack, data⟩) w2 hos.ints rfl hLb (Nat.le_refl _) (by omega) (by omega)
    have hG : Hid (goodSg ⟨t, id, seq, ack, data⟩ → parseB (segL ⟨t, id, seq, ack, data⟩) = true ∧ parseX (segL ⟨t, id, seq, ack, data⟩) = ⟨t, id, seq, ack, data⟩) := by
      intro hg
      have h := parse_seg _ hg hb0
      exact ⟨h.1, by unfold parseX; rw [if_pos h.1, h.2]⟩
    generalize parseX (segL ⟨t, id, seq, ack, data⟩) = Z at *
    generalize parseB (segL ⟨t, id, seq, ack, data⟩) = zok at *
    obtain ⟨zt, zid, zseq, zack, zdata⟩ := Z
    simp only [segV] at hP
    clear hLb hLl
    go_wp2_with fail
    refine hP.mono ?_
    rintro e w3 ⟨Az, cz, rfl, hIz, hbz⟩
    try simp only at hIz
    have hCz := cel_seg w3 ⟨zt, zid, zseq, zack, zdata⟩ Az cz
    have hBz : Below w3.heap.size w3 (w3.alloc (.cells #[.int .i64 zt, .int .i64 zid, .int .i64 zseq, .int .i64 zack, .slice Az zdata.length cz] 24)) := (Below.refl _ _).alloc (Nat.le_refl _) _
    have hIz4 := hIz.below hBz
    have hB14 := hbs.trans ((hbz.trans (hBz.mono hbz.size)).mono hbs.size)
    try simp only at hCz
    go_upto_region 6 with (fail)
    generalize (w3.alloc (.cells #[.int .i64 zt, .int .i64 zid, .int .i64 zseq, .int .i64 zack, .slice Az zdata.length cz] 24)) = w4 at *
    have hCs4 := hCs.below hB14 hCs.blk
    have hI04 := hI0.below hB14
    have hB4 := hB2.trans (hB14.mono (by rw [← HSB.out]; exact hzw))
    clear hP hos hbs hbz hBz hIz hB14 hCs hI0 hB2 g0 g1 g2 g3 g4
    have hz4 : w.heap.size ≤ w4.heap.size := by rw [HSB.out]; exact Nat.le_of_lt hCs4.blk
    have hB4 : Below w.heap.size w w4 := by rw [HSB.out]; exact hB4
    clear hzw
    generalize w3.heap.size = zb at *
    have g0 : w4.cell? ⟨sb, 0, none⟩ = some (.int .i64 t) := hCs4.cell 0 (by decide)
    have g1 : w4.cell? ⟨sb, 1, none⟩ = some (.int .i64 id) := hCs4.cell 1 (by decide)
    have g2 : w4.cell? ⟨sb, 2, none⟩ = some (.int .i64 seq) := hCs4.cell 2 (by decide)
    have g3 : w4.cell? ⟨sb, 3, none⟩ = some (.int .i64 ack) := hCs4.cell 3 (by decide)
    have g4 : w4.cell? ⟨sb, 4, none⟩ = some (.slice A0 data.length c0) := hCs4.cell 4 (by decide)
    have m0 : w4.cell? ⟨zb, 0, none⟩ = some (.int .i64 zt) := hCz.cell 0 (by decide)
    have m1 : w4.cell? ⟨zb, 1, none⟩ = some (.int .i64 zid) := hCz.cell 1 (by decide)
    have m2 : w4.cell? ⟨zb, 2, none⟩ = some (.int .i64 zseq) := hCz.cell 2 (by decide)
    have m3 : w4.cell? ⟨zb, 3, none⟩ = some (.int .i64 zack) := hCz.cell 3 (by decide)
    have m4 : w4.cell? ⟨zb, 4, none⟩ = some (.slice Az zdata.length cz) := hCz.cell 4 (by decide)
    clear hCs4 hCz
    by_cases hg : goodSg ⟨t, id, seq, ack, data⟩
    · obtain ⟨rfl, hz⟩ := hG.out hg
      injection hz with e1 e2 e3 e4 e5
      replace e1 := e1.symm; replace e2 := e2.symm; replace e3 := e3.symm; replace e4 := e4.symm; replace e5 := e5.symm; subst e1; subst e2; subst e3; subst e4; subst e5
      have hcv1 := run_str_ints (P := Try.prog) (w := w4) 22 9 5 Try.underlying22 Try.underlying5 Try.underlying9 A0 c0 _ hI04
      have hcv2 := run_str_ints (P := Try.prog) (w := w4) 22 9 5 Try.underlying22 Try.underlying5 Try.underlying9 Az cz _ hIz4
      obtain ⟨q1, q2, ⟨q3, q4⟩, ⟨q5, q6⟩, ⟨q7, q8⟩, q9⟩ := hg
      simp only at q1 q2 q3 q4 q5 q6 q7 q8 q9
      have d0 : decide (1 ≤ t) = true := decide_eq_true (by omega)
      have d1 : decide (t ≤ 5) = true := decide_eq_true (by omega)
      have d2 : decide (0 ≤ id) = true := decide_eq_true (by omega)
      have d3 : decide (id < 4294967296) = true := decide_eq_true (by omega)
      have d4 : decide (0 ≤ seq) = true := decide_eq_true (by omega)
      have d5 : decide (seq < 4294967296) = true := decide_eq_true (by omega)
      have d6 : decide (0 ≤ ack) = true := decide_eq_true (by omega)
      have d7 : decide (ack < 4294967296) = true := decide_eq_true (by omega)
      have d8 : decide ((data.length : Int) ≤ 400) = true := decide_eq_true (by omega)
      clear hG q1 q2 q3 q4 q5 q6 q7 q8 q9 hI04 hIz4
      go_wp2_with (go_at_call 19; refine (awake18_any w4).mono ?_; rintro e w5 ⟨rfl, hb5⟩)
      go_ret
      exact ⟨rfl, hB4.trans (hb5.mono hz4)⟩
    · clear hG hI04 hIz4 m0 m1 m2 m3 m4
      by_cases q0 : 1 ≤ t
      case neg =>
        have d0 : decide (1 ≤ t) = false := decide_eq_false q0
        clear q0 hg
        go_wp2_with (go_at_call 19; refine (awake18_any w4).mono ?_; rintro e w5 ⟨rfl, hb5⟩)
        go_ret
        exact ⟨rfl, hB4.trans (hb5.mono hz4)⟩
      have d0 : decide (1 ≤ t) = true := decide_eq_true q0
      by_cases q1 : t ≤ 5
      case neg =>
        have d1 : decide (t ≤ 5) = false := decide_eq_false q1
        clear q1 hg
        go_wp2_with (go_at_call 19; refine (awake18_any w4).mono ?_; rintro e w5 ⟨rfl, hb5⟩)
        go_ret
        exact ⟨rfl, hB4.trans (hb5.mono hz4)⟩
      have d1 : decide (t ≤ 5) = true := decide_eq_true q1
      by_cases q2 : 0 ≤ id
      case neg =>
        have d2 : decide (0 ≤ id) = false := decide_eq_false q2
        clear q2 hg
        go_wp2_with (go_at_call 19; refine (awake18_any w4).mono ?_; rintro e w5 ⟨rfl, hb5⟩)
        go_ret
        exact ⟨rfl, hB4.trans (hb5.mono hz4)⟩
      have d2 : decide (0 ≤ id) = true := decide_eq_true q2
      by_cases q3 : id < 4294967296
      case neg =>
        have d3 : decide (id < 4294967296) = false := decide_eq_false q3
        clear q3 hg
        go_wp2_with (go_at_call 19; refine (awake18_any w4).mono ?_; rintro e w5 ⟨rfl, hb5⟩)
        go_ret
        exact ⟨rfl, hB4.trans (hb5.mono hz4)⟩
      have d3 : decide (id < 4294967296) = true := decide_eq_true q3
      by_cases q4 : 0 ≤ seq
      case neg =>
        have d4 : decide (0 ≤ seq) = false := decide_eq_false q4
        clear q4 hg
        go_wp2_with (go_at_call 19; refine (awake18_any w4).mono ?_; rintro e w5 ⟨rfl, hb5⟩)
        go_ret
        exact ⟨rfl, hB4.trans (hb5.mono hz4)⟩
      have d4 : decide (0 ≤ seq) = true := decide_eq_true q4
      by_cases q5 : seq < 4294967296
      case neg =>
        have d5 : decide (seq < 4294967296) = false := decide_eq_false q5
        clear q5 hg
        go_wp2_with (go_at_call 19; refine (awake18_any w4).mono ?_; rintro e w5 ⟨rfl, hb5⟩)
        go_ret
        exact ⟨rfl, hB4.trans (hb5.mono hz4)⟩
      have d5 : decide (seq < 4294967296) = true := decide_eq_true q5
      by_cases q6 : 0 ≤ ack
      case neg =>
        have d6 : decide (0 ≤ ack) = false := decide_eq_false q6
        clear q6 hg
        go_wp2_with (go_at_call 19; refine (awake18_any w4).mono ?_; rintro e w5 ⟨rfl, hb5⟩)
        go_ret
        exact ⟨rfl, hB4.trans (hb5.mono hz4)⟩
      have d6 : decide (0 ≤ ack) = true := decide_eq_true q6
      by_cases q7 : ack < 4294967296
      case neg =>
        have d7 : decide (ack < 4294967296) = false := decide_eq_false q7
        clear q7 hg
        go_wp2_with (go_at_call 19; refine (awake18_any w4).mono ?_; rintro e w5 ⟨rfl, hb5⟩)
        go_ret
        exact ⟨rfl, hB4.trans (hb5.mono hz4)⟩
      have d7 : decide (ack < 4294967296) = true := decide_eq_true q7
      by_cases q8 : (data.length : Int) ≤ 400
      case neg =>
        have d8 : decide ((data.length : Int) ≤ 400) = false := decide_eq_false q8
        clear q8 hg
        go_wp2_with (go_at_call 19; refine (awake18_any w4).mono ?_; rintro e w5 ⟨rfl, hb5⟩)
        go_ret
        exact ⟨rfl, hB4.trans (hb5.mono hz4)⟩
      have d8 : decide ((data.length : Int) ≤ 400) = true := decide_eq_true q8
      exact absurd ⟨q0, q1, ⟨q2, q3⟩, ⟨q4, q5⟩, ⟨q6, q7⟩, by simp only []; omega⟩ hg
end Go.Proofs.Ytoeipgbnjcgbjaa
