/- The walk of FsRenames. -/
import Derived.Test.YtmoaabjiokjjlaaFsU
namespace Go.Proofs.Ytmoaabjiokjjlaa
open Go.RowKit Go.Maps
set_option linter.unusedVariables false
set_option linter.unusedSimpArgs false

theorem str_ne {a b : ByteArray} (h : a ≠ b) : (a.toList == b.toList) = false := by
  rw [beq_eq_false_iff_ne, Lib.toList_data, Lib.toList_data]
  exact fun e => h (by rw [← bkN_of a, e, bkN_of])
set_option maxRecDepth 100000 in
set_option maxHeartbeats 8000000 in
theorem fsRenames_walk (A : Option Addr) (c : Nat) (xs : List Int) (B : Option Addr) (d : Nat) (ys : List Int) (fuse names : Int) (G : Option Addr) (cG : Nat) (zs : List Int) (w : World)
    (hI : Ints .u8 w A xs) (hxl : xs.length ≤ 9223372036854775807) (hJ : Ints .u8 w B ys) (hyl : ys.length ≤ 9223372036854775807) (hfu : (Lit.int .i64 fuse).wf = true) (hK : Ints .i64 w G zs) (hzl : zs.length ≤ 9223372036854775807)
    (hsm : xs.length + ys.length ≤ 9223372036854775807) :
    Calls Try.prog 5 #[.slice A xs.length c, .slice B ys.length d, .int .i64 fuse, .int .i64 names, .slice G zs.length cG] w fun e w' => e = .returned (.bool true) ∧ Below w.heap.size w w' := by
  have HN := Lib.hid (new_in w 1048576 (by omega))
  have HXI := Lib.hid hI
  have HYI := Lib.hid hJ
  have HZI := Lib.hid hK
  have HZL := Lib.hid hzl
  have HX0 := Lib.hid (fun hl b o e => Ints.lt0 hI hl b o e)
  have HY0 := Lib.hid (fun hl b o e => Ints.lt0 hJ hl b o e)
  have HZ0 := Lib.hid (fun hl b o e => Ints.lt0 hK hl b o e)
  have hful : fuse ≤ 9223372036854775807 := by
    simp [Lit.wf, IntKind.min, IntKind.max, IntKind.bits, IntKind.signed] at hfu
    omega
  have HFU := Lib.hid hful
  clear hI hJ hK hzl hfu hful
  unfold ptrV at HN
  go_enter Try.func5, Try.ntmps5
  go_upto_region 2 with (go_at_call 9; refine HN.out.mono ?_; rintro e w1 ⟨p, rfl, h1, hb1⟩; have HA0 := Lib.hid h1; have HB0 := Lib.hid hb1; clear h1 hb1)
  have hba : Below w1.heap.size w1 (w1.alloc (.cells #[.pointer (some ⟨p, 0, none⟩)] 23)) := (Below.refl _ _).alloc (Nat.le_refl _) _
  have hcl : Cel (w1.alloc (.cells #[.pointer (some ⟨p, 0, none⟩)] 23)) w1.heap.size 23 1 (fun _ => ptrV p) := Cel.new w1 _ #[.pointer (some ⟨p, 0, none⟩)] _ (fun i hi => by
    have : i = 0 := by simp at hi; omega
    subst this; rfl)
  have HA1 : Hid (FsIn (fun k => w.heap.size ≤ k ∧ k ≠ w1.heap.size) p (w1.alloc (.cells #[.pointer (some ⟨p, 0, none⟩)] 23)) (newF 1048576)) := Lib.hid ((HA0.out.bound.below hba).mono (fun k hk => ⟨hk.1, by omega⟩))
  have HB1 : Hid (Below w.heap.size w (w1.alloc (.cells #[.pointer (some ⟨p, 0, none⟩)] 23))) := Lib.hid (HB0.out.trans (hba.mono HB0.out.size))
  have HCE := Lib.hid hcl
  have HG1 : Hid (w1.heap.size < (w1.alloc (.cells #[.pointer (some ⟨p, 0, none⟩)] 23)).heap.size) := Lib.hid (by simp)
  clear hba hcl HN HA0 HB0
  generalize w1.alloc (.cells #[.pointer (some ⟨p, 0, none⟩)] 23) = w2 at *
  generalize w1.heap.size = fc at *
  have k0 : w2.cell? ⟨fc, 0, none⟩ = some (.pointer (some ⟨p, 0, none⟩)) := HCE.out.cell 0 (by decide)
  generalize hxn : xs.length = xn at *
  generalize hyn : ys.length = yn at *
  have HXN := Lib.hid hxn
  have HYN := Lib.hid hyn
  have hadd : IntKind.i64.wrap ((xn : Int) + (yn : Int)) = (xn : Int) + yn := IntWalk.i64_in _ (by omega)
  clear hxn hyn
  by_cases hbig : 100000 < xn + yn
  · have d1 : decide ((xn : Int) + yn > 100000) = true := decide_eq_true (by omega)
    have d1' : decide (100000 < (xn : Int) + yn) = true := decide_eq_true (by omega)
    clear hbig
    go_wp2_with (go_at_call 15; refine (awake1_any w2).mono ?_; rintro e w3 ⟨rfl, hb3⟩)
    go_ret
    exact ⟨rfl, HB1.out.trans (hb3.mono HB1.out.size)⟩
  · have d1 : decide ((xn : Int) + yn > 100000) = false := decide_eq_false (by omega)
    have d1' : decide (100000 < (xn : Int) + yn) = false := decide_eq_false (by omega)
    have hsum : xn + yn ≤ 100000 := by omega
    have HFS : Hid (∀ (W : World), Below w.heap.size w W → fc < W.heap.size → ∀ k, W.heap.size ≤ k → w.heap.size ≤ k ∧ k ≠ fc) := Lib.hid (fun W hb hf k hk => by have := hb.size; omega)
    have I0 : Inv 0 16777216 (newF 1048576) := Inv.new (by omega)
    have P1 := Lib.hid (put_any (fun k => w.heap.size ≤ k ∧ k ≠ fc) p fc (newF 1048576) 0 A xn c xs w2 HA1.out I0 (by omega) (HFS.out w2 HB1.out HG1.out) (fun h => h.2 rfl) HCE.out (HXI.out.below HB1.out) HXN.out (by omega) (fun hl b o e h => by have := HX0.out (by rw [← HXN.out]; exact hl) b o e; omega))
    have hp1 := put_old 1048576 xs (by rw [HXN.out]; omega)
    have hv1 : Inv 2 16777216 (putF (newF 1048576) xs).2 := put_inv I0 xs
    rw [hp1] at hv1
    unfold InPost at P1
    rw [hp1] at P1
    have HV1 := Lib.hid hv1
    have HRE := Lib.hid (put_new (f := max fuse (-1)) 1048576 xs ys (by omega) (by rw [HXN.out, HYN.out]; omega))
    have hv2 : Inv 2 16777216 (SA 1048576 xs (max fuse (-1)) false) := hv1.fuse (k := fuse) HFU.out
    have hv3 : Inv 4 16777216 (putF (SA 1048576 xs (max fuse (-1)) false) ys).2 := put_inv hv2 ys
    have HV2 := Lib.hid hv2
    have HV3 := Lib.hid hv3
    have HLAW := Lib.hid (ren_law 1048576 xs ys HRE.out names zs)
    clear I0 hp1 hv1 hv2 hv3 hbig d1' HRE
    go_wp2_with fail
    refine P1.out.mono ?_
    rintro e w3 ⟨rfl, h3, hc3⟩
    have HB3 : Hid (Below w.heap.size w w3) := Lib.hid (HB1.out.trans (hc3.below HB1.out.size (fun k hk h => by have := h.1; omega)))
    have HCE3 := Lib.hid (HCE.out.chg hc3 (fun h => h.2 rfl))
    have k3 : w3.cell? ⟨fc, 0, none⟩ = some (.pointer (some ⟨p, 0, none⟩)) := HCE3.out.cell 0 (by decide)
    have FU := Lib.hid (fuse_in h3 fuse)
    unfold ptrV at FU
    clear h3 hc3 P1 HA1 HB1 HCE HG1 k0 hadd d1
    go_wp2_with fail
    refine FU.out.mono ?_
    rintro e w4 ⟨rfl, h4, hc4⟩
    have HB4 : Hid (Below w.heap.size w w4) := Lib.hid (HB3.out.trans (hc4.below HB3.out.size (fun k hk h => by have := h.1; omega)))
    have HCE4 := Lib.hid (HCE3.out.chg hc4 (fun h => h.2 rfl))
    have k4 : w4.cell? ⟨fc, 0, none⟩ = some (.pointer (some ⟨p, 0, none⟩)) := HCE4.out.cell 0 (by decide)
    have P2 := Lib.hid (put_any (fun k => w.heap.size ≤ k ∧ k ≠ fc) p fc (SA 1048576 xs (max fuse (-1)) false) 2 B yn d ys w4 h4 HV2.out (by omega) (HFS.out w4 HB4.out HCE4.out.blk) (fun h => h.2 rfl) HCE4.out (HYI.out.below HB4.out) HYN.out (by omega) (fun hl b o e h => by have := HY0.out (by rw [← HYN.out]; exact hl) b o e; omega))
    unfold InPost at P2
    clear h4 hc4 FU HB3 HCE3 k3 HV1 HV2
    generalize putF (SA 1048576 xs (max fuse (-1)) false) ys = r at *
    obtain ⟨r1, S4⟩ := r
    go_wp2_with fail
    refine P2.out.mono ?_
    rintro e w5 ⟨rfl, h5, hc5⟩
    have HB5 : Hid (Below w.heap.size w w5) := Lib.hid (HB4.out.trans (hc5.below HB4.out.size (fun k hk h => by have := h.1; omega)))
    have HCE5 := Lib.hid (HCE4.out.chg hc5 (fun h => h.2 rfl))
    have k5 : w5.cell? ⟨fc, 0, none⟩ = some (.pointer (some ⟨p, 0, none⟩)) := HCE5.out.cell 0 (by decide)
    have CR := Lib.hid (crash_in h5 HV3.out (by omega) (HFS.out w5 HB5.out HCE5.out.blk) names G zs.length cG zs (HZI.out.below HB5.out) rfl HZL.out (fun hl b o e h => by have := HZ0.out hl b o e; omega))
    have HV4 := Lib.hid (HV3.out.crash names zs)
    unfold ptrV at CR
    clear h5 hc5 P2 HB4 HCE4 k4 HV3
    generalize crashF S4 names zs = S9 at *
    go_wp2_with fail
    refine CR.out.mono ?_
    rintro e w6 ⟨rfl, h6, hc6⟩
    have HB6 : Hid (Below w.heap.size w w6) := Lib.hid (HB5.out.trans (hc6.below HB5.out.size (fun k hk h => by have := h.1; omega)))
    have HCE6 := Lib.hid (HCE5.out.chg hc6 (fun h => h.2 rfl))
    have k6 : w6.cell? ⟨fc, 0, none⟩ = some (.pointer (some ⟨p, 0, none⟩)) := HCE6.out.cell 0 (by decide)
    have RD := Lib.hid (read_in h6 HV4.out ⟨#[105, 116]⟩ (by decide))
    obtain ⟨l1, l2, l3, l4⟩ := HLAW.out
    have hrl : readL S9 itN = bytesF S9 itN := by unfold readL; rw [if_pos l1]
    unfold ReadPost ptrV at RD
    change Hid (Calls _ _ _ _ fun e W' => Below _ _ W' ∧ ∃ A, e = .returned (.tuple #[.slice A (readL S9 itN).length (readL S9 itN).length, .int .i64 (ofF S9 itN)]) ∧ OwnS W' _ _ 1 (.slice A (readL S9 itN).length (readL S9 itN).length) (readL S9 itN).length ((readL S9 itN).map (Value.int .u8))) at RD
    rw [l1, hrl] at RD
    have HA6 := Lib.hid h6
    have HL4 := Lib.hid l4
    have HL2 := Lib.hid l2
    have HL3 := Lib.hid l3
    clear h6 hc6 CR HB5 HCE5 k5 hrl l1 l2 l3 l4 HLAW
    generalize bytesF S9 itN = RB at *
    generalize hrn : RB.length = rn at *
    have HRN := Lib.hid hrn
    clear hrn
    go_wp2_with fail
    refine RD.out.mono ?_
    rintro e w7 ⟨hb7, A7, rfl, ho7⟩
    have HB7 := Lib.hid (HB6.out.trans (hb7.mono HB6.out.size))
    have k7 : w7.cell? ⟨fc, 0, none⟩ = some (.pointer (some ⟨p, 0, none⟩)) := (hb7.cell (p := ⟨fc, 0, none⟩) HCE6.out.blk).trans k6
    have cvr := run_bstr w7 A7 rn rn RB ho7.ints HRN.out
    have cvo := run_bstr w7 A xn c xs (HXI.out.below HB7.out) HXN.out
    have cvn := run_bstr w7 B yn d ys (HYI.out.below HB7.out) HYN.out
    have DE := Lib.hid (dead_in (HA6.out.below hb7))
    unfold ptrV at DE
    rw [HL4.out] at DE
    have hRS : strOfNums RB = strOfNums xs ∨ strOfNums RB = strOfNums ys := by
      rcases HL2.out with h | h
      · left; rw [h]
      · right; rw [h]
    have hG : r1 = 0 → strOfNums RB = strOfNums ys := fun h => by rw [HL3.out h]
    clear hb7 ho7 RD k6 HCE6 HA6 HL2 HL3 HL4
    generalize strOfNums RB = RS at *
    generalize strOfNums xs = XS at *
    generalize strOfNums ys = YS at *
    have HAW := Lib.hid (awake1_any w7)
    by_cases hRX : RS = XS
    · subst hRX
      have s1 : (RS.toList == RS.toList) = true := beq_self_eq_true _
      have s2 : (!RS.toList == RS.toList) = false := by rw [s1]; rfl
      by_cases hg : r1 = 0
      · have hy : RS = YS := hG hg
        rw [← hy] at cvn
        subst hg
        clear hRS hG hy
        go_wp2_with (first
          | (go_at_call 23; refine DE.out.mono ?_; rintro e w8 ⟨rfl, rfl⟩)
          | (go_at_call 15; refine HAW.out.mono ?_; rintro e w9 ⟨rfl, hb9⟩))
        all_goals
          go_ret
          exact ⟨rfl, HB7.out.trans (hb9.mono HB7.out.size)⟩
      · have g0 : (r1 == 0) = false := by rw [beq_eq_false_iff_ne]; exact hg
        have g1 : (r1 != 0) = true := by simp [hg]
        clear hRS hG hg
        go_wp2_with (first
          | (go_at_call 23; refine DE.out.mono ?_; rintro e w8 ⟨rfl, rfl⟩)
          | (go_at_call 15; refine HAW.out.mono ?_; rintro e w9 ⟨rfl, hb9⟩))
        all_goals
          go_ret
          exact ⟨rfl, HB7.out.trans (hb9.mono HB7.out.size)⟩
    · have q1 := str_ne hRX
      have q2 : (!RS.toList == XS.toList) = true := by rw [q1]; rfl
      obtain rfl : RS = YS := hRS.resolve_left hRX
      have s1 : (RS.toList == RS.toList) = true := beq_self_eq_true _
      have s2 : (!RS.toList == RS.toList) = false := by rw [s1]; rfl
      by_cases hg : r1 = 0
      · subst hg
        clear hRS hG hRX
        go_wp2_with (first
          | (go_at_call 23; refine DE.out.mono ?_; rintro e w8 ⟨rfl, rfl⟩)
          | (go_at_call 15; refine HAW.out.mono ?_; rintro e w9 ⟨rfl, hb9⟩))
        all_goals
          go_ret
          exact ⟨rfl, HB7.out.trans (hb9.mono HB7.out.size)⟩
      · have g0 : (r1 == 0) = false := by rw [beq_eq_false_iff_ne]; exact hg
        have g1 : (r1 != 0) = true := by simp [hg]
        clear hRS hG hRX hg
        go_wp2_with (first
          | (go_at_call 23; refine DE.out.mono ?_; rintro e w8 ⟨rfl, rfl⟩)
          | (go_at_call 15; refine HAW.out.mono ?_; rintro e w9 ⟨rfl, hb9⟩))
        all_goals
          go_ret
          exact ⟨rfl, HB7.out.trans (hb9.mono HB7.out.size)⟩
end Go.Proofs.Ytmoaabjiokjjlaa
