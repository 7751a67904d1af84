/- The walk of FsRoom. -/
import Derived.Test.YtmoaabjiokjjlaaFsS
import Derived.Test.YtmoaabjiokjjlaaFsRoomP
import Derived.Deep.CutBlock
import Derived.Test.YtmoaabjiokjjlaaPh
namespace Go.Proofs.Ytmoaabjiokjjlaa
open Go.RowKit Go.Maps
set_option linter.unusedVariables false
set_option linter.unusedSimpArgs false

theorem and12g (n : Int) : ∃ N : Nat, bits .and .i64 n 4095 = (N : Int) ∧ N < 4096 := by
  have h127 : (BitVec.ofInt 64 4095).toNat = 2 ^ 12 - 1 := by decide
  have key : (BitVec.ofInt 64 n &&& BitVec.ofInt 64 4095).toNat = (n % ((2 ^ 64 : Nat) : Int)).toNat % 2 ^ 12 := by
    rw [BitVec.toNat_and, BitVec.toNat_ofInt, h127, Nat.and_two_pow_sub_one_eq_mod]
  refine ⟨(n % ((2 ^ 64 : Nat) : Int)).toNat % 2 ^ 12, ?_, by omega⟩
  show IntKind.i64.wrap ((BitVec.ofInt 64 n &&& BitVec.ofInt 64 4095).toNat : Nat) = _
  rw [key, IntWalk.i64_in _ (by omega)]
theorem and1g (n : Int) : ∃ N : Nat, bits .and .i64 n 1 = (N : Int) ∧ N < 2 := by
  have h127 : (BitVec.ofInt 64 1).toNat = 2 ^ 1 - 1 := by decide
  have key : (BitVec.ofInt 64 n &&& BitVec.ofInt 64 1).toNat = (n % ((2 ^ 64 : Nat) : Int)).toNat % 2 ^ 1 := by
    rw [BitVec.toNat_and, BitVec.toNat_ofInt, h127, Nat.and_two_pow_sub_one_eq_mod]
  refine ⟨(n % ((2 ^ 64 : Nat) : Int)).toNat % 2 ^ 1, ?_, by omega⟩
  show IntKind.i64.wrap ((BitVec.ofInt 64 n &&& BitVec.ofInt 64 1).toNat : Nat) = _
  rw [key, IntWalk.i64_in _ (by omega)]
theorem one_name (b : Nat) (h : b < 2) : okN (strOfNums [97 + (b : Int)]).data.toList = true := by
  have : b = 0 ∨ b = 1 := by omega
  rcases this with rfl | rfl <;> decide
theorem one_size (b : Nat) : (strOfNums [97 + (b : Int)]).size ≤ 9223372036854775807 := by
  rw [Lib.size_eq]
  simp [strOfNums]
theorem ints_new1 (w : World) (z : Int) : Ints .u8 (w.alloc (.cells #[.int .u8 z] 5)) (some ⟨w.heap.size, 0, none⟩) [z] :=
  Ints.of_new (t := 5) (fz := (0, 0)) (cs := #[.int .u8 z]) (heap_alloc_new w _) rfl
def IBel (W0 : World) (l : List Value) (W : World) : Prop := Below W0.heap.size W0 W
theorem IBel.trans {W0 W W' : World} {l l' : List Value} (h : IBel W0 l W) (hb : Below W.heap.size W W') : IBel W0 l' W' := Below.trans h (hb.mono (Below.size h))
theorem IBel.cell4 {W0 W : World} {l : List Value} {g : Nat} {v : Value} (h : IBel W0 l W) (hg : g < W0.heap.size) (hc : W0.cell? ⟨g, 4, none⟩ = some v) : W.cell? ⟨g, 4, none⟩ = some v := (Below.cell (p := ⟨g, 4, none⟩) h hg).trans hc
def sumR (S : Fs) (l : List Nm) : Nat := (l.map fun n => (bytesF S n).length).sum
theorem sumR_succ {S : Fs} {l : List Nm} {k : Nat} {n : Nm} (h : l[k]? = some n) : sumR S (l.take (k + 1)) = sumR S (l.take k) + (bytesF S n).length := by
  unfold sumR
  rw [List.take_add_one, h]
  simp
theorem sumR_le (S : Fs) (l : List Nm) (k : Nat) : sumR S (l.take k) ≤ sumR S l := by
  unfold sumR
  conv => rhs; rw [← List.take_append_drop k l]
  rw [List.map_append, List.sum_append]
  omega
set_option maxRecDepth 100000 in
set_option maxHeartbeats 8000000 in
theorem fsRoom_walk (quota : Int) (As : Option Addr) (n cs : Nat) (w : World) (hO : OpsIn w As n) (hn : n ≤ 9223372036854775807) :
    Calls Try.prog 4 #[.int .i64 quota, .slice As n cs] w fun e w' => e = .returned (.bool true) ∧ Below w.heap.size w w' := by
  obtain ⟨qv, hqv, hqb⟩ := and12g quota
  have HN := Lib.hid (new_in w (qv : Int) (by omega))
  have HOP := Lib.hid hO
  clear hO
  unfold ptrV at HN
  go_enter Try.func4, Try.ntmps4
  go_wp2_with fail
  refine HN.out.mono ?_
  rintro e w1 ⟨p, rfl, h1, hb1⟩
  have HA1 := Lib.hid h1
  have HB1 := Lib.hid hb1
  have HR1 : Hid (Room (newF (qv : Int))) := Lib.hid ⟨rfl, rfl, List.Pairwise.nil, (by intro p hp; cases hp), (by show ((0 : Nat) : Int) ≤ qv; omega)⟩
  have HI1 : Hid (Inv 1 16777216 (newF (qv : Int))) := Lib.hid (Inv.new (by omega))
  clear h1 hb1 HN hqv
  go_wp2
  go_loopw [7] (fun vi wr => ∃ (i : Nat) (S : Fs), vi = .int .i64 i ∧ i ≤ 40 ∧ i ≤ n ∧ FsIn (fun k => w.heap.size ≤ k) p wr S ∧ Room S ∧ Hid (S.quota = (qv : Int)) ∧ Inv (1 + i) 16777216 S ∧ Below w.heap.size w wr) (fun vi _ => 40 - (intOf vi).toNat)
  case atStart => exact ⟨0, newF (qv : Int), rfl, by omega, by omega, HA1.out, HR1.out, Lib.hid rfl, HI1.out, HB1.out⟩
  case round =>
    clear HA1 HR1 HI1 HB1
    obtain ⟨i, S, rfl, hi30, hin, hA, hRm, HQ, hInv, hB⟩ := hrel
    have HA := Lib.hid hA
    have HRM := Lib.hid hRm
    have HI := Lib.hid hInv
    have HB := Lib.hid hB
    clear hA hRm hInv hB
    by_cases hend : i < n ∧ i < 40
    · obtain ⟨hlt, hlt30⟩ := hend
      have d2 : decide ((i : Int) < (n : Int)) = true := decide_eq_true (by omega)
      have d2' : decide (i < n) = true := decide_eq_true hlt
      have d3 : decide ((i : Int) < 40) = true := decide_eq_true (by omega)
      have d3' : decide (i < 40) = true := decide_eq_true hlt30
      obtain ⟨eb, eo, rfl, heb0, hops⟩ := HOP.out (by omega)
      obtain ⟨x, hx0⟩ := hops i hlt
      have hx := hx0.below HB.out heb0
      have heb : eb < wr.heap.size := Nat.lt_of_lt_of_le heb0 HB.out.size
      have r0 := hx.c0
      have r1 := hx.c1
      have r2 := hx.c2
      have r3 := hx.c3
      have r4 := hx.c4
      have r5 := hx.c5
      have hba : Below wr.heap.size wr (wr.alloc (.cells (opCells x) 39)) := (Below.refl _ wr).alloc (Nat.le_refl _) _
      have HX := Lib.hid (hx.below hba heb)
      have hA0 : FsIn (fun k => w.heap.size ≤ k ∧ k ≠ wr.heap.size) p (wr.alloc (.cells (opCells x) 39)) S := (HA.out.bound.below hba).mono (fun k hk => ⟨hk.1, by omega⟩)
      clear HA
      have HA := Lib.hid hA0
      have HB0 := Lib.hid (HB.out.trans (hba.mono HB.out.size))
      have HOF := Lib.hid (opF_new wr x)
      have HGO : Hid (wr.heap.size < (wr.alloc (.cells (opCells x) 39)).heap.size) := Lib.hid (by simp)
      have HXL : Hid (0 < x.xs.length → ∀ b o, x.A = some ⟨b, o, none⟩ → b < w.heap.size) := Lib.hid (fun hl b o e => hx0.xI.lt0 hl b o e)
      obtain ⟨bv, hbv, hbb⟩ := and1g x.nn
      clear hx hx0 hops heb heb0 hA0 HB hba
      unfold opCells at *
      go_upto_region 9 with (fail)
      generalize wr.alloc (.cells #[.int .i64 x.kd, .int .i64 x.nn, .string x.a, .string x.b, .slice x.A x.xs.length x.cA, .slice x.B x.ys.length x.cB] 39) = w6 at *
      generalize wr.heap.size = og at *
      have q1 : w6.cell? ⟨og, 1, none⟩ = some (.int .i64 x.nn) := HOF.out.cell 1 (by decide)
      clear r0 r1 r2 r3 r4 r5
      have hw8 : IntKind.u8.wrap (bv : Int) = (bv : Int) := by have : bv = 0 ∨ bv = 1 := by omega
                                                               rcases this with rfl | rfl <;> rfl
      have hw9 : IntKind.u8.wrap (97 + (bv : Int)) = 97 + (bv : Int) := by have : bv = 0 ∨ bv = 1 := by omega
                                                                           rcases this with rfl | rfl <;> rfl
      have cvn := run_bstr (w6.alloc (.cells #[.int .u8 (97 + (bv : Int))] 5)) (some ⟨w6.heap.size, 0, none⟩) 1 1 [97 + (bv : Int)] (ints_new1 w6 _) rfl
      have HON := Lib.hid (one_name bv hbb)
      have HOS := Lib.hid (one_size bv)
      have hb7 : Below w6.heap.size w6 (w6.alloc (.cells #[.int .u8 (97 + (bv : Int))] 5)) := (Below.refl _ w6).alloc (Nat.le_refl _) _
      have HA7 := Lib.hid (HA.out.below hb7)
      have HOF7 := Lib.hid (HOF.out.below hb7 HGO.out)
      have HXI7 := Lib.hid (HX.out.xI.below hb7)
      have HB7 := Lib.hid (HB0.out.trans (hb7.mono HB0.out.size))
      have HG7 : Hid (og < (w6.alloc (.cells #[.int .u8 (97 + (bv : Int))] 5)).heap.size) := Lib.hid (Nat.lt_of_lt_of_le HGO.out hb7.size)
      generalize strOfNums [97 + (bv : Int)] = nm at *
      clear hb7 HA HOF HB0 HGO
      go_upto_region 10 with (fail)
      generalize w6.alloc (.cells #[.int .u8 (97 + (bv : Int))] 5) = w7 at *
      clear cvn hw8 hw9 hbv q1
      have HU := Lib.hid (used_in HA7.out HI.out (by omega))
      unfold ptrV at HU
      generalize hus : usedF S = u at *
      have HUS := Lib.hid hus
      clear hus
      go_wp2_with fail
      refine HU.out.mono ?_
      rintro e w8 ⟨rfl, hb8⟩
      have HA8 := Lib.hid (HA7.out.below hb8)
      have HB8 := Lib.hid (HB7.out.trans (hb8.mono HB7.out.size))
      have hof := HOF7.out.below hb8 HG7.out
      have HXI8 := Lib.hid (HXI7.out.below hb8)
      have q0 : w8.cell? ⟨og, 0, none⟩ = some (.int .i64 x.kd) := hof.cell 0 (by decide)
      have q4 : w8.cell? ⟨og, 4, none⟩ = some (.slice x.A x.xs.length x.cA) := hof.cell 4 (by decide)
      have HG8 : Hid (og < w8.heap.size) := Lib.hid hof.blk
      have HOF8 := Lib.hid hof
      clear hb8 hof HU HA7 HB7 HOF7 HXI7 HG7
      generalize hxn : x.xs.length = xn at *
      have HXN := Lib.hid hxn
      have hxb := HX.out.xl
      rw [hxn] at hxb
      clear hxn
      have HFB : Hid (∀ W : World, w8.heap.size ≤ W.heap.size → ∀ k, W.heap.size ≤ k → w.heap.size ≤ k ∧ k ≠ og) := Lib.hid (fun W hW k hk => by have h1 := HB8.out.size; have h2 := HG8.out; omega)
      go_upto_block 2 with (fail)
      go_cut [] (fun wx => ∃ S', FsIn (fun k => w.heap.size ≤ k) p wx S' ∧ Room S' ∧ S'.quota = (qv : Int) ∧ Inv (1 + (i + 1)) 16777216 S' ∧ Below w.heap.size w wx)
      case first => as_aux_lemma =>
        by_cases hk4 : x.kd = 4
        · have e4 : (x.kd == 4) = true := by rw [hk4]; rfl
          have HC := Lib.hid (rename_in HA8.out HI.out (by omega) (HFB.out w8 (Nat.le_refl _)) ⟨#[97]⟩ ⟨#[98]⟩ (by decide) (by decide))
          have HR := Lib.hid (HRM.out.rename HI.out (a := [97]) (b := [98]) (by decide) (by decide) (by decide))
          have HI2 := Lib.hid (HI.out.rename [97] [98])
          unfold InPost ptrV at HC
          change Hid (Calls _ _ _ _ fun e W' => e = .returned (.int .i64 (renameF S [97] [98]).1) ∧ FsIn _ p W' (renameF S [97] [98]).2 ∧ Chg _ _ W') at HC
          generalize renameF S [97] [98] = r at *
          clear hk4
          go_wp2_with (go_at_call 17; refine HC.out.mono ?_; rintro e w9 ⟨rfl, h9, hc9⟩)
          go_meet
          exact ⟨r.2, h9.mono (fun k hk => hk.1), HR.out.1, HR.out.2.trans HQ.out, HI2.out, HB8.out.trans (hc9.below HB8.out.size (fun k hk h => by have := h.1; omega))⟩
        · have e4 : (x.kd == 4) = false := by rw [beq_eq_false_iff_ne]; exact hk4
          by_cases hk5 : x.kd = 5
          · have e5 : (x.kd == 5) = true := by rw [hk5]; rfl
            have HC := Lib.hid (remove_in HA8.out HI.out (by omega) (HFB.out w8 (Nat.le_refl _)) nm HOS.out)
            have HR := Lib.hid (HRM.out.remove HI.out nm.data.toList)
            have HI2 := Lib.hid (HI.out.remove nm.data.toList)
            unfold InPost ptrV at HC
            generalize removeF S nm.data.toList = r at *
            clear hk4 hk5
            go_wp2_with (go_at_call 18; refine HC.out.mono ?_; rintro e w9 ⟨rfl, h9, hc9⟩)
            go_meet
            exact ⟨r.2, h9.mono (fun k hk => hk.1), HR.out.1, HR.out.2.trans HQ.out, HI2.out, HB8.out.trans (hc9.below HB8.out.size (fun k hk h => by have := h.1; omega))⟩
          · have e5 : (x.kd == 5) = false := by rw [beq_eq_false_iff_ne]; exact hk5
            have HC := Lib.hid (create_in HA8.out HI.out (by omega) (HFB.out w8 (Nat.le_refl _)) nm HOS.out)
            obtain ⟨k1, k2, k3, k4⟩ := HRM.out.create HI.out HON.out
            have hI1 := HI.out.create nm.data.toList
            have HFL : Hid (∀ W, FsIn (fun k => w.heap.size ≤ k ∧ k ≠ og) p W (createF S nm.data.toList).2 → Below w8.heap.size w8 W ∨ True → True) := Lib.hid (fun _ _ _ => trivial)
            unfold InPost ptrV at HC
            generalize createF S nm.data.toList = r at *
            obtain ⟨r1, S1⟩ := r
            simp only at k1 k2 k3 k4 hI1 HC
            obtain ⟨m1, m2, m3, m4⟩ := k1.append hI1 k3 x.xs
            have hI2 := hI1.append nm.data.toList x.xs
            have HAP := Lib.hid (fun (W : World) (h : FsIn (fun k => w.heap.size ≤ k ∧ k ≠ og) p W S1) (hw : w8.heap.size ≤ W.heap.size) (hi : Ints .u8 W x.A x.xs) => append_in h hI1 (by omega) (HFB.out W hw) nm HOS.out x.A xn x.cA x.xs hi HXN.out (by omega) (fun hl b o e hh => by have := HXL.out (by rw [← HXN.out]; exact hl) b o e; omega))
            unfold InPost ptrV at HAP
            generalize appendF S1 nm.data.toList x.xs = r at *
            obtain ⟨r2, S2⟩ := r
            simp only at m1 m2 m3 m4 hI2 HAP
            have HUP : Hid (usedF S ≤ 4096) := Lib.hid (by
              have h1 := HRM.out.le
              rw [HQ.out] at h1
              omega)
            have hub : u ≤ 4096 := by rw [← HUS.out]; exact HUP.out
            have M1 := Lib.hid m1
            have HQ2 : Hid (S2.quota = (qv : Int)) := Lib.hid (by rw [m2, k4]; exact HQ.out)
            have M3 : Hid (r2 = if (xn : Int) ≤ (qv : Int) - u then 0 else 60) := Lib.hid (by rw [m3, k4, k2, HQ.out, HXN.out, HUS.out])
            have M4 : Hid ((xn : Int) ≤ (qv : Int) - u → usedF S2 = u + xn) := Lib.hid (fun h => by rw [m4 (by rw [k4, k2, HQ.out, HXN.out, HUS.out]; exact h), k2, HXN.out, HUS.out])
            have HI2 := Lib.hid hI2
            clear hk4 hk5 k1 k2 k3 k4 hI1 m1 m2 m3 m4 hI2 HRM HI HFL HUP HON
            have hsub : IntKind.i64.wrap ((qv : Int) - (u : Int)) = (qv : Int) - u := IntWalk.i64_in _ (by omega)
            go_wp2_with fail
            refine HC.out.mono ?_
            rintro e w9 ⟨rfl, h9, hc9⟩
            have HB9 : Hid (Below w.heap.size w w9) := Lib.hid (HB8.out.trans (hc9.below HB8.out.size (fun k hk h => by have := h.1; omega)))
            have HF9 := Lib.hid (HOF8.out.chg hc9 (fun h => h.2 rfl))
            have HI9 := Lib.hid (HXI8.out.chg0 hc9 (fun hl b o e h => by have h1 := HXL.out (by rw [← HXN.out]; exact hl) b o e; omega))
            have HAQ := Lib.hid (HAP.out w9 h9 hc9.size HI9.out)
            have q49 : w9.cell? ⟨og, 4, none⟩ = some (.slice x.A xn x.cA) := by rw [← HXN.out]; exact HF9.out.cell 4 (by decide)
            clear h9 hc9 HC HAP HA8 HXI8
            go_wp2_with fail
            refine HAQ.out.mono ?_
            rintro e w10 ⟨rfl, h10, hc10⟩
            have HA10 := Lib.hid h10
            have HB10 : Hid (Below w.heap.size w w10) := Lib.hid (HB9.out.trans (hc10.below HB9.out.size (fun k hk h => by have := h.1; omega)))
            have HF10 := Lib.hid (HF9.out.chg hc10 (fun h => h.2 rfl))
            have q410 : w10.cell? ⟨og, 4, none⟩ = some (.slice x.A xn x.cA) := by rw [← HXN.out]; exact HF10.out.cell 4 (by decide)
            clear h10 hc10 HAQ q49
            by_cases hfit : (xn : Int) ≤ (qv : Int) - u
            · have hr2 : r2 = 0 := by rw [M3.out, if_pos hfit]
              have hu2 := M4.out hfit
              have d5 : decide ((xn : Int) ≤ (qv : Int) - u) = true := decide_eq_true hfit
              subst hr2
              have hadd : IntKind.i64.wrap ((u : Int) + (xn : Int)) = (u : Int) + xn := IntWalk.i64_in _ (by omega)
              have hu3 : ((usedF S2 : Nat) : Int) = (u : Int) + xn := by rw [hu2]; omega
              have h0 := HF10.out.blk
              clear hu2 hfit
              go_upto_region 16 with (fail)
              have HUI : Hid (∀ W, Below w10.heap.size w10 W → Calls Try.prog 16 #[.pointer (some ⟨p, 0, none⟩)] W fun e w' => e = .returned (.int .i64 ((u : Int) + xn)) ∧ Below W.heap.size W w') := Lib.hid (fun W hb => by
                have := used_in (HA10.out.below hb) HI2.out (by omega)
                rw [hu3] at this
                exact this)
              refine wp_region_ph (by kernel_rfl) [] [.span 0 0, .span 0 0, .span 0 0, .span 0 0, .span 0 0, .span 0 0, .span 0 0, .span 0 0, .span 0 0, .span 0 0, .span 0 0, .span 0 0] [fun z9 => z9 = .int .i64 0, fun z9 => z9 = .bool true, fun z9 => z9 = .bool true, fun z9 => z9 = .pointer (some ⟨p, 0, none⟩), fun z9 => z9 = .int .i64 ((u : Int) + xn), fun z9 => z9 = .int .i64 (u : Int), fun z9 => z9 = .pointer (some ⟨og, 4, none⟩), fun z9 => z9 = .slice x.A xn x.cA, fun z9 => z9 = .int .i64 xn, fun z9 => z9 = .int .i64 ((u : Int) + xn), fun z9 => z9 = .bool false, fun z9 => z9 = .bool false] ((IBel w10)) (by kernel_rfl) (by kernel_rfl) (by kernel_rfl) (by kernel_rfl) (by kernel_rfl) (by kernel_rfl) rfl rfl ((show Below w10.heap.size w10 w10.drew from (Below.refl _ _).drew)) ?steps ?done
              case steps =>
                refine ⟨?_, ?_, ?_, ?_, ?_, ?_, ?_, ?_, ?_, ?_, ?_, ?_, trivial⟩
                · intro us au w1 k0 hlo hhi ha hd hst hI
                  obtain rfl : k0 = 0 := by omega
                  have q11 := slot_far (t := 11) (v := .int .i64 0) ha (by kernel_rfl) (by kernel_rfl)
                  have p11 := slot_norm q11
                  clear ha hd hst
                  exact StepI.pure (v := .int .i64 0) rfl rfl (by go_simp) ⟨rfl, hI⟩
                · intro us au w1 k1 hlo hhi ha hd hst hI
                  obtain rfl : k1 = 0 := by omega
                  have e0 := hd 0 _ (by kernel_rfl) rfl
                  have q81 := slot_at (t := 81) 0 ha (by kernel_rfl) (by kernel_rfl) (by kernel_rfl) e0
                  have p81 := slot_norm q81
                  clear ha hd hst
                  exact StepI.pure (v := .bool true) rfl rfl (by go_simp) ⟨rfl, hI⟩
                · intro us au w1 k2 hlo hhi ha hd hst hI
                  obtain rfl : k2 = 0 := by omega
                  have e1 := hd 1 _ (by kernel_rfl) rfl
                  have q82 := slot_at (t := 82) 1 ha (by kernel_rfl) (by kernel_rfl) (by kernel_rfl) e1
                  have p82 := slot_norm q82
                  clear ha hd hst
                  exact StepI.pure (v := .bool true) rfl rfl (by go_simp) ⟨rfl, hI⟩
                · intro us au w1 k3 hlo hhi ha hd hst hI
                  obtain rfl : k3 = 0 := by omega
                  have e2 := hd 2 _ (by kernel_rfl) rfl
                  have q5 := slot_far (t := 5) (v := .pointer (some ⟨p, 0, none⟩)) ha (by kernel_rfl) (by kernel_rfl)
                  have p5 := slot_norm q5
                  have hg := slot_at (t := 83) 2 ha (by kernel_rfl) (by kernel_rfl) (by kernel_rfl) e2
                  clear ha hd hst
                  exact StepI.pure (v := .pointer (some ⟨p, 0, none⟩)) rfl (wanted_at rfl rfl hg) (by go_simp) ⟨rfl, hI⟩
                · intro us au w1 k4 hlo hhi ha hd hst hI
                  obtain rfl : k4 = 0 := by omega
                  have e3 := hd 3 _ (by kernel_rfl) rfl
                  have e2 := hd 2 _ (by kernel_rfl) rfl
                  have q84 := slot_at (t := 84) 3 ha (by kernel_rfl) (by kernel_rfl) (by kernel_rfl) e3
                  have p84 := slot_norm q84
                  have hg := slot_at (t := 83) 2 ha (by kernel_rfl) (by kernel_rfl) (by kernel_rfl) e2
                  clear ha hd hst
                  refine StepI.call (f := 16) (args := #[.pointer (some ⟨p, 0, none⟩)]) rfl (wanted_at rfl rfl hg) (by go_simp) ?_
                  refine (HUI.out w1 hI).mono ?_
                  rintro e w5 ⟨rfl, hb⟩
                  exact ⟨_, rfl, rfl, IBel.trans hI hb⟩
                · intro us au w1 k5 hlo hhi ha hd hst hI
                  obtain rfl : k5 = 0 := by omega
                  have e2 := hd 2 _ (by kernel_rfl) rfl
                  have q10 := slot_far (t := 10) (v := .int .i64 (u : Int)) ha (by kernel_rfl) (by kernel_rfl)
                  have p10 := slot_norm q10
                  have hg := slot_at (t := 83) 2 ha (by kernel_rfl) (by kernel_rfl) (by kernel_rfl) e2
                  clear ha hd hst
                  exact StepI.pure (v := .int .i64 (u : Int)) rfl (wanted_at rfl rfl hg) (by go_simp) ⟨rfl, hI⟩
                · intro us au w1 k6 hlo hhi ha hd hst hI
                  obtain rfl : k6 = 0 := by omega
                  have e2 := hd 2 _ (by kernel_rfl) rfl
                  have q8 := slot_far (t := 8) (v := .pointer (some ⟨og, 0, none⟩)) ha (by kernel_rfl) (by kernel_rfl)
                  have p8 := slot_norm q8
                  have hg := slot_at (t := 83) 2 ha (by kernel_rfl) (by kernel_rfl) (by kernel_rfl) e2
                  clear ha hd hst
                  exact StepI.pure (v := .pointer (some ⟨og, 4, none⟩)) rfl (wanted_at rfl rfl hg) (by go_simp) ⟨rfl, hI⟩
                · intro us au w1 k7 hlo hhi ha hd hst hI
                  obtain rfl : k7 = 0 := by omega
                  have e6 := hd 6 _ (by kernel_rfl) rfl
                  have e2 := hd 2 _ (by kernel_rfl) rfl
                  have q87 := slot_at (t := 87) 6 ha (by kernel_rfl) (by kernel_rfl) (by kernel_rfl) e6
                  have p87 := slot_norm q87
                  have hg := slot_at (t := 83) 2 ha (by kernel_rfl) (by kernel_rfl) (by kernel_rfl) e2
                  clear ha hd hst
                  have kk := IBel.cell4 hI h0 q410
                  exact StepI.pure (v := .slice x.A xn x.cA) rfl (wanted_at rfl rfl hg) (by go_simp) ⟨rfl, hI⟩
                · intro us au w1 k8 hlo hhi ha hd hst hI
                  obtain rfl : k8 = 0 := by omega
                  have e7 := hd 7 _ (by kernel_rfl) rfl
                  have e2 := hd 2 _ (by kernel_rfl) rfl
                  have q88 := slot_at (t := 88) 7 ha (by kernel_rfl) (by kernel_rfl) (by kernel_rfl) e7
                  have p88 := slot_norm q88
                  have hg := slot_at (t := 83) 2 ha (by kernel_rfl) (by kernel_rfl) (by kernel_rfl) e2
                  clear ha hd hst
                  exact StepI.pure (v := .int .i64 xn) rfl (wanted_at rfl rfl hg) (by go_simp) ⟨rfl, hI⟩
                · intro us au w1 k9 hlo hhi ha hd hst hI
                  obtain rfl : k9 = 0 := by omega
                  have e5 := hd 5 _ (by kernel_rfl) rfl
                  have e8 := hd 8 _ (by kernel_rfl) rfl
                  have e2 := hd 2 _ (by kernel_rfl) rfl
                  have q86 := slot_at (t := 86) 5 ha (by kernel_rfl) (by kernel_rfl) (by kernel_rfl) e5
                  have p86 := slot_norm q86
                  have q89 := slot_at (t := 89) 8 ha (by kernel_rfl) (by kernel_rfl) (by kernel_rfl) e8
                  have p89 := slot_norm q89
                  have hg := slot_at (t := 83) 2 ha (by kernel_rfl) (by kernel_rfl) (by kernel_rfl) e2
                  clear ha hd hst
                  exact StepI.pure (v := .int .i64 ((u : Int) + xn)) rfl (wanted_at rfl rfl hg) (by go_simp) ⟨rfl, hI⟩
                · intro us au w1 k10 hlo hhi ha hd hst hI
                  obtain rfl : k10 = 0 := by omega
                  have e4 := hd 4 _ (by kernel_rfl) rfl
                  have e9 := hd 9 _ (by kernel_rfl) rfl
                  have e2 := hd 2 _ (by kernel_rfl) rfl
                  have q85 := slot_at (t := 85) 4 ha (by kernel_rfl) (by kernel_rfl) (by kernel_rfl) e4
                  have p85 := slot_norm q85
                  have q90 := slot_at (t := 90) 9 ha (by kernel_rfl) (by kernel_rfl) (by kernel_rfl) e9
                  have p90 := slot_norm q90
                  have hg := slot_at (t := 83) 2 ha (by kernel_rfl) (by kernel_rfl) (by kernel_rfl) e2
                  clear ha hd hst
                  exact StepI.pure (v := .bool false) rfl (wanted_at rfl rfl hg) (by go_simp) ⟨rfl, hI⟩
                · intro us au w1 k11 hlo hhi ha hd hst hI
                  obtain rfl : k11 = 0 := by omega
                  have e2 := hd 2 _ (by kernel_rfl) rfl
                  have e10 := hd 10 _ (by kernel_rfl) rfl
                  have q83 := slot_at (t := 83) 2 ha (by kernel_rfl) (by kernel_rfl) (by kernel_rfl) e2
                  have p83 := slot_norm q83
                  have q91 := slot_at (t := 91) 10 ha (by kernel_rfl) (by kernel_rfl) (by kernel_rfl) e10
                  have p91 := slot_norm q91
                  clear ha hd hst
                  exact StepI.pure (v := .bool false) rfl rfl (by go_simp) ⟨rfl, hI⟩
              case done =>
                intro us w1 hI hd
                have e11 := hd 11 _ (by decide) rfl
                have HBC : Hid (Below w10.heap.size w10 w1) := Lib.hid hI
                clear hd hI
                simp only [putAll]
                go_simp
                go_wp2
                go_meet
                exact ⟨S2, (HA10.out.below HBC.out).mono (fun k hk => hk.1), M1.out, HQ2.out, HI2.out, HB10.out.trans (HBC.out.mono HB10.out.size)⟩
            · have hr2 : r2 = 60 := by rw [M3.out, if_neg hfit]
              have d5 : decide ((xn : Int) ≤ (qv : Int) - u) = false := decide_eq_false hfit
              subst hr2
              clear hfit
              go_upto_region 16 with (fail)
              go_quiet (fail)
              go_wp2
              go_meet
              exact ⟨S2, ((HA10.out.below (Below.drewN (Below.refl _ _) _))).mono (fun k hk => hk.1), M1.out, HQ2.out, HI2.out, Below.drewN HB10.out _⟩
      case rest =>
        obtain ⟨S2, hA, hR, hQ2, hI2, hBw⟩ := hcut
        obtain ⟨s1, s2⟩ := hR.reads hI2
        have hqle : usedF S2 ≤ 4096 := by
          have h1 := hR.le
          rw [hQ2] at h1
          omega
        have hqv : usedF S2 ≤ qv := by
          have h1 := hR.le
          rw [hQ2] at h1
          omega
        have HA2 := Lib.hid hA
        have HR2 := Lib.hid hR
        have HQ2 := Lib.hid hQ2
        have HI2 := Lib.hid hI2
        have HB2 := Lib.hid hBw
        have HS1 := Lib.hid s1
        have HS2 : Hid (sumR S2 (listF S2 []) = usedF S2) := Lib.hid s2
        have HLI := Lib.hid (list_in hA hI2 (by omega) ⟨#[]⟩)
        unfold ListPost ptrV at HLI
        change Hid (Calls _ _ _ _ fun e W' => Below _ _ W' ∧ ∃ A, e = .returned (.slice A (listF S2 []).length (listF S2 []).length) ∧ OwnS W' _ _ 1 (.slice A (listF S2 []).length (listF S2 []).length) (listF S2 []).length (nmVs (listF S2 []))) at HLI
        have hlen : (listF S2 []).length ≤ 1000000 := by
          rw [list_all S2 hR.live, List.length_map]
          have := hI2.lenNow
          omega
        have hnz : ∀ n ∈ listF S2 [], n.length ≤ 200 := fun n hn => by
          rw [list_all S2 hR.live] at hn
          obtain ⟨q, hq, rfl⟩ := List.mem_map.1 hn
          exact (okN_len (hR.names q hq)).2
        have HNZ := Lib.hid hnz
        clear hA hR hQ2 hI2 hBw s1 s2 hnz HA8 HRM HI HB8 HOF8 HXI8 HX HXL HON HOS q0 q4 HFB
        generalize hLL : listF S2 [] = LL at *
        generalize hll : LL.length = ll at *
        have HLL := Lib.hid hll
        have HLI0 := Lib.hid hLL
        generalize hu2 : usedF S2 = u2 at *
        have HU2 := Lib.hid hu2
        clear hll hLL hu2
        go_wp2_with fail
        refine HLI.out.mono ?_
        rintro e w20 ⟨hb20, AL, rfl, ho20⟩
        have HAL := Lib.hid (HA2.out.below hb20)
        have HOL := Lib.hid ho20
        have HBL := Lib.hid (HB2.out.trans (hb20.mono HB2.out.size))
        clear hb20 ho20 HLI HA2 HB2
        go_wp2
        go_loopw [14, 12] (fun vk vs wr => ∃ (k : Nat), vk = .int .i64 k ∧ vs = .int .i64 (sumR S2 (LL.take k) : Nat) ∧ k ≤ ll ∧ Below w20.heap.size w20 wr) (fun vk _ _ => ll - (intOf vk).toNat)
        case atStart => exact ⟨0, rfl, rfl, Nat.zero_le _, Below.refl _ _⟩
        case round =>
          obtain ⟨k, rfl, rfl, hk, hbr⟩ := hrel
          have HBR := Lib.hid hbr
          by_cases hkl : k < ll
          · obtain ⟨s, hs⟩ : ∃ s, LL[k]? = some s := ⟨_, List.getElem?_eq_getElem (by rw [HLL.out]; exact hkl)⟩
            obtain ⟨g, off, c', hv, hgb, hgl, hcell⟩ := HOL.out.cells (by rw [nmVs_len, HLL.out]; omega)
            injection hv with hAL _ hcc
            subst hAL
            subst hcc
            have rs : wr.cell? ⟨g, off + k, none⟩ = some (.string (bkN s)) := by
              rw [hbr.cell (p := ⟨g, off + k, none⟩) hgl, hcell k (by rw [nmVs_len, HLL.out]; exact hkl)]
              unfold nmVs
              rw [List.getElem?_map, hs]
              rfl
            have dk : decide ((k : Int) < (ll : Int)) = true := decide_eq_true (by omega)
            have dk' : decide (k < ll) = true := decide_eq_true hkl
            have hmem := List.mem_of_getElem? hs
            have hof := HS1.out s hmem
            have hrd := read_in (HAL.out.below hbr) HI2.out (bkN s) (by rw [bkN_size]; have := HNZ.out s hmem; omega)
            unfold ReadPost ptrV at hrd
            rw [bkN_list] at hrd
            have hrl : readL S2 s = bytesF S2 s := by unfold readL; rw [if_pos hof]
            rw [hof, hrl] at hrd
            have HRD := Lib.hid hrd
            have hss := sumR_succ (S := S2) hs
            have hsl := sumR_le S2 LL (k + 1)
            rw [HS2.out] at hsl
            have HSS := Lib.hid hss
            generalize hbl : (bytesF S2 s).length = bl at *
            generalize hsk : sumR S2 (LL.take k) = sk at *
            have hadd : IntKind.i64.wrap ((sk : Int) + (bl : Int)) = (sk : Int) + bl := IntWalk.i64_in _ (by omega)
            have HSK : Hid (sumR S2 (LL.take (k + 1)) = sk + bl) := Lib.hid HSS.out
            clear hcell hgl hgb hs hmem hof hrd hrl hss hsl hbl hsk hbr HSS
            go_wp2_with (go_at_call 14; refine HRD.out.mono ?_; rintro e w22 ⟨hb22, A22, rfl, ho22⟩; have HB22 := Lib.hid (HBR.out.trans (hb22.mono HBR.out.size)); clear hb22 ho22)
            go_roundw
            case rel => exact ⟨k + 1, rfl, by rw [HSK.out]; congr 1, by omega, HB22.out⟩
            case measure => simp [intOf]; omega
          · obtain rfl : ll = k := by omega
            have dk : decide ((ll : Int) < (ll : Int)) = false := decide_eq_false (by omega)
            have dk' : decide (ll < ll) = false := decide_eq_false (by omega)
            rw [List.take_of_length_le (by rw [HLL.out]; exact Nat.le_refl _), HS2.out]
            have HUE := Lib.hid (used_in (HAL.out.below hbr) HI2.out (by omega))
            unfold ptrV at HUE
            rw [HU2.out] at HUE
            have hgt : decide ((u2 : Int) > (qv : Int)) = false := decide_eq_false (by omega)
            have hgt' : decide (qv < u2) = false := decide_eq_false (by omega)
            have HBE := Lib.hid (HBL.out.trans (hbr.mono HBL.out.size))
            have HAE := Lib.hid (HAL.out.below hbr)
            clear hbr
            go_wp2_with (go_at_call 16; refine HUE.out.mono ?_; rintro e w23 ⟨rfl, hb23⟩; have HB23 := Lib.hid (HBE.out.trans (hb23.mono HBE.out.size)); have HA23 := Lib.hid (HAE.out.below hb23); clear hb23)
            go_roundw
            case rel => exact ⟨i + 1, S2, rfl, by omega, by omega, HA23.out, HR2.out, HQ2, HI2.out, HB23.out⟩
            case measure => simp [intOf]; omega
    · have hgo : decide (i < n) = true ∧ decide ((i : Int) < (n : Int)) = true ∧ decide ((i : Int) < 40) = false ∧ decide (i < 40) = false ∨ decide (i < n) = false ∧ decide ((i : Int) < (n : Int)) = false := by
        by_cases hlt : i < n
        · left
          exact ⟨decide_eq_true hlt, decide_eq_true (by omega), decide_eq_false (by omega), decide_eq_false (by omega)⟩
        · right
          exact ⟨decide_eq_false hlt, decide_eq_false (by omega)⟩
      clear hend hin
      rcases hgo with ⟨d2, d2', d3, d3'⟩ | ⟨d2, d2'⟩
      all_goals
        go_wp2_with (go_at_call 15; refine (awake1_any wr).mono ?_; rintro e w9 ⟨rfl, hb9⟩)
        go_ret
        exact ⟨rfl, HB.out.trans (hb9.mono HB.out.size)⟩
end Go.Proofs.Ytmoaabjiokjjlaa
