/- SHA-1's taking of one block into a state. -/
import Derived.Test.YtdlabapfcghfmaaGreatDoorSumB
namespace Go.Proofs.YtdlabapfcghfmaaGreatDoor
open Go.RowKit
set_option linter.unusedVariables false

set_option maxRecDepth 100000 in
set_option maxHeartbeats 4000000 in
theorem mix_any (h : H5) (A : Option Addr) (n c : Nat) (xs : List Int) (w : World) (hh : h.ok) (hp : Ints .u8 w A xs) (hn : xs.length = n) (h64 : 64 ≤ n) (hr : ∀ x ∈ xs, 0 ≤ x ∧ x < 256) :
    Calls Tryz.prog 52 #[.agg h.vals, .slice A n c] w fun e w' => e = .returned (.agg (mixH h xs).vals) ∧ Below w.heap.size w w' := by
  subst hn
  obtain ⟨ha, hb, hc, hd, he⟩ := h
  obtain ⟨⟨ra, ra'⟩, ⟨rb, rb'⟩, ⟨rc, rc'⟩, ⟨rd, rd'⟩, ⟨re, re'⟩⟩ := hh
  obtain ⟨b, o, rfl, hbl, hcell⟩ := hp (by omega)
  have hm : ∀ j, j < xs.length → 0 ≤ xs.getD j 0 ∧ xs.getD j 0 < 256 := fun j hj => by
    rw [List.getD_eq_getElem?_getD, List.getElem?_eq_getElem hj]; exact hr _ (List.getElem_mem hj)
  go_enter Tryz.func52, Tryz.ntmps52
  simp only [H5.vals]
  go_wp2
  have hH0 : (((w.alloc (.cells #[.int .u32 ha, .int .u32 hb, .int .u32 hc, .int .u32 hd, .int .u32 he] 100)).alloc (.cells #[.int .u32 0, .int .u32 0, .int .u32 0, .int .u32 0, .int .u32 0] 100)).alloc (.cells Tryz.zeroCells138 138)).heap[w.heap.size]? = some (.cells #[.int .u32 ha, .int .u32 hb, .int .u32 hc, .int .u32 hd, .int .u32 he] 100) :=
    heap_before _ _ _ _ (by simp; omega) (heap_before _ _ _ _ (by simp) (heap_at _ _ _ rfl))
  have hR0 : (((w.alloc (.cells #[.int .u32 ha, .int .u32 hb, .int .u32 hc, .int .u32 hd, .int .u32 he] 100)).alloc (.cells #[.int .u32 0, .int .u32 0, .int .u32 0, .int .u32 0, .int .u32 0] 100)).alloc (.cells Tryz.zeroCells138 138)).heap[w.heap.size + 1]? = some (.cells #[.int .u32 0, .int .u32 0, .int .u32 0, .int .u32 0, .int .u32 0] 100) :=
    heap_before _ _ _ _ (by simp) (heap_at _ _ _ (by simp))
  have hP0 : Pre (((w.alloc (.cells #[.int .u32 ha, .int .u32 hb, .int .u32 hc, .int .u32 hd, .int .u32 he] 100)).alloc (.cells #[.int .u32 0, .int .u32 0, .int .u32 0, .int .u32 0, .int .u32 0] 100)).alloc (.cells Tryz.zeroCells138 138)) (w.heap.size + 1 + 1) 138 80 .u32 (schedTo xs 0) :=
    ⟨_, heap_at _ _ _ (by simp), by kernel_rfl, by simp [schedTo], fun j hj => by simp [schedTo] at hj⟩
  have hB0 : Below w.heap.size w (((w.alloc (.cells #[.int .u32 ha, .int .u32 hb, .int .u32 hc, .int .u32 hd, .int .u32 he] 100)).alloc (.cells #[.int .u32 0, .int .u32 0, .int .u32 0, .int .u32 0, .int .u32 0] 100)).alloc (.cells Tryz.zeroCells138 138)) :=
    (((Below.refl _ _).alloc (Nat.le_refl _) _).alloc (by simp) _).alloc (by simp; omega) _
  generalize hw0 : (((w.alloc (.cells #[.int .u32 ha, .int .u32 hb, .int .u32 hc, .int .u32 hd, .int .u32 he] 100)).alloc (.cells #[.int .u32 0, .int .u32 0, .int .u32 0, .int .u32 0, .int .u32 0] 100)).alloc (.cells Tryz.zeroCells138 138)) = w0 at *
  clear hw0
  go_loopw [17] (fun i wr => ∃ k : Nat, k ≤ 16 ∧ i = .int .i64 k ∧ Pre wr (w.heap.size + 1 + 1) 138 80 .u32 (schedTo xs k) ∧ Below (w.heap.size + 1 + 1) w0 wr) (fun i _ => 16 - (intOf i).toNat)
  case atStart => exact ⟨0, by omega, rfl, hP0, Below.refl _ _⟩
  case round =>
    clear hP0
    obtain ⟨k, hk, rfl, hP, hB⟩ := hrel
    by_cases hlt : k < 16
    · have c0 := ((hB.cell (p := ⟨b, o + 4 * k, none⟩) (by show b < _; omega)).trans (hB0.cell (p := ⟨b, o + 4 * k, none⟩) hbl)).trans (hcell (4 * k) (by omega))
      have c1 := ((hB.cell (p := ⟨b, o + (4 * k + 1), none⟩) (by show b < _; omega)).trans (hB0.cell (p := ⟨b, o + (4 * k + 1), none⟩) hbl)).trans (hcell (4 * k + 1) (by omega))
      have c2 := ((hB.cell (p := ⟨b, o + (4 * k + 2), none⟩) (by show b < _; omega)).trans (hB0.cell (p := ⟨b, o + (4 * k + 2), none⟩) hbl)).trans (hcell (4 * k + 2) (by omega))
      have c3 := ((hB.cell (p := ⟨b, o + (4 * k + 3), none⟩) (by show b < _; omega)).trans (hB0.cell (p := ⟨b, o + (4 * k + 3), none⟩) hbl)).trans (hcell (4 * k + 3) (by omega))
      have r0 := hm (4 * k) (by omega)
      have r1 := hm (4 * k + 1) (by omega)
      have r2 := hm (4 * k + 2) (by omega)
      have r3 := hm (4 * k + 3) (by omega)
      have l0 : (4 : Int) * k < xs.length := by omega
      have l1 : (4 : Int) * k + 1 < xs.length := by omega
      have l2 : (4 : Int) * k + 2 < xs.length := by omega
      have l3 : (4 : Int) * k + 3 < xs.length := by omega
      have HW : Hid (schedTo xs (k + 1) = schedTo xs k ++ [num4 (xs.getD (4 * k) 0) (xs.getD (4 * k + 1) 0) (xs.getD (4 * k + 2) 0) (xs.getD (4 * k + 3) 0)]) := by
        show _ = _
        rw [schedTo, if_pos hlt]; rfl
      obtain ⟨v0, hv0⟩ := hP.some_ (j := k) (by omega)
      have hf0 := hP.frozen k
      clear hcell hm hp
      generalize xs.getD (4 * k) 0 = b0 at *
      generalize xs.getD (4 * k + 1) 0 = b1 at *
      generalize xs.getD (4 * k + 2) 0 = b2 at *
      generalize xs.getD (4 * k + 3) 0 = b3 at *
      go_wp2
      go_region
      go_wp2
      go_roundw
      case rel =>
        have hl := schedTo_len xs k
        refine ⟨k + 1, by omega, by go_num, ?_, (hB.setCell (by exact Nat.le_refl _) _).drew⟩
        have hs := hP.snoc (by omega) (num4 b0 b1 b2 b3)
        rw [HW.out]
        rw [hl] at hs
        exact hs.drew
      case measure => simp [intOf]; omega
    · obtain rfl : k = 16 := by omega
      clear hcell hm hp hlt hk
      go_wp2
      go_loopw [7] (fun i wr => ∃ k : Nat, 16 ≤ k ∧ k ≤ 80 ∧ i = .int .i64 k ∧ Pre wr (w.heap.size + 1 + 1) 138 80 .u32 (schedTo xs k) ∧ Below (w.heap.size + 1 + 1) w0 wr) (fun i _ => 80 - (intOf i).toNat)
      case atStart => exact ⟨16, by omega, by omega, rfl, hP, hB⟩
      case round =>
        clear hP hB
        obtain ⟨k, hk1, hk2, rfl, hP, hB⟩ := hrel
        have hl := schedTo_len xs k
        by_cases hlt : k < 80
        · have c0 := hP.cell (j := k - 3) (by omega)
          have c1 := hP.cell (j := k - 8) (by omega)
          have c2 := hP.cell (j := k - 14) (by omega)
          have c3 := hP.cell (j := k - 16) (by omega)
          have HW : Hid (schedTo xs (k + 1) = schedTo xs k ++ [rotN 1 (bits .xor .u32 (bits .xor .u32 (bits .xor .u32 ((schedTo xs k).getD (k - 3) 0) ((schedTo xs k).getD (k - 8) 0)) ((schedTo xs k).getD (k - 14) 0)) ((schedTo xs k).getD (k - 16) 0))]) := by
            show _ = _
            rw [schedTo, if_neg (by omega)]; rfl
          have HL := Lib.hid hl
          obtain ⟨v0, hv0⟩ := hP.some_ (j := k) (by omega)
          have hf0 := hP.frozen k
          clear hl
          generalize (schedTo xs k).getD (k - 3) 0 = b0 at *
          generalize (schedTo xs k).getD (k - 8) 0 = b1 at *
          generalize (schedTo xs k).getD (k - 14) 0 = b2 at *
          generalize (schedTo xs k).getD (k - 16) 0 = b3 at *
          have hx := bits_u32 .xor (bits .xor .u32 (bits .xor .u32 b0 b1) b2) b3
          have n0 : (((k : Int) - 3)).toNat = k - 3 := by omega
          have n1 : (((k : Int) - 8)).toNat = k - 8 := by omega
          have n2 : (((k : Int) - 14)).toNat = k - 14 := by omega
          have n3 : (((k : Int) - 16)).toNat = k - 16 := by omega
          have g0 : IntKind.i64.wrap ((k : Int) - 3) = (k : Int) - 3 := by exact IntWalk.i64_in _ (by omega)
          have g1 : IntKind.i64.wrap ((k : Int) - 8) = (k : Int) - 8 := by exact IntWalk.i64_in _ (by omega)
          have g2 : IntKind.i64.wrap ((k : Int) - 14) = (k : Int) - 14 := by exact IntWalk.i64_in _ (by omega)
          have g3 : IntKind.i64.wrap ((k : Int) - 16) = (k : Int) - 16 := by exact IntWalk.i64_in _ (by omega)
          have p0 : (3 : Int) ≤ k := by omega
          have p1 : (8 : Int) ≤ k := by omega
          have p2 : (14 : Int) ≤ k := by omega
          have p3 : (16 : Int) ≤ k := by omega
          have q0 : (k : Int) - 3 < 80 := by omega
          have q1 : (k : Int) - 8 < 80 := by omega
          have q2 : (k : Int) - 14 < 80 := by omega
          have q3 : (k : Int) - 16 < 80 := by omega
          have q4 : (k : Int) < 80 := by omega
          have o0 : 0 ≤ (k : Int) - 3 := by omega
          have o1 : 0 ≤ (k : Int) - 8 := by omega
          have o2 : 0 ≤ (k : Int) - 14 := by omega
          have o3 : 0 ≤ (k : Int) - 16 := by omega
          go_wp2
          refine wp_region_still_tail 22 (by kernel_rfl) (by kernel_rfl) ?_
          simp only [List.take_succ_cons, List.take_zero, List.drop_succ_cons, List.drop_zero]
          repeat still_step
          still_call ((rot_any _ _ _ hx.1 hx.2 (.inl rfl)).mono (fun e w' ⟨h1, h2⟩ => ⟨h1, h2.symm⟩))
          repeat still_step
          refine wpStill_nil ?_
          change wpList _ _ _ _ _ wr.drew
          go_wp2
          go_roundw
          case rel =>
            (repeat apply Exists.intro)
            refine ⟨?_, rfl⟩
            refine ⟨k + 1, by omega, by omega, by go_num, ?_, (hB.setCell (by exact Nat.le_refl _) _).drew⟩
            have hs := hP.snoc (by have := HL.out; omega) (rotN 1 (bits .xor .u32 (bits .xor .u32 (bits .xor .u32 b0 b1) b2) b3))
            rw [HW.out]
            rw [HL.out] at hs
            exact hs.drew
          case measure => simp [intOf]; omega
        · obtain rfl : k = 80 := by omega
          clear hlt hk1 hk2 hl
          go_wp2_with (go_at_call 95; refine (steps_any _).mono ?_; rintro e w2 ⟨rfl, hb2⟩; simp only [theSteps, theConsts])
          have hB2 := hB.trans (hb2.mono (B' := w.heap.size + 1 + 1) (Nat.le_of_lt hP.blk))
          have hW2 := hP.below hb2 hP.blk
          have hH2 : w2.heap[w.heap.size]? = _ := (hB2.block _ (by omega)).trans hH0
          have hR2 : w2.heap[w.heap.size + 1]? = _ := (hB2.block _ (by omega)).trans hR0
          have hlt2 : w.heap.size + 1 + 1 < w2.heap.size := hW2.blk
          have hBw : Below w.heap.size w w2 := hB0.trans (hB2.mono (by omega))
          clear hB2 hb2 hP hB hH0 hR0 hB0
          have hF3 : ((w2.alloc (.cells theSteps 141)).alloc (.cells theConsts 142)).heap[w2.heap.size]? = some (.cells theSteps 141 (0, 0)) := heap_before _ _ _ _ (by simp) (heap_at _ _ _ rfl)
          have hK3 : ((w2.alloc (.cells theSteps 141)).alloc (.cells theConsts 142)).heap[w2.heap.size + 1]? = some (.cells theConsts 142 (0, 0)) := heap_at _ _ _ (by simp)
          have hB3 : Below w2.heap.size w2 ((w2.alloc (.cells theSteps 141)).alloc (.cells theConsts 142)) := ((Below.refl _ _).alloc (Nat.le_refl _) _).alloc (by simp) _
          unfold theSteps theConsts at hF3 hK3 hB3
          generalize hw3 : (w2.alloc (.cells _ 141)).alloc (.cells _ 142) = w3 at hF3 hK3 hB3 ⊢
          clear hw3
          have hW3 := hW2.below hB3 hlt2
          have hH3 : w3.heap[w.heap.size]? = _ := (hB3.block _ (by omega)).trans hH2
          have hR3 : w3.heap[w.heap.size + 1]? = _ := (hB3.block _ (by omega)).trans hR2
          have hBw3 : Below w.heap.size w w3 := hBw.trans (hB3.mono (by omega))
          clear hB3 hW2 hH2 hR2 hBw
          have a0 : w3.cell? ⟨w.heap.size, 0, none⟩ = some (.int .u32 ha) := by rw [cell_of_row _ _ _ _ _ _ hH3]; rfl
          have a1 : w3.cell? ⟨w.heap.size, 1, none⟩ = some (.int .u32 hb) := by rw [cell_of_row _ _ _ _ _ _ hH3]; rfl
          have a2 : w3.cell? ⟨w.heap.size, 2, none⟩ = some (.int .u32 hc) := by rw [cell_of_row _ _ _ _ _ _ hH3]; rfl
          have a3 : w3.cell? ⟨w.heap.size, 3, none⟩ = some (.int .u32 hd) := by rw [cell_of_row _ _ _ _ _ _ hH3]; rfl
          have a4 : w3.cell? ⟨w.heap.size, 4, none⟩ = some (.int .u32 he) := by rw [cell_of_row _ _ _ _ _ _ hH3]; rfl
          clear hH3
          go_quiet (fail)
          go_wp2
          go_loopw [10, 11, 12, 13, 14, 96] (fun sa sb sc sd se i wr => ∃ k : Nat, k ≤ 80 ∧ i = .int .i64 k ∧ sa = .int .u32 (runH xs ⟨ha, hb, hc, hd, he⟩ k).a ∧ sb = .int .u32 (runH xs ⟨ha, hb, hc, hd, he⟩ k).b ∧ sc = .int .u32 (runH xs ⟨ha, hb, hc, hd, he⟩ k).c ∧ sd = .int .u32 (runH xs ⟨ha, hb, hc, hd, he⟩ k).d ∧ se = .int .u32 (runH xs ⟨ha, hb, hc, hd, he⟩ k).e ∧ Drawn w3 wr) (fun _ _ _ _ _ i _ => 80 - (intOf i).toNat)
          case atStart => exact ⟨0, by omega, rfl, rfl, rfl, rfl, rfl, rfl, ⟨nq, rfl⟩⟩
          case round =>
            obtain ⟨k, hk, rfl, rfl, rfl, rfl, rfl, rfl, hdr⟩ := hrel
            have hok := runH_ok xs ⟨ha, hb, hc, hd, he⟩ ⟨⟨ra, ra'⟩, ⟨rb, rb'⟩, ⟨rc, rc'⟩, ⟨rd, rd'⟩, ⟨re, re'⟩⟩ k
            by_cases hlt : k < 80
            · have HST : Hid (runH xs ⟨ha, hb, hc, hd, he⟩ (k + 1) = stepH xs k (runH xs ⟨ha, hb, hc, hd, he⟩ k)) := rfl
              generalize runH xs ⟨ha, hb, hc, hd, he⟩ k = st at *
              obtain ⟨⟨k1, k2⟩, ⟨k3, k4⟩, ⟨k5, k6⟩, ⟨k7, k8⟩, ⟨k9, k10⟩⟩ := hok
              have cF : wr.cell? ⟨w2.heap.size, k / 20, none⟩ = some (.func (.func (stepFn k)) #[] #[]) := by rw [hdr.cell, cell_of_row _ _ _ _ _ _ hF3]; exact theSteps_at k hlt
              have cK : wr.cell? ⟨w2.heap.size + 1, k / 20, none⟩ = some (.int .u32 (kT k)) := by rw [hdr.cell, cell_of_row _ _ _ _ _ _ hK3]; exact theConsts_at k hlt
              have cW := (hdr.cell _).trans (hW3.cell (j := k) (by rw [schedTo_len]; exact hlt))
              have q1 : (k : Int) / 20 < 4 := by omega
              have q2 : 0 ≤ (k : Int) / 20 := by omega
              have q3 : ((k : Int) / 20).toNat = k / 20 := by omega
              have q4 : (k : Int) < 80 := by omega
              have hcf := call_step k
              generalize hwv : (schedTo xs 80).getD k 0 = wv at cW
              have HWV := Lib.hid hwv
              clear hwv hF3 hK3
              go_wp2
              go_quiet ((first | (go_at_call 94; exact quiet_same (rot_any _ _ _ k1 k2 (.inr (.inl rfl)))) | exact quiet_same (fT_any k _ _ _ _)))
              go_wp2_with (go_at_call 94; refine (rot_any _ _ _ k3 k4 (.inr (.inr rfl))).mono ?_; rintro e w' ⟨rfl, rfl⟩)
              go_roundw
              case rel =>
                (repeat apply Exists.intro)
                refine ⟨?_, rfl⟩
                exact ⟨k + 1, by omega, by go_num, by rw [HST.out, stepH, HWV.out], by rw [HST.out, stepH], by rw [HST.out, stepH], by rw [HST.out, stepH], by rw [HST.out, stepH], hdr.more _⟩
              case measure => simp [intOf]; omega
            · obtain rfl : k = 80 := by omega
              have s0 : w3.cell? ⟨w.heap.size + 1, 0, none⟩ = some (.int .u32 0) := by rw [cell_of_row _ _ _ _ _ _ hR3]; rfl
              have s1 : w3.cell? ⟨w.heap.size + 1, 1, none⟩ = some (.int .u32 0) := by rw [cell_of_row _ _ _ _ _ _ hR3]; rfl
              have s2 : w3.cell? ⟨w.heap.size + 1, 2, none⟩ = some (.int .u32 0) := by rw [cell_of_row _ _ _ _ _ _ hR3]; rfl
              have s3 : w3.cell? ⟨w.heap.size + 1, 3, none⟩ = some (.int .u32 0) := by rw [cell_of_row _ _ _ _ _ _ hR3]; rfl
              have s4 : w3.cell? ⟨w.heap.size + 1, 4, none⟩ = some (.int .u32 0) := by rw [cell_of_row _ _ _ _ _ _ hR3]; rfl
              have sf : ∀ j, w3.frozen? ⟨w.heap.size + 1, j, none⟩ = false := fun j => by simp [World.frozen?, hR3]
              obtain ⟨nz, rfl⟩ := hdr
              have sf0 := sf 0
              have sf1 := sf 1
              have sf2 := sf 2
              have sf3 := sf 3
              have sf4 := sf 4
              clear sf hF3 hK3 hW3 hR3
              go_wp2
              refine bodyPost_ret (v := .agg (mixH ⟨ha, hb, hc, hd, he⟩ xs).vals) (by simp [results, Tryz.results52, go_sem, s0, s1, s2, s3, s4, H5.vals, mixH]) rfl ⟨rfl, ?_⟩
              exact (((((Below.drewN hBw3 nz).setCell (by show w.heap.size ≤ w.heap.size + 1; omega) _).setCell (by show w.heap.size ≤ w.heap.size + 1; omega) _).setCell (by show w.heap.size ≤ w.heap.size + 1; omega) _).setCell (by show w.heap.size ≤ w.heap.size + 1; omega) _).setCell (by show w.heap.size ≤ w.heap.size + 1; omega) _
end Go.Proofs.YtdlabapfcghfmaaGreatDoor
