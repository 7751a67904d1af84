/- The walk of SumCuts. -/
import Derived.Test.YtcbccopmbkefgaaSumState
import Derived.Test.YtcbccopmbkefgaaSumLaw1
import Derived.Test.YtcbccopmbkefgaaRows2
namespace Go.Proofs.Ytcbccopmbkefgaa
open Go.RowKit
set_option linter.unusedVariables false

def CutsRel (w : World) (kind : Int) (xss : List (List Int)) (all i : Value) (wr : World) : Prop :=
  ∃ (k : Nat) (v : Value) (A : Option Addr) (c : Nat), k ≤ xss.length ∧ k ≤ 30 ∧ i = .int .i64 k ∧ all = .slice A (xss.take k).flatten.length c ∧ SumSt kind (xss.take k).flatten w.heap.size wr v ∧
    OwnS wr (w.heap.size + 1) 5 1 (.slice A (xss.take k).flatten.length c) (xss.take k).flatten.length ((xss.take k).flatten.map (Value.int .u8)) ∧
    (∀ q, v.ownBlock = some q → w.heap.size ≤ q ∧ (Value.slice A (xss.take k).flatten.length c).ownBlock ≠ some q) ∧ Below w.heap.size w wr

theorem bytes_flatten {xss : List (List Int)} (h : ∀ ys ∈ xss, Bytes ys) (k : Nat) : Bytes (xss.take k).flatten := fun x hx => by
  obtain ⟨ys, h1, h2⟩ := List.mem_flatten.1 hx
  exact h ys (List.mem_of_mem_take h1) x h2

set_option maxRecDepth 100000 in
set_option maxHeartbeats 4000000 in
theorem sumCuts_main (A : Option Addr) (c : Nat) (xss : List (List Int)) (kind : Int) (w : World) (hI : RowsI .u8 w A xss) (hb : ∀ ys ∈ xss, Bytes ys) (hsz : xss.length ≤ 1048576) (hfl : xss.flatten.length ≤ 1048576) (k1 : 1 ≤ kind) (k3 : kind ≤ 3) :
    Calls Try.prog 8 #[.slice A xss.length c, .int .i64 kind] w fun e w' => e = .returned (.bool true) ∧ Below w.heap.size w w' := by
  obtain ⟨i0, hi, hz0, hz1, hz2⟩ := info_parts Try.info_u8
  have g1 : ¬ kind < 1 := by omega
  have g2 : ¬ 3 < kind := by omega
  go_enter Try.func8, Try.ntmps8
  go_wp2_with fail
  refine (new_st kind w k1 k3).mono ?_
  rintro e w1 ⟨rfl, hs1, hb1⟩
  go_wp2
  go_loopw [7, 8] (CutsRel w kind xss) (fun _ i _ => xss.length - (intOf i).toNat)
  case atStart => exact ⟨0, .slice none 0 0, none, 0, by omega, by omega, rfl, rfl, hs1, OwnS.nil _ _ _ _, (fun q hq => by cases hq), hb1⟩
  case round =>
    clear hs1 hb1
    obtain ⟨k, v, A9, c9, hk, hk30, rfl, rfl, hs, ho, hv, hB⟩ := hrel
    have hXb := bytes_flatten hb k
    have hXl := flatten_take_le xss k
    by_cases hlt : k < xss.length ∧ k < 30
    · obtain ⟨hlt, hl30⟩ := hlt
      have HN := Lib.hid (flatten_take_succ xss k hlt)
      have hfn := flatten_take_le xss (k + 1)
      rw [HN.out, List.length_append] at hfn
      have hyb : Bytes (xss.getD k []) := by
        have : xss.getD k [] = xss[k] := by simp [List.getD_eq_getElem?_getD, List.getElem?_eq_getElem hlt]
        rw [this]; exact hb _ (List.getElem_mem hlt)
      obtain ⟨b, o, rfl, hbl, hcell⟩ := hI (by omega)
      obtain ⟨Aj, cj, hcj, hIj⟩ := hcell k hlt
      have hcr := (hB.cell (p := ⟨b, o + k, none⟩) hbl).trans hcj
      have hIr := hIj.below hB
      clear hcell
      generalize (xss.take k).flatten = X at *
      generalize xss.getD k [] = Y at *
      have hltI : (k : Int) < xss.length := by omega
      have hl30I : (k : Int) < 30 := by omega
      go_wp2_with fail
      refine (write_st kind X w.heap.size v Aj Y.length cj Y wr hs hIr rfl hXb hyb (by omega)).mono ?_
      rintro e w2 ⟨rfl, v2, hs2, hch2, hv2⟩
      have hS : ∀ q, q < w.heap.size → ¬ (q = w.heap.size ∨ v.ownBlock = some q) := by
        rintro q hq (rfl | h)
        · omega
        · have := (hv q h).1; omega
      have hB2 := hB.trans (hch2.below hB.size hS)
      have ho2 := ho.chg hch2 (by
        rintro q hq (rfl | h)
        · have := (ho.lt _ hq).1; omega
        · exact (hv q h).2 hq)
      have hv2' : ∀ q, v2.ownBlock = some q → w.heap.size ≤ q ∧ (Value.slice A9 X.length c9).ownBlock ≠ some q := by
        intro q hq
        rcases hv2 with h | h
        · exact hv q (h ▸ hq)
        · have h4 := h q hq
          refine ⟨Nat.le_trans hB.size h4, fun h5 => ?_⟩
          have := (ho.lt q h5).2
          omega
      clear hs ho hv hB hch2 hv2 hIr hcr hS
      have hcr := (hB2.cell (p := ⟨b, o + k, none⟩) hbl).trans hcj
      have hIr := hIj.below hB2
      have hsz2 := hB2.size
      go_wp2_with (at_builtin; go_loud (refine wpList_append_S rfl (.tmp 54) (.tmp 58) 35 35 rfl i0 (.int .u8 0) 1 (.slice 5) Try.underlying35 Try.underlying35 (fun _ h => by cases h) hi hz0 hz1 hz2 rfl rfl rfl ho2 (Src.ints hIr) ?_ ?_ ?_ ?_; (unfold maxLen; omega); omega; (have := hs2.blk; omega); intro A3 c3 w3 ho3 hg3 hw3))
      all_goals
        have hs3 := hs2.chg (Chg.of_grown (S := fun q => (Value.slice A9 X.length c9).ownBlock = some q) hg3 (fun q h => h)) (fun h => by have := (ho2.lt _ h).1; omega) (fun q hq h => (hv2' q hq).2 h)
        have hB3 := hB2.grown hg3 hsz2 (fun q h => by have := (ho2.lt _ h).1; omega)
        have hv3 : ∀ q, v2.ownBlock = some q → w.heap.size ≤ q ∧ (Value.slice A3 (X.length + Y.length) c3).ownBlock ≠ some q := by
          intro q hq
          refine ⟨(hv2' q hq).1, fun h5 => ?_⟩
          rcases hw3 with h | h
          · exact (hv2' q hq).2 (h ▸ h5)
          · have := hs2.lt q hq
            rw [h] at h5
            injection h5 with h5
            omega
        have hR : ∀ w4, Below w3.heap.size w3 w4 → CutsRel w kind xss (.slice A3 (X.length + Y.length) c3) (.int .i64 ((k : Int) + 1)) w4 := by
          intro w4 hb4
          refine ⟨k + 1, v2, A3, c3, by omega, by omega, by go_num, ?_, ?_, ?_, ?_, hB3.trans (hb4.mono hB3.size)⟩
          · rw [HN.out, List.length_append]
          · rw [HN.out]; exact hs3.below hb4
          · rw [HN.out, List.length_append, List.map_append]; exact ho3.heap (fun q hq => hb4.block q (ho3.lt q hq).2)
          · rw [HN.out, List.length_append]; exact hv3
        have hm : xss.length - (intOf (.int .i64 ((k : Int) + 1))).toNat < xss.length - (intOf (.int .i64 (k : Int))).toNat := by simp [intOf]; omega
        clear hs2 ho2 hv2' hB2 hcr hIr hsz2 hg3 hw3 ho3 hB3 hv3
      · refine (ask_st kind (X ++ Y) w.heap.size v2 w3 hs3 (fun x hx => by rcases List.mem_append.1 hx with h | h; exact hXb x h; exact hyb x h) (by rw [List.length_append]; omega)).mono ?_
        rintro e w4 ⟨A4, c4, rfl, ho4, hb4⟩
        have hR4 := hR w4 hb4
        clear hR hs3 ho4 hb4
        go_wp2
        go_roundw
        case rel => exact hR4
        case measure => exact hm
      · exact ⟨hR w3 (Below.refl _ _), hm⟩
    · have hex : (¬ (k : Int) < xss.length) ∨ ((k : Int) < xss.length ∧ ¬ (k : Int) < 30) := by omega
      clear hlt
      generalize (xss.take k).flatten = X at *
      have hXr := ho.ints
      rcases hex with hex | ⟨hex, hex30⟩
      all_goals
        go_wp2_with fail
        refine (ask_st kind X w.heap.size v wr hs hXb (by omega)).mono ?_
        rintro e w2 ⟨A2, c2, rfl, ho2, hb2⟩
        have hX2 := hXr.below hb2
        have hO2 := ho2.ints
        have hB2 := hB.trans (hb2.mono hB.size)
        clear hs ho hv hB hb2 ho2 hXr
        go_wp2_with fail
        refine (new_st kind w2 k1 k3).mono ?_
        rintro e w3 ⟨rfl, hs3, hb3⟩
        have hX3 := hX2.below hb3
        go_wp2_with fail
        refine (write_st kind [] w2.heap.size (.slice none 0 0) A9 X.length c9 X w3 hs3 hX3 rfl (fun x h => by cases h) hXb (by simp; omega)).mono ?_
        rintro e w4 ⟨rfl, v4, hs4, hch4, hv4⟩
        rw [List.nil_append] at hs4
        have hb4 := hb3.trans (hch4.below hb3.size (by rintro q hq (rfl | h); omega; cases h))
        have hX4 := hX2.below hb4
        have hO4 := hO2.below hb4
        have hB4 := hB2.trans (hb4.mono hB2.size)
        clear hs3 hb3 hX3 hch4 hv4 hb4 hX2 hO2 hB2
        go_wp2
        refine wp_region_rel (by kernel_rfl) [fun v _ => v = .slice A2 (sumOut kind X).length c2, fun v _ => v = .string (strOfNums (sumOut kind X)), fun v _ => v = .pointer (some ⟨w2.heap.size, 0, none⟩), fun v w => ∃ A c, v = .slice A (sumOut kind X).length c ∧ Ints .u8 w A (sumOut kind X), fun v _ => v = .string (strOfNums (sumOut kind X)), fun v _ => v = .bool true, fun v _ => v = .bool true, fun v _ => v = .slice A2 (sumOut kind X).length c2, fun v _ => v = .string (strOfNums (sumOut kind X)), fun v _ => v = .int .i64 kind, fun v _ => v = .slice A9 X.length c9, fun v _ => v = .string (strOfNums X), fun v w => ∃ A c, v = .slice A (sumOut kind X).length c ∧ Ints .u8 w A (sumOut kind X), fun v _ => v = .string (strOfNums (sumOut kind X)), fun v _ => v = .bool true, fun v _ => v = .bool true, fun v _ => v = .bool true, fun v _ => v = .bool true, fun v _ => v = .bool true, fun v _ => v = .bool true] (allM ⟨MonoB.eq _, MonoB.eq _, MonoB.eq _, MonoB.ints _ _ _, MonoB.eq _, MonoB.eq _, MonoB.eq _, MonoB.eq _, MonoB.eq _, MonoB.eq _, MonoB.eq _, MonoB.eq _, MonoB.ints _ _ _, MonoB.eq _, MonoB.eq _, MonoB.eq _, MonoB.eq _, MonoB.eq _, MonoB.eq _, MonoB.eq _, trivial⟩) (by kernel_rfl) (by kernel_rfl) ?steps ?done rfl
        case steps =>
          refine ⟨?_, ?_, ?_, ?_, ?_, ?_, ?_, ?_, ?_, ?_, ?_, ?_, ?_, ?_, ?_, ?_, ?_, ?_, ?_, ?_, trivial⟩
          · intro us a w1 ha hR hd
            exact StepR.pure (v := .slice A2 (sumOut kind X).length c2) rfl rfl (by rw [ha]; simp only [putAll]; go_simp) (RelB.refl _) rfl
          · intro us a w1 ha hR hd
            have e0 := hd 0 _ (by kernel_rfl) rfl
            have hcv := run_str_ints (P := Try.prog) (w := w1) 35 9 5 Try.underlying35 Try.underlying5 Try.underlying9 A2 c2 (sumOut kind X) (hO4.drew.below hR)
            exact StepR.pure (v := .string (strOfNums (sumOut kind X))) rfl rfl (by rw [ha]; simp only [putAll]; go_simp) (RelB.refl _) rfl
          · intro us a w1 ha hR hd
            exact StepR.pure (v := .pointer (some ⟨w2.heap.size, 0, none⟩)) rfl rfl (by rw [ha]; simp only [putAll]; go_simp) (RelB.refl _) rfl
          · intro us a w1 ha hR hd
            have e2 := hd 2 _ (by kernel_rfl) rfl
            refine StepR.call (f := 35) (args := #[.pointer (some ⟨w2.heap.size, 0, none⟩)]) rfl rfl ?_ ?_
            · rw [ha]; simp only [putAll]; go_simp
            · refine (ask_st kind X w2.heap.size v4 w1 (hs4.drew.below hR) hXb (by omega)).mono ?_
              rintro e w' ⟨A5, c5, rfl, ho, hbl⟩
              exact ⟨_, rfl, hbl, A5, c5, rfl, ho.ints⟩
          · intro us a w1 ha hR hd
            obtain ⟨A3, c3, e3, h3⟩ := hd 3 _ (by kernel_rfl) rfl
            have hcv := run_str_ints (P := Try.prog) (w := w1) 35 9 5 Try.underlying35 Try.underlying5 Try.underlying9 A3 c3 (sumOut kind X) h3
            exact StepR.pure (v := .string (strOfNums (sumOut kind X))) rfl rfl (by rw [ha]; simp only [putAll]; go_simp) (RelB.refl _) rfl
          · intro us a w1 ha hR hd
            have e1 := hd 1 _ (by kernel_rfl) rfl
            have e4 := hd 4 _ (by kernel_rfl) rfl
            exact StepR.pure (v := .bool true) rfl rfl (by rw [ha]; simp only [putAll]; go_simp) (RelB.refl _) rfl
          · intro us a w1 ha hR hd
            have e5 := hd 5 _ (by kernel_rfl) rfl
            exact StepR.pure (v := .bool true) rfl rfl (by rw [ha]; simp only [putAll]; go_simp) (RelB.refl _) rfl
          · intro us a w1 ha hR hd
            have e6 := hd 6 _ (by kernel_rfl) rfl
            exact StepR.pure (v := .slice A2 (sumOut kind X).length c2) rfl (wanted_guard rfl rfl (v := us 6) (t := 81) (by rw [ha]; kernel_rfl) e6) (by rw [ha]; simp only [putAll]; go_simp) (RelB.refl _) rfl
          · intro us a w1 ha hR hd
            have e7 := hd 7 _ (by kernel_rfl) rfl
            have e6 := hd 6 _ (by kernel_rfl) rfl
            have hcv := run_str_ints (P := Try.prog) (w := w1) 35 9 5 Try.underlying35 Try.underlying5 Try.underlying9 A2 c2 (sumOut kind X) (hO4.drew.below hR)
            exact StepR.pure (v := .string (strOfNums (sumOut kind X))) rfl (wanted_guard rfl rfl (v := us 6) (t := 81) (by rw [ha]; kernel_rfl) e6) (by rw [ha]; simp only [putAll]; go_simp) (RelB.refl _) rfl
          · intro us a w1 ha hR hd
            have e6 := hd 6 _ (by kernel_rfl) rfl
            exact StepR.pure (v := .int .i64 kind) rfl (wanted_guard rfl rfl (v := us 6) (t := 81) (by rw [ha]; kernel_rfl) e6) (by rw [ha]; simp only [putAll]; go_simp) (RelB.refl _) rfl
          · intro us a w1 ha hR hd
            have e6 := hd 6 _ (by kernel_rfl) rfl
            exact StepR.pure (v := .slice A9 X.length c9) rfl (wanted_guard rfl rfl (v := us 6) (t := 81) (by rw [ha]; kernel_rfl) e6) (by rw [ha]; simp only [putAll]; go_simp) (RelB.refl _) rfl
          · intro us a w1 ha hR hd
            have e10 := hd 10 _ (by kernel_rfl) rfl
            have e6 := hd 6 _ (by kernel_rfl) rfl
            have hcv := run_str_ints (P := Try.prog) (w := w1) 35 9 5 Try.underlying35 Try.underlying5 Try.underlying9 A9 c9 (X) (hX4.drew.below hR)
            exact StepR.pure (v := .string (strOfNums X)) rfl (wanted_guard rfl rfl (v := us 6) (t := 81) (by rw [ha]; kernel_rfl) e6) (by rw [ha]; simp only [putAll]; go_simp) (RelB.refl _) rfl
          · intro us a w1 ha hR hd
            have e9 := hd 9 _ (by kernel_rfl) rfl
            have e11 := hd 11 _ (by kernel_rfl) rfl
            have e6 := hd 6 _ (by kernel_rfl) rfl
            refine StepR.call (f := 36) (args := #[.int .i64 kind, .string (strOfNums X)]) rfl (wanted_guard rfl rfl (v := us 6) (t := 81) (by rw [ha]; kernel_rfl) e6) ?_ ?_
            · rw [ha]; simp only [putAll]; go_simp
            · refine (refSum_any kind (strOfNums X) w1 k1 k3 (by rw [strOfNums_size]; omega)).mono ?_
              rw [bytesOf_str X hXb]
              rintro e w' ⟨A5, c5, rfl, ho, hbl⟩
              exact ⟨_, rfl, hbl, A5, c5, rfl, ho.ints⟩
          · intro us a w1 ha hR hd
            obtain ⟨A12, c12, e12, h12⟩ := hd 12 _ (by kernel_rfl) rfl
            have e6 := hd 6 _ (by kernel_rfl) rfl
            have hcv := run_str_ints (P := Try.prog) (w := w1) 35 9 5 Try.underlying35 Try.underlying5 Try.underlying9 A12 c12 (sumOut kind X) h12
            exact StepR.pure (v := .string (strOfNums (sumOut kind X))) rfl (wanted_guard rfl rfl (v := us 6) (t := 81) (by rw [ha]; kernel_rfl) e6) (by rw [ha]; simp only [putAll]; go_simp) (RelB.refl _) rfl
          · intro us a w1 ha hR hd
            have e8 := hd 8 _ (by kernel_rfl) rfl
            have e13 := hd 13 _ (by kernel_rfl) rfl
            have e6 := hd 6 _ (by kernel_rfl) rfl
            exact StepR.pure (v := .bool true) rfl (wanted_guard rfl rfl (v := us 6) (t := 81) (by rw [ha]; kernel_rfl) e6) (by rw [ha]; simp only [putAll]; go_simp) (RelB.refl _) rfl
          · intro us a w1 ha hR hd
            have e6 := hd 6 _ (by kernel_rfl) rfl
            have e14 := hd 14 _ (by kernel_rfl) rfl
            exact StepR.pure (v := .bool true) rfl rfl (by rw [ha]; simp only [putAll]; go_simp) (RelB.refl _) rfl
          · intro us a w1 ha hR hd
            have e15 := hd 15 _ (by kernel_rfl) rfl
            exact StepR.pure (v := .bool true) rfl rfl (by rw [ha]; simp only [putAll]; go_simp) (RelB.refl _) rfl
          · intro us a w1 ha hR hd
            have e16 := hd 16 _ (by kernel_rfl) rfl
            refine StepR.call (f := 25) (args := #[]) rfl (wanted_guard rfl rfl (v := us 16) (t := 91) (by rw [ha]; kernel_rfl) e16) ?_ ?_
            · rw [ha]; simp only [putAll]; go_simp
            · refine (awake3_any w1).mono ?_
              rintro e w' ⟨rfl, hbl⟩
              exact ⟨_, rfl, hbl, rfl⟩
          · intro us a w1 ha hR hd
            have e16 := hd 16 _ (by kernel_rfl) rfl
            have e17 := hd 17 _ (by kernel_rfl) rfl
            exact StepR.pure (v := .bool true) rfl rfl (by rw [ha]; simp only [putAll]; go_simp) (RelB.refl _) rfl
          · intro us a w1 ha hR hd
            have e18 := hd 18 _ (by kernel_rfl) rfl
            exact StepR.pure (v := .bool true) rfl rfl (by rw [ha]; simp only [putAll]; go_simp) (RelB.refl _) rfl
        case done =>
          intro us w1 hR hd
          have e19 := hd 19 _ rfl
          simp only [putAll]
          go_simp
          go_wp2
          go_ret
          exact ⟨rfl, hB4.trans (hR.undrew.mono hB4.size)⟩

set_option maxRecDepth 100000 in
theorem sumCuts_walk (A : Option Addr) (c : Nat) (xss : List (List Int)) (kind : Int) (w : World) (hI : RowsI .u8 w A xss) (wf : ∀ ys ∈ xss, ∀ x ∈ ys, (Lit.int .u8 x).wf = true) (hsz : xss.flatten.length + xss.length + 1 ≤ 1048576) (wk : (Lit.int .i64 kind).wf = true) :
    Calls Try.prog 8 #[.slice A xss.length c, .int .i64 kind] w fun e w' => e = .returned (.bool true) ∧ Below w.heap.size w w' := by
  by_cases hk : 1 ≤ kind ∧ kind ≤ 3
  · exact sumCuts_main A c xss kind w hI (fun ys h => bytes_wf ys (wf ys h)) (by omega) (by omega) hk.1 hk.2
  · have hk' : kind < 1 ∨ (¬ kind < 1 ∧ 3 < kind) := by omega
    rcases hk' with h1 | ⟨h1, h3⟩
    · go_enter Try.func8, Try.ntmps8
      go_wp2_with fail
      refine (new_bad kind w (.inl h1)).mono ?_
      rintro e w1 ⟨rfl, rfl⟩
      go_wp2_with (go_at_call 25; refine (awake3_any w).mono ?_; rintro e w1 ⟨rfl, hb1⟩)
      go_ret
      exact ⟨rfl, hb1⟩
    · go_enter Try.func8, Try.ntmps8
      go_wp2_with fail
      refine (new_bad kind w (.inr h3)).mono ?_
      rintro e w1 ⟨rfl, rfl⟩
      go_wp2_with (go_at_call 25; refine (awake3_any w).mono ?_; rintro e w1 ⟨rfl, hb1⟩)
      go_ret
      exact ⟨rfl, hb1⟩
end Go.Proofs.Ytcbccopmbkefgaa
