/- The walk of SumBursts. -/
import Derived.Test.YtcbccopmbkefgaaSumMathD
import Derived.Test.YtcbccopmbkefgaaSumLaw1
namespace Go.Proofs.Ytcbccopmbkefgaa
open Go.RowKit
set_option linter.unusedVariables false

/-- Bytes in a block of the call's own, from a place on. -/
structure Rw (w : World) (B g o : Nat) (l : List Int) : Prop where
  lt : B ≤ g ∧ g < w.heap.size
  cell : ∀ j, j < l.length → w.cell? ⟨g, o + j, none⟩ = some (.int .u8 (l.getD j 0))
  fro : ∀ j, j < l.length → w.frozen? ⟨g, o + j, none⟩ = false
theorem OwnS.rw {w : World} {B n c : Nat} {e : TypeId} {A : Option Addr} {l : List Int} (h : OwnS w B e 1 (.slice A n c) n (l.map (Value.int .u8))) (hn : 0 < n) : ∃ g o, A = some ⟨g, o, none⟩ ∧ Rw w B g o l := by
  have hl := h.1
  simp at hl
  rcases h.2 with ⟨hv, rfl⟩ | ⟨g, off, cap, cur, hv, hb, ⟨fr, hg, hfr⟩, hnc, hm, hs, ht⟩
  · omega
  · injection hv with hA hn' hc
    subst hA
    have hg' := (Array.getElem?_eq_some_iff.1 hg).1
    refine ⟨g, off, rfl, ⟨hb, hg'⟩, fun j hj => ?_, fun j hj => ?_⟩
    · obtain ⟨g', off', c', hv', _, _, hc'⟩ := h.cells (by simp; omega)
      injection hv' with hA' _ _
      injection hA' with hA'
      injection hA' with h1 h2 _
      subst h1; subst h2
      rw [hc' j (by simpa using hj), List.getElem?_map, List.getElem?_eq_getElem hj]
      simp [List.getD_eq_getElem?_getD, hj]
    · obtain ⟨lo, hi⟩ := fr
      simp only at hfr
      simp only [World.frozen?, hg, Bool.and_eq_false_iff, decide_eq_false_iff_not]
      omega
theorem Rw.set {w : World} {B g o : Nat} {l : List Int} (h : Rw w B g o l) (j : Nat) (hj : j < l.length) (v : Int) : Rw (w.setCell ⟨g, o + j, none⟩ (.int .u8 v)) B g o (l.set j v) := by
  refine ⟨⟨h.lt.1, by simpa [World.setCell] using h.lt.2⟩, fun i hi => ?_, fun i hi => ?_⟩
  · rw [List.length_set] at hi
    by_cases hij : i = j
    · subst hij
      rw [World.cell?_setCell_same' _ _ _ (by rw [h.cell i hi]; rfl)]
      simp [List.getD_eq_getElem?_getD, hi]
    · rw [cell_beside _ _ _ _ _ (by omega), h.cell i hi]
      simp [List.getD_eq_getElem?_getD, List.getElem?_set_ne (show j ≠ i by omega)]
  · rw [List.length_set] at hi
    rw [World.frozen?_setCell]
    exact h.fro i hi
theorem Rw.drew {w : World} {B g o : Nat} {l : List Int} (h : Rw w B g o l) : Rw w.drew B g o l := ⟨h.lt, h.cell, h.fro⟩
theorem Rw.ints {w : World} {B g o : Nat} {l : List Int} (h : Rw w B g o l) : Ints .u8 w (some ⟨g, o, none⟩) l := fun _ => ⟨g, o, rfl, h.lt.2, h.cell⟩

set_option maxRecDepth 100000 in
set_option maxHeartbeats 4000000 in
theorem sumBursts_main (A : Option Addr) (c : Nat) (xs : List Int) (t : Int) (b : Nat) (w : World) (hI : Ints .u8 w A xs) (hb : Bytes xs) (hsz : xs.length ≤ 140737488351300) (h5 : 5 ≤ xs.length) (hb0 : b ≠ 0) (hb1 : b < 4294967296) :
    Calls Try.prog 7 #[.slice A xs.length c, .int .i64 t, .int .u32 (b : Int)] w fun e w' => e = .returned (.bool true) ∧ Below w.heap.size w w' := by
  obtain ⟨i0, hi, hz0, hz1, hz2⟩ := info_parts Try.info_u8
  have hK : (0 : Int) < 8 * (xs.length : Int) - 31 := by omega
  have t1 := Int.lt_tmod_of_pos t hK
  have t2 := Int.tmod_lt_of_pos t hK
  obtain ⟨F, hF⟩ := Int.eq_ofNat_of_zero_le (Int.emod_nonneg (Int.tmod t (8 * (xs.length : Int) - 31) + (8 * (xs.length : Int) - 31)) (by omega : (8 * (xs.length : Int) - 31) ≠ 0))
  have hF2 := Int.emod_lt_of_pos (Int.tmod t (8 * (xs.length : Int) - 31) + (8 * (xs.length : Int) - 31)) hK
  rw [hF] at hF2
  have hbd : ((b : Int) == 0) = false := by simp; omega
  have h5I : decide ((xs.length : Int) < 5) = false := by simp; omega
  go_enter Try.func7, Try.ntmps7
  go_wp2_with (at_builtin; go_loud (refine wpList_append_S rfl (.tmp 34) (.tmp 35) 35 35 rfl i0 (.int .u8 0) 1 (.slice 5) Try.underlying35 Try.underlying35 (fun _ h => by cases h) hi hz0 hz1 hz2 rfl rfl rfl (OwnS.empty (base := w.heap.size) (c := 0) (Nat.le_refl _) (heap_alloc_new w _) (by decide) (by simp)) (Src.ints (hI.below ((Below.refl _ _).alloc (Nat.le_refl _) _))) ?_ ?_ ?_ ?_; (unfold maxLen; omega); omega; (simp); intro A5 c5 w5 ho5 hg5 hw5))
  obtain ⟨g, o, rfl, hR⟩ := ho5.rw (by omega)
  have hB5 : Below w.heap.size w w5 := ((Below.refl _ _).alloc (Nat.le_refl _) (.cells #[] 5)).grown hg5 (by simp) (fun k h => by injection h with h; exact Nat.le_of_eq h)
  have HF := Lib.hid hF
  clear hF ho5 hg5 hw5 hi hz0 hz1 hz2 hbd h5I t1 t2 hK
  go_loopw [9] (fun i wr => ∃ k : Nat, k ≤ 32 ∧ i = .int .i64 k ∧ Rw wr w.heap.size g o (burstTo xs F b k) ∧ Below w.heap.size w wr) (fun i _ => 32 - (intOf i).toNat)
  case atStart => exact ⟨0, by omega, rfl, hR, hB5⟩
  case round =>
    clear hR hB5
    obtain ⟨k, hk, rfl, hR, hB⟩ := hrel
    by_cases hlt : k < 32
    · have hq : (b : Int) / 2 ^ k = ((b / 2 ^ k : Nat) : Int) := by rw [Int.natCast_ediv, Int.natCast_pow]; rfl
      have hqa : bits .and .u32 ((b : Int) / 2 ^ k) 1 = ((b / 2 ^ k % 2 : Nat) : Int) := by
        rw [hq]
        have := u32_and_nat (b / 2 ^ k) 1 (Nat.lt_of_le_of_lt (Nat.div_le_self _ _) hb1) (by decide)
        rw [Nat.and_one_is_mod] at this
        exact this
      by_cases hbit : b / 2 ^ k % 2 = 1
      · have hd : (bits .and .u32 ((b : Int) / 2 ^ k) 1 == 1) = true := by rw [hqa, hbit]; rfl
        have HN : Hid (burstTo xs F b (k + 1) = flip (burstTo xs F b k) (F + k)) := by show _ = _; rw [burstTo, if_pos hbit]
        have hlen := burstTo_len xs F b k
        have hbo := burstTo_ok xs F b k hb (by omega)
        clear hq hqa hbit
        generalize burstTo xs F b k = l at *
        have hj : (F + k) / 8 < l.length := by omega
        have c0 := hR.cell _ hj
        have f0 := hR.fro _ hj
        have r0 := hbo.at_ _ hj
        have HX : Hid (flip l (F + k) = l.set ((F + k) / 8) (((l.getD ((F + k) / 8) 0).toNat ^^^ 2 ^ ((F + k) % 8) : Nat) : Int)) := rfl
        have HLen := Lib.hid hlen
        have hR' := hR
        generalize l.getD ((F + k) / 8) 0 = x at *
        obtain ⟨y, rfl⟩ := Int.eq_ofNat_of_zero_le r0.1
        obtain ⟨q, hq⟩ : ∃ q, q = (F + k) / 8 := ⟨_, rfl⟩
        obtain ⟨r, hr⟩ : ∃ r, r = (F + k) % 8 := ⟨_, rfl⟩
        rw [← hq] at c0 f0 HX
        rw [← hr] at HX
        have hq0 : (q : Int) < xs.length := by omega
        have hr8 : (r : Int) < 8 := by omega
        have hq4 : IntKind.i64.wrap (((F : Int) + k).tdiv 8) = (q : Int) := by
          rw [Int.tdiv_eq_ediv_of_nonneg (by omega)]
          rw [show ((F : Int) + k) / 8 = q by omega]
          exact IntWalk.i64_in _ (by omega)
        have hr4 : ((F : Int) + k).tmod 8 = (r : Int) := by
          rw [Int.tmod_eq_emod_of_nonneg (by omega)]; omega
        have hq3 : IntKind.i64.wrap ((F : Int) + k) = (F : Int) + k := by exact IntWalk.i64_in _ (by omega)
        have hlq : q < l.length := by omega
        have HQ := Lib.hid hq
        have HR := Lib.hid hr
        clear hq hr hj
        have hx8 : bits .xor .u8 (y : Int) (IntKind.u8.wrap (2 ^ r)) = ((y ^^^ 2 ^ r : Nat) : Int) := by
          have hp : 2 ^ r < 2 ^ 8 := Nat.pow_lt_pow_right (by decide) (by omega)
          have e : IntKind.u8.wrap (2 ^ r) = ((2 ^ r : Nat) : Int) := by
            have e1 : ((2 : Int) ^ r) = ((2 ^ r : Nat) : Int) := by rw [Int.natCast_pow]; rfl
            rw [e1]
            generalize 2 ^ r = p at hp
            unfold IntKind.wrap
            simp [IntKind.signed, IntKind.bits]
            omega
          rw [e]
          exact u8_xor_nat _ _ (by omega) (by omega)
        clear hlen
        go_wp2
        refine wp_region_still_tail 19 (by kernel_rfl) (by kernel_rfl) ?_
        simp only [List.take_succ_cons, List.take_zero, List.drop_succ_cons, List.drop_zero]
        repeat still_step
        refine wpStill_nil ?_
        change wpList _ _ _ _ _ wr.drew
        go_wp2
        go_roundw
        case rel =>
          have hs := hR'.set q hlq ((y ^^^ 2 ^ r : Nat) : Int)
          refine ⟨k + 1, by omega, by go_num, ?_, (hB.setCell hR'.lt.1 _).drew⟩
          rw [HN.out, HX.out]
          exact hs.drew
        case measure => simp [intOf]; omega
      · have hd : (bits .and .u32 ((b : Int) / 2 ^ k) 1 == 1) = false := by rw [hqa]; simp; omega
        have HN : Hid (burstTo xs F b (k + 1) = burstTo xs F b k) := by show _ = _; rw [burstTo, if_neg hbit]
        clear hq hqa hbit
        generalize burstTo xs F b k = l at *
        go_wp2
        go_roundw
        case rel => exact ⟨k + 1, by omega, by go_num, by rw [HN.out]; exact hR, hB⟩
        case measure => simp [intOf]; omega
    · obtain rfl : k = 32 := by omega
      have HNE : Hid (((4294967295 - (crcTo 4294967295 xs : Nat) : Int) == 4294967295 - (crcTo 4294967295 (burstTo xs F b 32) : Nat)) = false) := by
        have := crc_burst xs F b hb1 hb0 (by omega)
        show _ = _
        simp
        omega
      have hne : (((4294967295 - (crcTo 4294967295 xs : Nat) : Int) != 4294967295 - (crcTo 4294967295 (burstTo xs F b 32) : Nat))) = true := by
        have := HNE.out
        rw [bne, this]; rfl
      have hlen := burstTo_len xs F b 32
      have hbo := burstTo_ok xs F b 32 hb (by omega)
      generalize burstTo xs F b 32 = ys at *
      have hIw := hI.below hB
      have hJ := hR.ints
      have hlen' : ys.length ≤ 140737488351300 := by omega
      have hIy : Ints .u8 wr A xs := hIw
      go_wp2_with (first | (go_at_call 25; refine (awake3_any _).mono ?_; rintro e w3 ⟨rfl, hb3⟩) | (have hm := hb1'; go_at_call 28; refine (crc_any (some ⟨g, o, none⟩) _ c5 ys _ (hJ.below hm) hlen hbo (by omega) (crcOut_num ys hbo).1).mono ?_; rw [(crcOut_num ys hbo).2]; rintro e w2 ⟨rfl, hb2'⟩) | (go_at_call 28; refine (crc_any A _ c xs wr hIy rfl hb (by omega) (crcOut_num xs hb).1).mono ?_; rw [(crcOut_num xs hb).2]; rintro e w1 ⟨rfl, hb1'⟩))
      go_ret
      exact ⟨rfl, hB.trans (((hb1'.trans (hb2'.mono hb1'.size)).trans (hb3.mono (Nat.le_trans hb1'.size hb2'.size))).mono hB.size)⟩

set_option maxRecDepth 100000 in
theorem sumBursts_walk (A : Option Addr) (c : Nat) (xs : List Int) (t b : Int) (w : World) (hI : Ints .u8 w A xs) (wf : ∀ x ∈ xs, (Lit.int .u8 x).wf = true) (hsz : xs.length ≤ 140737488351300) (wt : (Lit.int .i64 t).wf = true) (wb : (Lit.int .u32 b).wf = true) :
    Calls Try.prog 7 #[.slice A xs.length c, .int .i64 t, .int .u32 b] w fun e w' => e = .returned (.bool true) ∧ Below w.heap.size w w' := by
  have hb := bytes_wf xs wf
  have hb32 : 0 ≤ b ∧ b < 4294967296 := by
    simp [Lit.wf, IntKind.min, IntKind.max, IntKind.bits, IntKind.signed] at wb
    omega
  by_cases h5 : (xs.length : Int) < 5
  · have hd : decide ((xs.length : Int) < 5) = true := by simpa using h5
    go_enter Try.func7, Try.ntmps7
    go_wp2_with (go_at_call 25; refine (awake3_any w).mono ?_; rintro e w1 ⟨rfl, hb1⟩)
    go_ret
    exact ⟨rfl, hb1⟩
  · have hd : decide ((xs.length : Int) < 5) = false := by simpa using h5
    by_cases h0 : b = 0
    · subst h0
      clear h5 hb32 wb
      go_enter Try.func7, Try.ntmps7
      go_wp2_with (go_at_call 25; refine (awake3_any w).mono ?_; rintro e w1 ⟨rfl, hb1⟩)
      go_ret
      exact ⟨rfl, hb1⟩
    · obtain ⟨m, rfl⟩ := Int.eq_ofNat_of_zero_le hb32.1
      exact sumBursts_main A c xs t m w hI hb hsz (by omega) (by omega) (by omega)
end Go.Proofs.Ytcbccopmbkefgaa
