/- The 256 numbers of an index: idx.fans. -/
import Derived.Test.YtndjebddgnmpfaaIdxA
namespace Go.Proofs.Ytndjebddgnmpfaa
open Go.RowKit
set_option linter.unusedVariables false
set_option linter.unusedSimpArgs false

def fanF (b : List Int) (k j : Nat) : Value := if j < k then .int .i64 (fan b j) else .int .i64 0
def fanA (b : List Int) (k : Nat) : Array Value := (Array.range 256).map (fanF b k)
theorem fanA_size (b : List Int) (k : Nat) : (fanA b k).size = 256 := by simp [fanA]
theorem fanA_at (b : List Int) (k j : Nat) (hj : j < 256) : (fanA b k)[j]? = some (fanF b k j) := by simp [fanA, hj]
theorem fanA_one (b : List Int) (k : Nat) : ∀ v ∈ (fanA b k).toList, v.oneCell' = true := by
  intro v hv
  obtain ⟨j, hj, rfl⟩ := List.getElem_of_mem hv
  simp only [fanA, Array.getElem_toList, Array.getElem_map, fanF]
  split <;> rfl
theorem fan_zero : Try.zeroCells58 = (Array.range 256).map fun _ => (Value.int .i64 0) := by kernel_rfl
theorem fan_new (b : List Int) (w : World) : Cel (w.alloc (.cells Try.zeroCells58 58)) w.heap.size 58 256 (fanF b 0) := by
  rw [fan_zero]
  refine ⟨_, heap_alloc_new w _, by simp, fun i hi => ?_⟩
  simp [fanF, hi]
theorem fanF_set (b : List Int) (k j : Nat) : (if j = k then Value.int .i64 (fan b k) else fanF b k j) = fanF b (k + 1) j := by
  unfold fanF
  by_cases h : j = k
  · subst h; rw [if_pos rfl, if_pos (by omega)]
  · rw [if_neg h]
    by_cases h2 : j < k
    · rw [if_pos h2, if_pos (by omega)]
    · rw [if_neg h2, if_neg (by omega)]
theorem fan_info (b : List Int) (k : Nat) : (Try.prog.info? 58).map (·.size) = some (fanA b k).size := by rw [fanA_size]; kernel_rfl
def FansPost (b : List Int) (w : World) (e : Ending) (w' : World) : Prop :=
  ∃ k, e = .returned (.tuple #[.agg (fanA b k), .bool (fansB b && decide (fan b 255 ≤ 4096))]) ∧ (fansB b = true → k = 256) ∧ Below w.heap.size w w'
theorem fan_drop (b : List Int) (k p : Nat) (h : 8 + 4 * k = p) : n4 (b.drop p) 0 = fan b k := by rw [n4_drop, ← h]; rfl
theorem fan_stored {w : World} {g k : Nat} {b : List Int} (h : Cel w g 58 256 (fun j => if 0 ≤ j ∧ j < 0 + (fanA b k).size then (fanA b k).getD (j - 0) undef else fanF b k j)) : Cel w g 58 256 (fanF b k) :=
  h.congr fun i hi => by
    rw [fanA_size, if_pos ⟨by omega, by omega⟩, Nat.sub_zero, Array.getD_eq_getD_getElem?, fanA_at b k i hi]
    rfl

set_option maxRecDepth 100000 in
set_option maxHeartbeats 4000000 in
theorem fans_any (blk off N c : Nat) (b : List Int) (w : World) (hI : Ints .u8 w (some ⟨blk, off, none⟩) b) (hN : b.length = N) (hb : Bytes b) (hl : 1072 ≤ N) (hc : N ≤ c) (hcm : c ≤ 9223372036854775807) :
    Calls Try.prog 50 #[.slice (some ⟨blk, off, none⟩) N c] w (FansPost b w) := by
  have hC := fan_new b w
  have hB0 : Below w.heap.size w (w.alloc (.cells Try.zeroCells58 58)) := (Below.refl _ _).alloc (Nat.le_refl _) _
  have HC := Lib.hid hC
  have HB0 := Lib.hid hB0
  have HI := Lib.hid hI
  have HN := Lib.hid hN
  have HB := Lib.hid hb
  clear hC hB0 hI hN hb
  go_enter Try.func50, Try.ntmps50
  go_wp2
  generalize w.alloc (.cells Try.zeroCells58 58) = w0 at *
  obtain ⟨g, hg⟩ : ∃ g, w.heap.size = g := ⟨_, rfl⟩
  rw [hg] at HC ⊢
  have HG := Lib.hid hg
  clear hg
  go_loopw [5] (fun i wr => ∃ k : Nat, i = .int .i64 k ∧ k ≤ 256 ∧ Cel wr g 58 256 (fanF b k) ∧ (∀ j, j + 1 < k → fan b j ≤ fan b (j + 1)) ∧ Below w.heap.size w wr) (fun i _ => 256 - (intOf i).toNat)
  case atStart => exact ⟨0, rfl, by omega, HC.out, (fun j hj => by omega), HB0.out⟩
  case round =>
    clear HC HB0
    obtain ⟨k, rfl, hk, hC, hup, hBl⟩ := hrel
    have HC := Lib.hid hC
    have HUP := Lib.hid hup
    have HBL := Lib.hid hBl
    clear hC hup hBl
    by_cases hlt : k < 256
    · have d1 : decide ((k : Int) < 256) = true := decide_eq_true (by omega)
      obtain ⟨p, hp⟩ : ∃ p : Nat, 8 + 4 * k = p := ⟨_, rfl⟩
      have s1 : IntKind.i64.wrap (4 * (k : Int)) = 4 * (k : Int) := IntWalk.i64_in _ (by omega)
      have s2 : IntKind.i64.wrap (8 + 4 * (k : Int)) = (p : Int) := by rw [IntWalk.i64_in _ (by omega)]; omega
      have s3 : IntKind.i64.wrap ((k : Int) + 1) = ((k + 1 : Nat) : Int) := by rw [IntWalk.i64_in _ (by omega)]; omega
      have hpc : ¬ c = p := by omega
      have hpn : p ≤ N := by omega
      have hd : (b.drop p).length = N - p := by rw [List.length_drop, HN.out]
      have hnum := fun W' (hW : Below w.heap.size w W') => inumber_any (some ⟨blk, off + p, none⟩) (N - p) (c - p) (b.drop p) W' ((HI.out.below hW).drop p) hd (by omega) (HB.out.drop p)
      have HNUM := Lib.hid (hnum wr HBL.out)
      have HP := Lib.hid hp
      clear hnum hd hp
      go_wp2_with fail
      refine HNUM.out.mono ?_
      rintro e w1 ⟨rfl, nq, rfl⟩
      rw [fan_drop b k p HP.out]
      have hC1 := HC.out.drewN nq
      have hv := hC1.cell k hlt
      have hf := hC1.frozen k
      have hC2 : Cel ((wr.drewN nq).setCell ⟨g, k, none⟩ (.int .i64 (fan b k))) g 58 256 (fanF b (k + 1)) := (hC1.set k (.int .i64 (fan b k))).congr fun j _ => fanF_set b k j
      have hB2 : Below w.heap.size w ((wr.drewN nq).setCell ⟨g, k, none⟩ (.int .i64 (fan b k))) := (Below.drewN HBL.out nq).setCell (by rw [HG.out]; exact Nat.le_refl _) _
      have HC2 := Lib.hid hC2
      have HB2 := Lib.hid hB2
      clear hC1 hC2 hB2 HC HBL HNUM
      go_wp2
      generalize (wr.drewN nq).setCell ⟨g, k, none⟩ (.int .i64 (fan b k)) = w2 at *
      go_upto_region 5 with (fail)
      go_cut [27] (fun v wx => (∃ bb : Bool, v = .bool bb ∧ (bb = true → fansB b = false) ∧ (bb = false → ∀ j, j + 1 < k + 1 → fan b j ≤ fan b (j + 1))) ∧ ∃ n, wx = w2.drewN n)
      case first => as_aux_lemma =>
        by_cases hk0 : k = 0
        · have d2 : decide ((0 : Int) < (k : Int)) = false := decide_eq_false (by omega)
          have d2' : decide (0 < k) = false := decide_eq_false (by omega)
          go_wp2
          go_quiet (fail)
          go_wp2
          go_meet
          exact ⟨⟨false, rfl, (fun h => by cases h), fun _ j hj => by omega⟩, _, rfl⟩
        · obtain ⟨j, hj⟩ : ∃ j : Nat, k = j + 1 := ⟨k - 1, by omega⟩
          have d2 : decide ((0 : Int) < (k : Int)) = true := decide_eq_true (by omega)
          have d2' : decide (0 < k) = true := decide_eq_true (by omega)
          have s4 : IntKind.i64.wrap ((k : Int) - 1) = (j : Int) := by rw [IntWalk.i64_in _ (by omega)]; omega
          have c1 : w2.cell? ⟨g, k, none⟩ = some (.int .i64 (fan b k)) := (HC2.out.cell k hlt).trans (by unfold fanF; rw [if_pos (by omega)])
          have c0 : w2.cell? ⟨g, j, none⟩ = some (.int .i64 (fan b j)) := (HC2.out.cell j (by omega)).trans (by unfold fanF; rw [if_pos (by omega)])
          have hj2 : j < 256 := by omega
          have HJ := Lib.hid hj
          clear hj
          by_cases hlt2 : fan b k < fan b j
          · have d3 : decide (fan b k < fan b j) = true := decide_eq_true hlt2
            go_wp2
            go_quiet (fail)
            go_wp2
            go_meet
            exact ⟨⟨true, rfl, (fun _ => by
              cases hF : fansB b
              · rfl
              · have := (fansB_iff b).1 hF j (by have := HJ.out; omega)
                rw [← HJ.out] at this
                omega), (fun h => by cases h)⟩, _, rfl⟩
          · have d3 : decide (fan b k < fan b j) = false := decide_eq_false hlt2
            go_wp2
            go_quiet (fail)
            go_wp2
            go_meet
            exact ⟨⟨false, rfl, (fun h => by cases h), fun _ i hi => by
              by_cases e : i + 1 < k
              · exact HUP.out i e
              · have e1 : i = j := by have := HJ.out; omega
                subst e1
                rw [← HJ.out]
                omega⟩, _, rfl⟩
      case rest =>
        obtain ⟨⟨bb, rfl, hb1, hb2⟩, n5, rfl⟩ := hcut
        have HB1 := Lib.hid hb1
        have HB3 := Lib.hid hb2
        have hC5 := HC2.out.drewN n5
        have HB5 := Lib.hid (Below.drewN HB2.out n5)
        clear hb1 hb2 HC2 HB2
        generalize w2.drewN n5 = w5 at *
        cases bb
        · have HC5 := Lib.hid hC5
          clear hC5
          go_wp2
          go_roundw
          case rel => exact ⟨k + 1, rfl, by omega, HC5.out, HB3.out rfl, HB5.out⟩
          case measure => simp [intOf]; omega
        · have hz := fan_info b (k + 1)
          have HF := Lib.hid (HB1.out rfl)
          go_wp2_with (first
            | (refine wpList_load_part (vs := fanA b (k + 1)) (off := 0) rfl (.tmp 2) rfl rfl hC5 Try.underlying58 rfl hz (by rw [fanA_size]; exact Nat.le_refl _) (fun j hj => by rw [Nat.zero_add]; exact fanA_at b (k + 1) j (by rw [fanA_size] at hj; exact hj)) ?_)
            | (refine wpList_store_part (vs := fanA b (k + 1)) (off := 0) rfl (.tmp 2) (.tmp 28) rfl rfl rfl hC5 hz (by rw [fanA_size]; exact Nat.le_refl _) (fanA_one b (k + 1)) ?_; intro w6 hC6 hg6 hs6; have hC7 := fan_stored hC6))
          exact bodyPost_ret (v := .tuple #[.agg (fanA b (k + 1)), .bool false]) (results_cel2 rfl _ _ rfl rfl hC7 Try.underlying58 rfl hz (by rw [fanA_size]; exact Nat.le_refl _) (fun j hj => fanA_at b (k + 1) j (by rw [fanA_size] at hj; exact hj))) rfl ⟨k + 1, by rw [HF.out]; rfl, (fun h => by rw [HF.out] at h; cases h), HB5.out.grown hg6 HB5.out.size (fun k h => by injection h with h; rw [← h, HG.out]; exact Nat.le_refl _)⟩
    · have hk : k = 256 := by omega
      subst hk
      have d1 : decide (((256 : Nat) : Int) < 256) = false := rfl
      have hz := fan_info b 256
      have hC5 := HC.out
      have c255 : wr.cell? ⟨g, 255, none⟩ = some (.int .i64 (fan b 255)) := hC5.cell 255 (by decide)
      have HF : Hid (fansB b = true) := Lib.hid ((fansB_iff b).2 fun i hi => HUP.out i (by omega))
      clear HC
      go_wp2_with (first
        | (refine wpList_load_part (vs := fanA b 256) (off := 0) rfl (.tmp 2) rfl rfl hC5 Try.underlying58 rfl hz (by rw [fanA_size]; exact Nat.le_refl _) (fun j hj => by rw [Nat.zero_add]; exact fanA_at b 256 j (by rw [fanA_size] at hj; exact hj)) ?_)
        | (refine wpList_store_part (vs := fanA b 256) (off := 0) rfl (.tmp 2) (.tmp 30) rfl rfl rfl hC5 hz (by rw [fanA_size]; exact Nat.le_refl _) (fanA_one b 256) ?_; intro w6 hC6 hg6 hs6; have hC7 := fan_stored hC6))
      exact bodyPost_ret (v := .tuple #[.agg (fanA b 256), .bool (decide (fan b 255 ≤ 4096))]) (results_cel2 rfl _ _ rfl rfl hC7 Try.underlying58 rfl hz (by rw [fanA_size]; exact Nat.le_refl _) (fun j hj => fanA_at b 256 j (by rw [fanA_size] at hj; exact hj))) rfl ⟨256, by rw [HF.out]; rfl, (fun _ => rfl), HBL.out.grown hg6 HBL.out.size (fun k h => by injection h with h; rw [← h, HG.out]; exact Nat.le_refl _)⟩
end Go.Proofs.Ytndjebddgnmpfaa
