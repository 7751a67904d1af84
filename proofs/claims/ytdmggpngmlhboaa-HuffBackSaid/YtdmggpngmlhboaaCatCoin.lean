/- slices.Grow of nil, and slices.Concat of two slices of stemma/huff.coin. -/
import Derived.Test.YtdmggpngmlhboaaChg
import Derived.Lib.AppendZeros
namespace Go.Proofs.Ytdmggpngmlhboaa
open Go.RowKit
set_option linter.unusedVariables false

theorem Try.info_Coin : (Try.prog.info? 76).map (fun i => (i.zero, i.size, i.bytes)) = some (some (Value.agg #[.int .i64 0, .slice none 0 0]), 2, 32) := by kernel_rfl
set_option maxRecDepth 100000 in
set_option maxHeartbeats 2000000 in
theorem grow_Coin (n : Nat) (w : World) (hn : n * 32 ≤ 140737488355328) :
    Calls Try.prog 67 #[.slice none 0 0, .int .i64 n] w fun e w' => ∃ A c, e = .returned (.slice A 0 c) ∧ OwnS w' w.heap.size 76 2 (.slice A 0 c) 0 [] ∧ Below w.heap.size w w' := by
  obtain ⟨i0, hi, hz0, hz1, hz2⟩ := info_parts Try.info_Coin
  have h0 : ¬ ((n : Int) < 0) := by omega
  by_cases hp : 0 < n
  · have hr := Lib.run_append_nil_zeros (P := Try.prog) w 74 3 74 76 i0 _ .i64 .i64 Try.underlying74 Try.underlying3 hi hz0 n hp (by rw [hz1]; decide) (by omega) (by rw [hz2]; omega)
    have hcap := grownCap_ge w n 0 76
    have hcm := grownCap_le_maxLen w n 0 76 (by unfold maxLen; omega)
    have hsz : (Builtin.zeroCells (Value.agg #[.int .i64 0, .slice none 0 0]).cells n ++ Builtin.zeroCells (Value.agg #[.int .i64 0, .slice none 0 0]).cells (grownCap w n 0 76 - n)).size = grownCap w n 0 76 * 2 := by
      simp only [Array.size_append, size_zeroCells]
      show n * 2 + (grownCap w n 0 76 - n) * 2 = _
      rw [← Nat.add_mul]
      congr 1
      omega
    generalize Builtin.zeroCells (Value.agg #[.int .i64 0, .slice none 0 0]).cells n ++ Builtin.zeroCells (Value.agg #[.int .i64 0, .slice none 0 0]).cells (grownCap w n 0 76 - n) = cs at *
    generalize grownCap w n 0 76 = c at *
    have HR := Lib.hid hr
    have HSZ := Lib.hid hsz
    have HCM := Lib.hid hcm
    clear hr hsz hi hz0 hz1 hz2 hcm
    go_enter Try.func67, Try.ntmps67
    go_wp2_with (at_builtin; refine Lib.wpList_append_run _ rfl (.tmp 20) (.tmp 21) _ _ rfl _ _ rfl rfl _ _ HR.out ?_)
    go_ret
    refine ⟨_, _, rfl, ⟨rfl, .inr ⟨w.heap.size, 0, c, cs, rfl, Nat.le_refl _, ⟨(0, 0), by first | exact heap_alloc_new w.drew _ | exact heap_alloc_new w _, .inl (Nat.le_refl _)⟩, Nat.zero_le _, HCM.out, ?_, ?_⟩⟩, by first | exact ((Below.refl _ _).drew).alloc (Nat.le_refl _) _ | exact ((Below.refl _ _).alloc (Nat.le_refl _) _).drew⟩
    · rw [HSZ.out]; omega
    · simp
  · obtain rfl : n = 0 := by omega
    go_enter Try.func67, Try.ntmps67
    go_wp2
    go_ret
    exact ⟨none, 0, rfl, OwnS.nil _ _ _ _, Below.refl _ _⟩
/-- A slice that reads as n elements here and in all later worlds. -/
def SrcAll_Coin (w : World) (v : Value) (n : Nat) (xs : List Value) : Prop := (∃ A c, v = .slice A n c) ∧ ∀ w', Below w.heap.size w w' → Src Try.prog w' 2 v n xs
set_option maxRecDepth 100000 in
set_option maxHeartbeats 4000000 in
theorem concat_Coin (bb oo cc n1 n2 : Nat) (v1 v2 : Value) (x1 x2 : List Value) (w : World) (h1 : w.cell? ⟨bb, oo, none⟩ = some v1) (h2 : w.cell? ⟨bb, oo + 1, none⟩ = some v2) (hbb : bb < w.heap.size) (s1 : SrcAll_Coin w v1 n1 x1) (s2 : SrcAll_Coin w v2 n2 x2) (hn : (n1 + n2) * 32 ≤ 140737488355328) :
    Calls Try.prog 34 #[.slice (some ⟨bb, oo, none⟩) 2 cc] w fun e w' => ∃ A c, e = .returned (.slice A (n1 + n2) c) ∧ OwnS w' w.heap.size 76 2 (.slice A (n1 + n2) c) (n1 + n2) (x1 ++ x2) ∧ Below w.heap.size w w' := by
  obtain ⟨⟨A1, c1, rfl⟩, k1⟩ := s1
  obtain ⟨⟨A2, c2, rfl⟩, k2⟩ := s2
  obtain ⟨i0, hi, hz0, hz1, hz2⟩ := info_parts Try.info_Coin
  have K1 := Lib.hid k1
  have K2 := Lib.hid k2
  have hcell : ∀ w', Below w.heap.size w w' → w'.cell? ⟨bb, oo, none⟩ = some (.slice A1 n1 c1) ∧ w'.cell? ⟨bb, oo + 1, none⟩ = some (.slice A2 n2 c2) := fun w' hb => ⟨(hb.cell (p := ⟨bb, oo, none⟩) hbb).trans h1, (hb.cell (p := ⟨bb, oo + 1, none⟩) hbb).trans h2⟩
  have HC := Lib.hid hcell
  have hg := grow_Coin (n1 + n2) w hn
  clear k1 k2 hcell
  go_enter Try.func34, Try.ntmps34
  go_wp2
  go_loop [3, 11] (fun t k => ∃ j : Nat, j ≤ 2 ∧ k = .int .i64 j ∧ t = .int .i64 ((if j = 0 then 0 else if j = 1 then n1 else n1 + n2 : Nat) : Int)) (fun _ k => 2 - (intOf k).toNat)
  case atStart => exact ⟨0, by decide, rfl, rfl⟩
  case round =>
    obtain ⟨j, hj, rfl, rfl⟩ := hrel
    have hjj : j = 0 ∨ j = 1 ∨ j = 2 := by omega
    rcases hjj with rfl | rfl | rfl
    · simp only [if_true]
      have p0 : ¬ ((n1 : Int) < 0) := by omega
      go_wp2
      go_round
      case rel => exact ⟨1, by decide, rfl, by simp⟩
      case measure => simp [intOf]
    · simp only [if_neg (show ¬ (1 : Nat) = 0 by decide), if_true]
      have p0 : ¬ ((n1 : Int) + (n2 : Int) < 0) := by omega
      go_wp2
      go_round
      case rel => exact ⟨2, by decide, rfl, by simp⟩
      case measure => simp [intOf]
    · simp only [if_neg (show ¬ (2 : Nat) = 0 by decide), if_neg (show ¬ (2 : Nat) = 1 by decide)]
      have hb0 := Below.refl w.heap.size w
      go_wp2_with (go_at_call 67; refine hg.mono ?_; rintro e w3 ⟨A3, c3, rfl, ho3, hb3⟩)
      clear hg
      have HO3 := Lib.hid ho3
      have HB3 := Lib.hid hb3
      clear ho3 hb3 hb0
      go_loopw [6, 27] (fun v k wr => ∃ j : Nat, j ≤ 2 ∧ k = .int .i64 j ∧ OwnS wr w.heap.size 76 2 v (if j = 0 then 0 else if j = 1 then n1 else n1 + n2) (if j = 0 then [] else if j = 1 then x1 else x1 ++ x2) ∧ Below w.heap.size w wr) (fun _ k _ => 2 - (intOf k).toNat)
      case atStart => exact ⟨0, by decide, rfl, HO3.out, HB3.out⟩
      case round =>
        clear HO3 HB3
        obtain ⟨j, hj, rfl, ho, hb⟩ := hrel
        have hc := HC.out _ hb
        obtain ⟨hc1, hc2⟩ := hc
        have hjj : j = 0 ∨ j = 1 ∨ j = 2 := by omega
        rcases hjj with rfl | rfl | rfl
        · simp only [if_true] at ho
          have hs := K1.out _ hb
          obtain ⟨Ax, cx, rfl⟩ := ho.shape
          have hm1 : 0 + n1 ≤ maxLen := by unfold maxLen; omega
          have hm2 : (0 + n1) * 32 ≤ 140737488355328 := by omega
          have hsz := hb.size
          have HB := Lib.hid hb
          clear hb
          go_wp2_with (at_builtin; refine wpList_append_S rfl (.tmp 31) (.tmp 32) 74 74 rfl i0 _ 32 (.slice 76) Try.underlying74 Try.underlying74 (fun _ h => by cases h) hi hz0 hz1 hz2 rfl rfl rfl ho hs hm1 hm2 hsz ?_; intro A9 c9 w9 ho9 hg9 hw9)
          go_roundw
          case rel => exact ⟨1, by decide, rfl, by simpa using ho9, HB.out.trans ((Chg.of_grown (S := fun k => (Value.slice Ax 0 cx).ownBlock = some k) hg9 (fun _ h => h)).below hsz (fun k hk hs => by have := (ho.lt k hs).1; omega))⟩
          case measure => simp [intOf]
        · simp only [if_neg (show ¬ (1 : Nat) = 0 by decide), if_true] at ho
          have hs := K2.out _ hb
          obtain ⟨Ax, cx, rfl⟩ := ho.shape
          have hm1 : n1 + n2 ≤ maxLen := by unfold maxLen; omega
          have hm2 : (n1 + n2) * 32 ≤ 140737488355328 := by omega
          have hsz := hb.size
          have HB := Lib.hid hb
          clear hb
          go_wp2_with (at_builtin; refine wpList_append_S rfl (.tmp 31) (.tmp 32) 74 74 rfl i0 _ 32 (.slice 76) Try.underlying74 Try.underlying74 (fun _ h => by cases h) hi hz0 hz1 hz2 rfl rfl rfl ho hs hm1 hm2 hsz ?_; intro A9 c9 w9 ho9 hg9 hw9)
          go_roundw
          case rel => exact ⟨2, by decide, rfl, by simpa using ho9, HB.out.trans ((Chg.of_grown (S := fun k => (Value.slice Ax n1 cx).ownBlock = some k) hg9 (fun _ h => h)).below hsz (fun k hk hs => by have := (ho.lt k hs).1; omega))⟩
          case measure => simp [intOf]
        · simp only [if_neg (show ¬ (2 : Nat) = 0 by decide), if_neg (show ¬ (2 : Nat) = 1 by decide)] at ho
          obtain ⟨Ax, cx, rfl⟩ := ho.shape
          have HB := Lib.hid hb
          have HO := Lib.hid ho
          clear hb ho
          go_wp2
          go_ret
          exact ⟨_, _, rfl, HO.out, HB.out⟩
end Go.Proofs.Ytdmggpngmlhboaa
