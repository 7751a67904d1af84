/- begun: a sum of nothing, as it lies in memory. -/
import Derived.Test.YtdlabapfcghfmaaGreatDoorSumRep
namespace Go.Proofs.YtdlabapfcghfmaaGreatDoor
open Go.RowKit
set_option linter.unusedVariables false

/-- The cells of a sum.Sum. -/
def sumF (kind : Int) (h : H5) (v : Value) (len : Int) (tab : Nat → Int) (crc a b : Int) (i : Nat) : Value :=
  if i = 0 then .int .i64 kind else if i = 1 then .int .u32 h.a else if i = 2 then .int .u32 h.b else if i = 3 then .int .u32 h.c else if i = 4 then .int .u32 h.d else if i = 5 then .int .u32 h.e
  else if i = 6 then v else if i = 7 then .int .u64 len else if i < 264 then .int .u32 (tab (i - 8)) else if i = 264 then .int .u32 crc else if i = 265 then .int .u32 a else .int .u32 b
/-- A sum at block g; v is the slice of its rest. -/
structure SumRep (g : Nat) (w : World) (v : Value) (kind : Int) (h : H5) (rest : List Int) (len : Int) (tab : Nat → Int) (crc a b : Int) : Prop where
  cel : Cel w g 104 267 (sumF kind h v len tab crc a b)
  own : OwnS w 0 5 1 v rest.length (rest.map (Value.int .u8))
def h0 : H5 := ⟨1732584193, 4023233417, 2562383102, 271733878, 3285377520⟩

def zSum (i : Nat) : Value := sumF 0 ⟨0, 0, 0, 0, 0⟩ (.slice none 0 0) 0 (fun _ => 0) 0 0 0 i
theorem zero_sum : Tryz.zeroCells104 = (Array.range 267).map zSum := by kernel_rfl
theorem sum_new (kind : Int) (w : World) : Cel (w.alloc (.cells ((((((((Tryz.zeroCells104.setIfInBounds 0 (.int .i64 kind)).setIfInBounds 1 (.int .u32 1732584193)).setIfInBounds 2 (.int .u32 4023233417)).setIfInBounds 3 (.int .u32 2562383102)).setIfInBounds 4 (.int .u32 271733878)).setIfInBounds 5 (.int .u32 3285377520)).setIfInBounds 264 (.int .u32 4294967295)).setIfInBounds 265 (.int .u32 1)) 104)) w.heap.size 104 267 (sumF kind h0 (.slice none 0 0) 0 (fun _ => 0) 4294967295 1 0) := by
  rw [zero_sum]
  refine ⟨_, heap_alloc_new w _, by simp, fun i hi => ?_⟩
  have hz : ((Array.range 267).map zSum)[i]? = some (zSum i) := by simp [hi]
  by_cases e0 : i = 0
  · subst e0; simp [sumF]
  by_cases e1 : i = 1
  · subst e1; simp [sumF, h0]
  by_cases e2 : i = 2
  · subst e2; simp [sumF, h0]
  by_cases e3 : i = 3
  · subst e3; simp [sumF, h0]
  by_cases e4 : i = 4
  · subst e4; simp [sumF, h0]
  by_cases e5 : i = 5
  · subst e5; simp [sumF, h0]
  by_cases e6 : i = 264
  · subst e6; simp [sumF]
  by_cases e7 : i = 265
  · subst e7; simp [sumF]
  rw [Array.getElem?_setIfInBounds_ne (by omega), Array.getElem?_setIfInBounds_ne (by omega), Array.getElem?_setIfInBounds_ne (by omega), Array.getElem?_setIfInBounds_ne (by omega), Array.getElem?_setIfInBounds_ne (by omega), Array.getElem?_setIfInBounds_ne (by omega), Array.getElem?_setIfInBounds_ne (by omega), Array.getElem?_setIfInBounds_ne (by omega), hz]
  simp [zSum, sumF, e0, e1, e2, e3, e4, e5, e6, e7]

set_option maxRecDepth 100000 in
set_option maxHeartbeats 1000000 in
theorem begun_any (kind : Int) (w : World) (hk : kind ≠ 2) : Calls Tryz.prog 51 #[.int .i64 kind] w fun e w' => e = .returned (.pointer (some ⟨w.heap.size, 0, none⟩)) ∧ SumRep w.heap.size w' (.slice none 0 0) kind h0 [] 0 (fun _ => 0) 4294967295 1 0 ∧ Below w.heap.size w w' := by
  have hC := sum_new kind w
  go_enter Tryz.func51, Tryz.ntmps51
  go_wp2
  go_ret
  exact ⟨rfl, ⟨hC, OwnS.nil _ _ _ _⟩, (Below.refl _ _).alloc (Nat.le_refl _) _⟩

set_option maxRecDepth 100000 in
set_option maxHeartbeats 1000000 in
theorem begun_crc (w : World) : Calls Tryz.prog 51 #[.int .i64 2] w fun e w' => e = .returned (.pointer (some ⟨w.heap.size, 0, none⟩)) ∧ SumRep w.heap.size w' (.slice none 0 0) 2 h0 [] 0 (fun i => (crcTab i : Nat)) 4294967295 1 0 ∧ Below w.heap.size w w' := by
  have hC := sum_new 2 w
  go_enter Tryz.func51, Tryz.ntmps51
  go_wp2_with fail
  refine (table_any _).mono ?_
  rintro e w1 ⟨⟨vs, rfl, hvs, hvn⟩, hb1⟩
  have hB1 : Below w.heap.size w w1 := ((Below.refl _ _).alloc (Nat.le_refl _) _).trans (hb1.mono (by simp))
  have hC1 := hC.below hb1 (by simp)
  clear hC hb1
  have hone : ∀ v ∈ vs.toList, v.oneCell' = true := by
    intro v hv
    obtain ⟨j, hj, rfl⟩ := List.getElem_of_mem hv
    have := hvn j (by simpa [hvs] using hj)
    simp only [Array.getElem_toList]
    rw [Array.getElem?_eq_getElem (by simpa using hj)] at this
    injection this with this
    rw [this]; rfl
  have hinfo : (Tryz.prog.info? 102).map (·.size) = some vs.size := by rw [hvs]; kernel_rfl
  go_wp2_with (refine wpList_store_part (vs := vs) (off := 8) rfl (.tmp 13) (.tmp 11) rfl rfl rfl hC1 hinfo (by omega) hone ?_; intro w2 hC2 hg2 hs2)
  go_ret
  refine ⟨rfl, ⟨hC2.congr (fun i hi => ?_), OwnS.nil _ _ _ _⟩, hB1.grown hg2 hB1.size (fun k hk => by injection hk with hk; omega)⟩
  rw [hvs]
  by_cases h1 : 8 ≤ i ∧ i < 8 + 256
  · have h2 := hvn (i - 8) (by omega)
    rw [if_pos h1]
    have h3 : vs.getD (i - 8) undef = .int .u32 (crcTab (i - 8) : Nat) := by simp [h2]
    rw [h3]
    unfold sumF
    repeat rw [if_neg (by omega)]
    rw [if_pos (by omega)]
  · rw [if_neg h1]
    unfold sumF
    by_cases h2 : i < 8
    · match i, h2 with
      | 0, _ => rfl
      | 1, _ => rfl
      | 2, _ => rfl
      | 3, _ => rfl
      | 4, _ => rfl
      | 5, _ => rfl
      | 6, _ => rfl
      | 7, _ => rfl
    · have h3 : ¬ i < 264 := by omega
      simp [h3, show i ≠ 0 by omega, show i ≠ 1 by omega, show i ≠ 2 by omega, show i ≠ 3 by omega, show i ≠ 4 by omega, show i ≠ 5 by omega, show i ≠ 6 by omega, show i ≠ 7 by omega]
end Go.Proofs.YtdlabapfcghfmaaGreatDoor
