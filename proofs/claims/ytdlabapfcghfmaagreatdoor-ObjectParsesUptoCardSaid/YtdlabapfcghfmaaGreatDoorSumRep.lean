/- A sum.Sum in memory; table, begun. -/
import Derived.Test.YtdlabapfcghfmaaGreatDoorSumMix
import Derived.Test.YtdlabapfcghfmaaGreatDoorRow
namespace Go.Proofs.YtdlabapfcghfmaaGreatDoor
open Go.RowKit
set_option linter.unusedVariables false

/-! ### The CRC's numbers -/
def crcBit (c : Nat) : Nat := if c % 2 = 1 then (c / 2) ^^^ 3988292384 else c / 2
def crcN : Nat → Nat → Nat
  | 0, c => c
  | n + 1, c => crcBit (crcN n c)
def crcTab (i : Nat) : Nat := crcN 8 i

theorem crcBit_lt (c : Nat) (h : c < 4294967296) : crcBit c < 4294967296 := by
  unfold crcBit
  split
  · exact Nat.xor_lt_two_pow (n := 32) (by omega) (by omega)
  · omega
theorem crcN_lt (n c : Nat) (h : c < 4294967296) : crcN n c < 4294967296 := by
  induction n with
  | zero => exact h
  | succ n ih => exact crcBit_lt _ ih
/-- The program's form of one bit. -/
theorem crcBit_prog (c : Nat) (h : c < 4294967296) : bits .xor .u32 ((c : Int) / 2) (bits .and .u32 3988292384 (-(bits .and .u32 (c : Int) 1) % 4294967296)) = ((crcBit c : Nat) : Int) := by
  have e1 : bits .and .u32 (c : Int) 1 = ((c % 2 : Nat) : Int) := by
    have := u32_and_nat c 1 h (by decide)
    rw [nat_mask1] at this
    exact this
  rw [e1]
  have hd : ((c : Int) / 2) = ((c / 2 : Nat) : Int) := by omega
  rw [hd]
  unfold crcBit
  rcases Nat.mod_two_eq_zero_or_one c with h0 | h0
  · rw [h0, if_neg (by decide)]
    have e2 : bits .and .u32 3988292384 (-((0 : Nat) : Int) % 4294967296) = ((0 : Nat) : Int) := by decide +kernel
    rw [e2, u32_xor_nat _ _ (by omega) (by decide), Nat.xor_zero]
  · rw [h0, if_pos rfl]
    have e2 : bits .and .u32 3988292384 (-((1 : Nat) : Int) % 4294967296) = ((3988292384 : Nat) : Int) := by decide +kernel
    rw [e2, u32_xor_nat _ _ (by omega) (by decide)]

set_option maxRecDepth 100000 in
set_option maxHeartbeats 1000000 in
theorem table_any (w : World) : Calls Tryz.prog 93 #[] w fun e w' => (∃ cs : Array Value, e = .returned (.agg cs) ∧ cs.size = 256 ∧ ∀ i, i < 256 → cs[i]? = some (.int .u32 (crcTab i : Nat))) ∧ Below w.heap.size w w' := by
  go_enter Tryz.func93, Tryz.ntmps93
  go_wp2
  have hP0 : Pre (w.alloc (.cells Tryz.zeroCells102 102)) w.heap.size 102 256 .u32 ((List.range 0).map fun j => ((crcTab j : Nat) : Int)) :=
    ⟨_, heap_at _ _ _ rfl, by kernel_rfl, by simp, fun j hj => by simp at hj⟩
  have hB0 : Below w.heap.size w (w.alloc (.cells Tryz.zeroCells102 102)) := (Below.refl _ _).alloc (Nat.le_refl _) _
  generalize hw0 : w.alloc (.cells Tryz.zeroCells102 102) = w0 at *
  clear hw0
  go_loopw [3] (fun i wr => ∃ k : Nat, k ≤ 256 ∧ i = .int .i64 k ∧ Pre wr w.heap.size 102 256 .u32 ((List.range k).map fun j => ((crcTab j : Nat) : Int)) ∧ Below w.heap.size w wr) (fun i _ => 256 - (intOf i).toNat)
  case atStart => exact ⟨0, by omega, rfl, hP0, hB0⟩
  case round =>
    clear hP0 hB0
    obtain ⟨k, hk, rfl, hP, hB⟩ := hrel
    by_cases hlt : k < 256
    · go_wp2
      obtain ⟨wo, rfl⟩ : ∃ wo : World, wo = wr := ⟨_, rfl⟩
      go_loopw [2, 8] (fun c i wr => ∃ n : Nat, n ≤ 8 ∧ i = .int .i64 n ∧ c = .int .u32 (crcN n k : Nat) ∧ wr = wo) (fun _ i _ => 8 - (intOf i).toNat)
      case atStart => exact ⟨0, by omega, rfl, rfl, rfl⟩
      case round =>
        obtain ⟨n, hn, rfl, rfl, rfl⟩ := hrel
        have hc := crcN_lt n k (by omega)
        by_cases hl8 : n < 8
        · have HB := Lib.hid (crcBit_prog (crcN n k) hc)
          generalize hcn : crcN n k = c at *
          have HCN := Lib.hid hcn
          clear hcn
          go_wp2
          go_roundw
          case rel => exact ⟨n + 1, by omega, by go_num, by rw [crcN, HCN.out, ← HB.out], by first | rfl | trivial⟩
          case measure => simp [intOf]; omega
        · obtain rfl : n = 8 := by omega
          obtain ⟨v0, hv0⟩ := hP.some_ (j := k) hlt
          have hf0 := hP.frozen k
          go_wp2
          go_roundw
          case rel =>
            have hs := hP.snoc (by simpa using hlt) ((crcTab k : Nat) : Int)
            refine ⟨k + 1, by omega, by go_num, ?_, hB.setCell (by exact Nat.le_refl _) _⟩
            rw [List.range_succ, List.map_append]
            have e : ((List.range k).map fun j => ((crcTab j : Nat) : Int)).length = k := by simp
            rw [e] at hs
            exact hs
          case measure => simp [intOf]; omega
    · obtain rfl : k = 256 := by omega
      have hC : Cel wr w.heap.size 102 256 (fun i => .int .u32 (crcTab i : Nat)) := by
        obtain ⟨cs, h1, h2, h3, h4⟩ := hP
        refine ⟨cs, h1, h2, fun i hi => ?_⟩
        rw [h4 i (by simpa using hi)]
        simp [List.getD_eq_getElem?_getD, hi]
      obtain ⟨vs, hvs, hvn⟩ : ∃ vs : Array Value, vs.size = 256 ∧ ∀ j, j < vs.size → vs[j]? = some (Value.int .u32 (crcTab j : Nat)) :=
        ⟨((List.range 256).map fun i => Value.int .u32 (crcTab i : Nat)).toArray, by simp, fun j hj => by simp at hj; simp [hj]⟩
      have hone : ∀ v ∈ vs.toList, v.oneCell' = true := by
        intro v hv
        obtain ⟨j, hj, rfl⟩ := List.getElem_of_mem hv
        have := hvn j (by simpa using hj)
        simp only [Array.getElem_toList]
        rw [Array.getElem?_eq_getElem (by simpa using hj)] at this
        injection this with this
        rw [this]; rfl
      have hinfo : (Tryz.prog.info? 102).map (·.size) = some vs.size := by rw [hvs]; kernel_rfl
      go_wp2_with (first
        | (refine wpList_load_part (vs := vs) (d := .array 256 99) (off := 0) rfl (.tmp 0) rfl rfl hC Tryz.underlying102 rfl hinfo (by omega) (fun j hj => by rw [Nat.zero_add]; exact hvn j hj) ?_)
        | (refine wpList_store_part (vs := vs) (off := 0) rfl (.tmp 0) (.tmp 22) rfl rfl rfl hC hinfo (by omega) hone ?_; intro w2 hC2 hg2 hs2))
      refine bodyPost_ret (v := .agg vs) (results_cel rfl _ rfl hC2 (d := .array 256 99) Tryz.underlying102 rfl hinfo (by omega) (fun j hj => ?_)) rfl ⟨⟨vs, rfl, hvs, fun i hi => hvn i (by omega)⟩, hB.grown hg2 hB.size (fun k hk => by injection hk with hk; omega)⟩
      rw [if_pos ⟨by omega, by omega⟩, Nat.sub_zero]
      simp [hj]
end Go.Proofs.YtdlabapfcghfmaaGreatDoor
