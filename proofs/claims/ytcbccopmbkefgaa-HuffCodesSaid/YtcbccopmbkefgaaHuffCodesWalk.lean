/- The walk of the law HuffCodes. -/
import Derived.Test.YtcbccopmbkefgaaHuffNew
import Derived.Test.YtcbccopmbkefgaaHuffAwake
namespace Go.Proofs.Ytcbccopmbkefgaa
open Go.RowKit

set_option maxRecDepth 100000 in
set_option maxHeartbeats 1000000 in
theorem huffCodes_walk (A : Option Addr) (c : Nat) (xs : List Int) (w : World) (h : Ints .i64 w A xs) (_wf : ∀ x ∈ xs, (Lit.int .i64 x).wf = true) (hn : xs.length ≤ 140737488351232) :
    Calls Try.prog 3 #[.slice A xs.length c] w fun e w' => e = .returned (.bool true) ∧ Below w.heap.size w w' := by
  by_cases hb : cntB xs = false ∨ 400 < xs.length
  · go_enter Try.func3, Try.ntmps3
    go_wp2_with (first
      | (go_at_call 14; refine (codes_bad A c xs w h hn hb).mono ?_; rintro e w' ⟨rfl, rfl⟩)
      | (go_at_call 15; refine (codesR_bad A c xs w h hn hb).mono ?_; rintro e w' ⟨rfl, rfl⟩)
      | (go_at_call 16; refine (huffNew_bad A c xs w h hn hb).mono ?_; rintro e w' ⟨rfl, rfl⟩)
      | (go_at_call 17; refine (complete_any A c xs w h hn).mono ?_; rintro e w' ⟨rfl, rfl⟩)
      | (go_at_call 18; refine (completeR_any A c xs w h hn).mono ?_; rintro e w' ⟨rfl, rfl⟩))
    refine wp_loop_once ?_
    go_wp2_with (go_at_call 19; refine (awake5_any _).mono ?_; rintro e w1 ⟨rfl, hb1⟩)
    go_ret
    exact ⟨rfl, hb1⟩
  · have hb' : cntB xs = true := by simpa using fun h' => hb (.inl h')
    have hn' : xs.length ≤ 400 := by omega
    clear hb
    by_cases hc : 32768 < cntN xs
    · go_enter Try.func3, Try.ntmps3
      go_wp2_with (first
        | (go_at_call 14; refine (codes_form A c xs w h hb' hn' hc).mono ?_; rintro e w' ⟨rfl, rfl⟩)
        | (go_at_call 15; refine (codesR_form A c xs w h hb' hn' hc).mono ?_; rintro e w' ⟨rfl, rfl⟩)
        | (go_at_call 16; refine (huffNew_form A c xs w h hb' hn' hc).mono ?_; rintro e w' ⟨rfl, rfl⟩)
        | (go_at_call 17; refine (complete_any A c xs w h hn).mono ?_; rintro e w' ⟨rfl, rfl⟩)
        | (go_at_call 18; refine (completeR_any A c xs w h hn).mono ?_; rintro e w' ⟨rfl, rfl⟩))
      refine wp_loop_once ?_
      go_wp2_with (go_at_call 19; refine (awake5_any _).mono ?_; rintro e w1 ⟨rfl, hb1⟩)
      go_ret
      exact ⟨rfl, hb1⟩
    · have hc' : cntN xs ≤ 32768 := by omega
      clear hc
      go_enter Try.func3, Try.ntmps3
      go_wp2_with fail
      refine (codes_ok A c xs w h hb' hn' hc').mono ?_
      rintro e w1 ⟨rfl, hr1, hb1⟩
      go_wp2_with fail
      refine (codesR_ok A c xs w1 (h.below hb1) hb' hn' hc').mono ?_
      rintro e w2 ⟨rfl, hr2, hb2⟩
      have hb12 := hb1.trans (hb2.mono hb1.size)
      go_wp2_with fail
      refine (huffNew_ok A c xs w2 (h.below hb12) hb' hn' hc').mono ?_
      rintro e w3 ⟨⟨g, rfl, hg, _⟩, hb3⟩
      have hb13 := hb12.trans (hb3.mono hb12.size)
      go_wp2_with (first
        | (go_at_call 17; refine (complete_any A c xs w3 (h.below hb13) hn).mono ?_; rintro e w' ⟨rfl, rfl⟩)
        | (go_at_call 18; refine (completeR_any A c xs w3 (h.below hb13) hn).mono ?_; rintro e w' ⟨rfl, rfl⟩))
      have hc1 : ∀ j, j < xs.length → w3.cell? ⟨w.heap.size, j, none⟩ = some (.int .u32 ((codesL xs).getD j 0)) := fun j hj =>
        ((hb2.trans (hb3.mono hb2.size)).cell (p := ⟨w.heap.size, j, none⟩) (RowI.base hr1).2).trans (RowI.cell hr1 hj)
      have hc2 : ∀ j, j < xs.length → w3.cell? ⟨w1.heap.size, j, none⟩ = some (.int .u32 ((codesL xs).getD j 0)) := fun j hj =>
        (hb3.cell (p := ⟨w1.heap.size, j, none⟩) (RowI.base hr2).2).trans (RowI.cell hr2 hj)
      clear hr1 hr2
      go_loopw [9] (fun i wr => ∃ k nq : Nat, k ≤ xs.length ∧ i = .int .i64 k ∧ wr = w3.drewN nq) (fun i _ => xs.length - (intOf i).toNat)
      case atStart => exact ⟨0, 0, by omega, rfl, rfl⟩
      case round =>
        obtain ⟨k, nq, hk, rfl, rfl⟩ := hrel
        by_cases hlt : k < xs.length
        · have h1 := hc1 k hlt
          have h2 := hc2 k hlt
          clear hc1 hc2
          generalize (codesL xs).getD k 0 = v at h1 h2
          go_wp2
          go_quiet (fail)
          go_wp2
          go_roundw
          case rel => exact ⟨k + 1, _, by omega, by go_num, rfl⟩
          case measure => simp [intOf]; omega
        · clear hc1 hc2
          go_wp2_with (go_at_call 19; refine (awake5_any _).mono ?_; rintro e w4 ⟨rfl, hb4⟩)
          go_ret
          exact ⟨rfl, (Below.drewN hb13 nq).trans (hb4.mono (by exact hb13.size))⟩
end Go.Proofs.Ytcbccopmbkefgaa
