/- The walk of the law HuffReads. -/
import Derived.Test.YtcbccopmbkefgaaBits5
import Derived.Test.YtcbccopmbkefgaaHuffAwake
namespace Go.Proofs.Ytcbccopmbkefgaa
open Go.RowKit
set_option linter.unusedVariables false

set_option maxRecDepth 100000 in
set_option maxHeartbeats 8000000 in
theorem huffReads_main (A : Option Addr) (c : Nat) (xs : List Int) (A' : Option Addr) (c' : Nat) (bs : List Int) (w : World) (h : Ints .i64 w A xs) (hn : xs.length ≤ 400) (hcb : cntB xs = true) (hcn : cntN xs ≤ 32768)
    (hI : Ints .u8 w A' bs) (hb : Bytes bs) (hsz : bs.length ≤ 140737488351300) :
    Calls Try.prog 4 #[.slice A xs.length c, .slice A' bs.length c'] w fun e w' => e = .returned (.bool true) ∧ Below w.heap.size w w' := by
  have hall : ∀ k, k < xs.length → 0 ≤ xs.getD k 0 ∧ xs.getD k 0 ≤ 15 := by
    intro k hk
    have h1 := List.all_eq_true.1 (show xs.all okLen = true from hcb) (xs.getD k 0) (by rw [List.getD_eq_getElem?_getD, List.getElem?_eq_getElem hk]; exact List.getElem_mem hk)
    simpa [okLen] using h1
  go_enter Try.func4, Try.ntmps4
  go_wp2_with fail
  refine (huffNew_ok A c xs w h hcb hn hcn).mono ?_
  rintro e w1 ⟨⟨g, rfl, hg, hrep⟩, hb1⟩
  have hcf : CodeF w1.heap.size g w1 (firstAt xs xs.length) (symsAt xs xs.length) (deepAt xs xs.length) := ⟨w1, hrep, rfl, fun _ _ => rfl⟩
  clear hrep
  go_wp2_with fail
  refine (bitsRead_any A' c' bs w1 (hI.below hb1) hsz).mono ?_
  rintro e w2 ⟨⟨g7, rfl, hg7, hr7⟩, hb2⟩
  have hb12 := hb1.trans (hb2.mono hb1.size)
  have hlt7 := hr7.blk
  have h7 := hr7.below ((Below.refl _ _).alloc (Nat.le_refl _) (.cells #[.slice A' bs.length c', .int .i64 0] 40))
  have hcf2 := hcf.same (w' := w2.alloc (.cells #[.slice A' bs.length c', .int .i64 0] 40)) (fun k hk => (heap_alloc_old w2 _ (by have := hb2.size; omega)).trans (hb2.block k hk))
  have h8 : RdRep 40 w.heap.size w2.heap.size (w2.alloc (.cells #[.slice A' bs.length c', .int .i64 0] 40)) bs 0 := by
    refine ⟨A', c', Cel.new w2 _ _ _ (fun i hi => ?_), (hI.below hb12).below ((Below.refl _ _).alloc (Nat.le_refl _) _), fun hl b o hA => ?_, hb12.size⟩
    · rcases i with _ | _ | i
      · simp
      · simp
      · simp at hi; omega
    · obtain ⟨b', o', hA', hlt, _⟩ := hI hl
      rw [hA] at hA'
      injection hA' with k1
      injection k1 with k1
      omega
  have hB0 := hb12.alloc hb12.size (.cells #[.slice A' bs.length c', .int .i64 0] 40)
  have hw1s := hb1.size
  have hw2s := hb2.size
  clear hr7 hcf hb2 hb12 hb1 hI
  go_wp2
  generalize hW1 : w1.heap.size = H1 at *
  generalize hG8 : w2.heap.size = g8 at *
  generalize hW3 : w2.alloc (.cells #[.slice A' bs.length c', .int .i64 0] 40) = w3 at *
  clear hW1 hG8 hW3
  go_loopw [9] (fun i wr => ∃ k q : Nat, k ≤ 200 ∧ i = .int .i64 k ∧ q ≤ 8 * bs.length ∧ CodeF H1 g wr (firstAt xs xs.length) (symsAt xs xs.length) (deepAt xs xs.length) ∧ RdRep 87 g7 g7 wr bs q ∧ RdRep 40 w.heap.size g8 wr bs q ∧ Below w.heap.size w wr) (fun i _ => 200 - (intOf i).toNat)
  case atStart => exact ⟨0, 0, by omega, rfl, by omega, hcf2, h7, h8, hB0⟩
  case round =>
    clear hcf2 h7 h8 hB0
    obtain ⟨k, q, hk, rfl, hq, hcf, h7, h8, hB⟩ := hrel
    by_cases hlt : (k : Int) < 200
    · have hx := h.below hB
      go_wp2_with fail
      refine (codeRead_any H1 g g7 g7 xs bs q wr hcf h7 hg7 hb hall hn hq hsz).mono ?_
      rintro e w4 ⟨rfl, h74, hc4⟩
      have h84 := h8.chg hc4 (fun e => by omega) (fun b hb => by omega)
      have hcf4 := hcf.chg hc4 (by have := h7.blk; omega) (fun k hk => by omega)
      have hB4 := hB.trans (hc4.below hB.size (fun k hk => by omega))
      have hq4 := rd_place xs bs 15 0 q hq
      go_wp2_with fail
      refine (refRead_any w.heap.size g8 A c xs bs q w4 (h.below hB4) (fun hl b o hA => ?_) h84 hb hcb hcn hall hn hq hsz).mono ?_
      · obtain ⟨b', o', hA', hlt, _⟩ := h hl
        rw [hA] at hA'
        injection hA' with k1
        injection k1 with k1
        omega
      rintro e w5 ⟨rfl, h85, hc5⟩
      have h75 := h74.chg hc5 (fun e => by omega) (fun b hb => by omega)
      have hcf5 := hcf4.chg hc5 (by have := h74.blk; omega) (fun k hk => by omega)
      have hB5 := hB4.trans (hc5.below hB4.size (fun k hk => by omega))
      clear hcf h7 h8 hB hx h74 hc4 h84 hcf4 hB4 hc5
      generalize rd xs bs 15 0 q = R at *
      obtain ⟨s, er, q5⟩ := R
      simp only at h75 h85 hq4 ⊢
      by_cases her : er = 0
      · subst her
        go_wp2_with (first | (go_at_call 23; refine (used_any g7 g7 bs q5 w5 h75 hq4 hsz).mono ?_; rintro e w' ⟨rfl, rfl⟩) | (go_at_call 24; refine (usedR_any w.heap.size g8 bs q5 w5 h85 hq4 hsz).mono ?_; rintro e w' ⟨rfl, rfl⟩))
        go_roundw
        case rel => exact ⟨k + 1, q5, by omega, by go_num, hq4, hcf5, h75, h85, hB5⟩
        case measure => simp [intOf]; omega
      · have he : (er == 0) = false := by simpa using her
        have he2 : (er != 0) = true := by simpa using her
        go_wp2_with (go_at_call 19; refine (awake5_any _).mono ?_; rintro e w6 ⟨rfl, hb6⟩)
        go_ret
        exact ⟨rfl, hB5.trans (hb6.mono hB5.size)⟩
    · go_wp2_with (go_at_call 19; refine (awake5_any _).mono ?_; rintro e w6 ⟨rfl, hb6⟩)
      go_ret
      exact ⟨rfl, hB.trans (hb6.mono hB.size)⟩

set_option maxRecDepth 100000 in
set_option maxHeartbeats 1000000 in
theorem huffReads_walk (A : Option Addr) (c : Nat) (xs : List Int) (A' : Option Addr) (c' : Nat) (bs : List Int) (w : World) (h : Ints .i64 w A xs) (_wf : ∀ x ∈ xs, (Lit.int .i64 x).wf = true) (hn : xs.length ≤ 140737488351232)
    (hI : Ints .u8 w A' bs) (wf : ∀ x ∈ bs, (Lit.int .u8 x).wf = true) (hsz : bs.length ≤ 140737488351300) :
    Calls Try.prog 4 #[.slice A xs.length c, .slice A' bs.length c'] w fun e w' => e = .returned (.bool true) ∧ Below w.heap.size w w' := by
  have hb : Bytes bs := fun x hx => by
    have := wf x hx
    simp [Lit.wf, IntKind.min, IntKind.max, IntKind.bits, IntKind.signed] at this
    omega
  by_cases hbad : cntB xs = false ∨ 400 < xs.length
  · go_enter Try.func4, Try.ntmps4
    go_wp2_with (first | (go_at_call 16; refine (huffNew_bad A c xs w h hn hbad).mono ?_; rintro e w' ⟨rfl, rfl⟩) | (go_at_call 19; refine (awake5_any _).mono ?_; rintro e w6 ⟨rfl, hb6⟩))
    go_ret
    exact ⟨rfl, hb6⟩
  · have hb' : cntB xs = true := by simpa using fun h' => hbad (.inl h')
    have hn' : xs.length ≤ 400 := by omega
    clear hbad
    by_cases hc : 32768 < cntN xs
    · go_enter Try.func4, Try.ntmps4
      go_wp2_with (first | (go_at_call 16; refine (huffNew_form A c xs w h hb' hn' hc).mono ?_; rintro e w' ⟨rfl, rfl⟩) | (go_at_call 19; refine (awake5_any _).mono ?_; rintro e w6 ⟨rfl, hb6⟩))
      go_ret
      exact ⟨rfl, hb6⟩
    · exact huffReads_main A c xs A' c' bs w h hn' hb' (by omega) hI hb hsz
end Go.Proofs.Ytcbccopmbkefgaa
