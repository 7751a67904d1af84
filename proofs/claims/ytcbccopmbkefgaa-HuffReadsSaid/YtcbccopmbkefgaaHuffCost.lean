/- huff.Complete and the document's; huff.Cost. -/
import Derived.Test.YtcbccopmbkefgaaHuffCodes
namespace Go.Proofs.Ytcbccopmbkefgaa
open Go.RowKit

def complete (xs : List Int) : Bool := cntB xs && (costs xs == 32768)

set_option maxRecDepth 100000 in
theorem complete_any (A : Option Addr) (c : Nat) (xs : List Int) (w : World) (h : Ints .i64 w A xs) (hn : xs.length ≤ 140737488351232) :
    Calls Try.prog 17 #[.slice A xs.length c] w fun e w' => e = .returned (.bool (complete xs)) ∧ w = w' := by
  by_cases hb : cntB xs = true
  · have hv : cntN xs = costs xs := by rw [← cntW_N xs hb, cntW_good xs hb]
    have HV := Lib.hid hv
    clear hv
    go_enter Try.func17, Try.ntmps17
    go_wp2_with (go_at_call 45; refine (count_any A c xs w h hn).mono ?_; rintro e w' ⟨rfl, rfl⟩)
    go_ret
    exact ⟨by simp [complete, hb, HV.out], rfl⟩
  · have hb' : cntB xs = false := by simpa using hb
    clear hb
    go_enter Try.func17, Try.ntmps17
    go_wp2_with (go_at_call 45; refine (count_any A c xs w h hn).mono ?_; rintro e w' ⟨rfl, rfl⟩)
    go_ret
    exact ⟨by simp [complete, hb'], rfl⟩

set_option maxRecDepth 100000 in
theorem completeR_any (A : Option Addr) (c : Nat) (xs : List Int) (w : World) (h : Ints .i64 w A xs) (hn : xs.length ≤ 140737488351232) :
    Calls Try.prog 18 #[.slice A xs.length c] w fun e w' => e = .returned (.bool (complete xs)) ∧ w = w' := by
  have hv : complete xs = (cntW xs == 32768) := by
    by_cases hb : cntB xs = true
    · rw [cntW_good xs hb]; simp [complete, hb]
    · have hb' : cntB xs = false := by simpa using hb
      rw [cntW_bad xs hb']; simp [complete, hb']
  have HV := Lib.hid hv
  clear hv
  go_enter Try.func18, Try.ntmps18
  go_wp2_with (go_at_call 46; refine (weight_any A c xs w h hn).mono ?_; rintro e w' ⟨rfl, rfl⟩)
  go_ret
  exact ⟨by rw [HV.out]; rfl, rfl⟩

/-- The sum of the products of the first k. -/
def costTo (cs ls : List Int) : Nat → Int
  | 0 => 0
  | k + 1 => wrap64 (costTo cs ls k + wrap64 (cs.getD k 0 * ls.getD k 0))

set_option maxHeartbeats 400000 in
theorem cost_any (A A' : Option Addr) (c c' : Nat) (xs ys : List Int) (w : World) (ha : Ints .i64 w A xs) (hb : Ints .i64 w A' ys) (hn : xs.length ≤ 140737488351232) (hn' : ys.length ≤ 140737488351232) :
    Calls Try.prog 41 #[.slice A xs.length c, .slice A' ys.length c'] w fun e w' => e = .returned (.int .i64 (costTo xs ys (min xs.length ys.length))) ∧ ∃ nq, w' = w.drewN nq := by
  go_enter Try.func41, Try.ntmps41
  go_wp2
  all_goals
    go_loopw [5, 12] (fun s i wr => ∃ k nq : Nat, k ≤ xs.length ∧ k ≤ ys.length ∧ i = .int .i64 k ∧ s = .int .i64 (costTo xs ys k) ∧ wr = w.drewN nq) (fun _ i _ => xs.length - (intOf i).toNat)
    case atStart => exact ⟨0, 0, by omega, by omega, rfl, rfl, rfl⟩
    case round =>
      obtain ⟨k, nq, hk1, hk2, rfl, rfl, rfl⟩ := hrel
      by_cases hlt : k < xs.length ∧ k < ys.length
      · obtain ⟨hlt1, hlt2⟩ := hlt
        obtain ⟨b, o, rfl, hbs, hcell⟩ := ha (by omega)
        obtain ⟨b', o', rfl, hbs', hcell'⟩ := hb (by omega)
        have hc1 := hcell k hlt1
        have hc2 := hcell' k hlt2
        clear hcell hcell' ha hb
        generalize hx : xs.getD k 0 = x at hc1
        generalize hy : ys.getD k 0 = y at hc2
        have HX := Lib.hid hx
        have HY := Lib.hid hy
        clear hx hy
        go_wp2
        go_quiet (fail)
        go_wp2
        go_roundw
        case rel => exact ⟨k + 1, _, by omega, by omega, by go_num, by rw [costTo, HX.out, HY.out], rfl⟩
        case measure => simp [intOf]; omega
      · have e : k = min xs.length ys.length := by omega
        have HE := Lib.hid e
        first
          | (have n1 : ¬ k < ys.length := by omega
             clear e hlt
             go_wp2
             go_ret
             exact ⟨by rw [← HE.out]; rfl, _, rfl⟩)
          | (have n1 : ¬ k < xs.length := by omega
             clear e hlt
             go_wp2
             go_ret
             exact ⟨by rw [← HE.out]; rfl, _, rfl⟩)
end Go.Proofs.Ytcbccopmbkefgaa
