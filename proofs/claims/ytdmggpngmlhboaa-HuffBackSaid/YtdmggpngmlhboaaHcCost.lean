/- huff.Cost. -/
import Derived.Test.YtdmggpngmlhboaaHcComp
namespace Go.Proofs.Ytdmggpngmlhboaa
open Go.RowKit

/-- The sum of the products of the first k. -/
def costTo (cs ls : List Int) : Nat → Int
  | 0 => 0
  | k + 1 => wrap64 (costTo cs ls k + wrap64 (cs.getD k 0 * ls.getD k 0))

set_option maxHeartbeats 400000 in
theorem cost_any (A A' : Option Addr) (c c' : Nat) (xs ys : List Int) (w : World) (ha : Ints .i64 w A xs) (hb : Ints .i64 w A' ys) (hn : xs.length ≤ 140737488351232) (hn' : ys.length ≤ 140737488351232) :
    Calls Try.prog 14 #[.slice A xs.length c, .slice A' ys.length c'] w fun e w' => e = .returned (.int .i64 (costTo xs ys (min xs.length ys.length))) ∧ ∃ nq, w' = w.drewN nq := by
  go_enter Try.func14, Try.ntmps14
  go_wp2
  all_goals
    go_loopw [5, 12] (fun s i wr => ∃ k nq : Nat, k ≤ xs.length ∧ k ≤ ys.length ∧ i = .int .i64 k ∧ s = .int .i64 (costTo xs ys k) ∧ wr = w.drewN nq) (fun _ i _ => xs.length - (intOf i).toNat)
    case atStart => exact ⟨0, 0, by omega, by omega, rfl, rfl, rfl⟩
    case round =>
      obtain ⟨k, nq, hk1, hk2, rfl, rfl, rfl⟩ := hrel
      by_cases hlt : k < xs.length ∧ k < ys.length
      · obtain ⟨hlt1, hlt2⟩ := hlt
        obtain ⟨b, o, rfl, hbs, hcell⟩ := ha (by omega)
        obtain ⟨b', o', rfl, hbs', hcell'⟩ := hb (by omega)
        have hc1 := hcell k hlt1
        have hc2 := hcell' k hlt2
        clear hcell hcell' ha hb
        generalize hx : xs.getD k 0 = x at hc1
        generalize hy : ys.getD k 0 = y at hc2
        have HX := Lib.hid hx
        have HY := Lib.hid hy
        clear hx hy
        go_wp2
        go_quiet (fail)
        go_wp2
        go_roundw
        case rel => exact ⟨k + 1, _, by omega, by omega, by go_num, by rw [costTo, HX.out, HY.out], rfl⟩
        case measure => simp [intOf]; omega
      · have e : k = min xs.length ys.length := by omega
        have HE := Lib.hid e
        first
          | (have n1 : ¬ k < ys.length := by omega
             clear e hlt
             go_wp2
             go_ret
             exact ⟨by rw [← HE.out]; rfl, _, rfl⟩)
          | (have n1 : ¬ k < xs.length := by omega
             clear e hlt
             go_wp2
             go_ret
             exact ⟨by rw [← HE.out]; rfl, _, rfl⟩)
end Go.Proofs.Ytdmggpngmlhboaa
