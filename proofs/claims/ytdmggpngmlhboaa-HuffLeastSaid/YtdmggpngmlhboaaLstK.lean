/- The document's Cost. -/
import Derived.Test.YtdmggpngmlhboaaLstS
namespace Go.Proofs.Ytdmggpngmlhboaa
open Go.RowKit
set_option linter.unusedVariables false

set_option maxHeartbeats 1000000 in
theorem rcost_any (A A' : Option Addr) (c c' n : Nat) (xs ys : List Int) (w : World) (ha : Ints .i64 w A xs) (hb : Ints .i64 w A' ys) (hn : xs.length = n) (hn' : ys.length = n) (hm : n ≤ 140737488351232) :
    Calls Try.prog 37 #[.slice A n c, .slice A' n c'] w fun e w' => e = .returned (.int .i64 (costTo xs ys n)) ∧ Drawn w w' := by
  have HN := Lib.hid hn
  have HN' := Lib.hid hn'
  clear hn hn'
  go_enter Try.func37, Try.ntmps37
  go_wp2
  go_loopw [5, 6] (fun s i wr => ∃ k : Nat, k ≤ n ∧ i = .int .i64 k ∧ s = .int .i64 (costTo xs ys k) ∧ Drawn w wr) (fun _ i _ => n - (intOf i).toNat)
  case atStart => exact ⟨0, by omega, rfl, rfl, Drawn.refl _⟩
  case round =>
    obtain ⟨k, hk, rfl, rfl, hd⟩ := hrel
    by_cases hlt : k < n
    · obtain ⟨b, o, rfl, hbs, hcell⟩ := ha (by rw [HN.out]; omega)
      obtain ⟨b', o', rfl, hbs', hcell'⟩ := hb (by rw [HN'.out]; omega)
      have hc1 := (hd.cell ⟨b, o + k, none⟩).trans (hcell k (by rw [HN.out]; exact hlt))
      have hc2 := (hd.cell ⟨b', o' + k, none⟩).trans (hcell' k (by rw [HN'.out]; exact hlt))
      clear hcell hcell' ha hb
      have hco : costTo xs ys (k + 1) = wrap64 (costTo xs ys k + wrap64 (xs.getD k 0 * ys.getD k 0)) := rfl
      have HCO := Lib.hid hco
      have HD := Lib.hid hd
      clear hco hd
      generalize xs.getD k 0 = x at *
      generalize ys.getD k 0 = y at *
      have k0 : (0 : Int) ≤ (k : Int) := by omega
      have k1 : (k : Int) < (n : Int) := by omega
      have g1 : decide ((k : Int) < (n : Int)) = true := decide_eq_true k1
      have g2 : decide (k < n) = true := decide_eq_true hlt
      go_wp2
      go_quiet (fail)
      go_wp2
      go_roundw
      case rel => exact ⟨k + 1, by omega, by go_num, by rw [HCO.out], HD.out.more _⟩
      case measure => simp [intOf]; omega
    · obtain rfl : k = n := by omega
      have g1 : decide ((k : Int) < (k : Int)) = false := decide_eq_false (by omega)
      have g2 : decide (k < k) = false := decide_eq_false (by omega)
      go_wp2
      go_ret
      exact ⟨rfl, hd⟩
end Go.Proofs.Ytdmggpngmlhboaa
