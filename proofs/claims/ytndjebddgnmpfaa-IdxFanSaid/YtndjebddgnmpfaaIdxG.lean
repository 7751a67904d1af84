/- Two rows of objects that read alike are told so. -/
import Derived.Test.YtndjebddgnmpfaaIdxC
namespace Go.Proofs.Ytndjebddgnmpfaa
open Go.RowKit
set_option linter.unusedVariables false
set_option linter.unusedSimpArgs false

set_option maxRecDepth 100000 in
set_option maxHeartbeats 4000000 in
theorem places_any (A A' : Option Addr) (n c c' : Nat) (L : List Ent) (w : World) (hA : ObsAt w A L) (hA' : ObsAt w A' L) (hn : L.length = n) (hn4 : n ≤ 4096) :
    Calls Try.prog 16 #[.slice A n c, .slice A' n c'] w fun e w' => e = .returned (.bool true) ∧ ∃ m, w' = w.drewN m := by
  have HA := Lib.hid hA
  have HA' := Lib.hid hA'
  have HN := Lib.hid hn
  clear hA hA' hn
  go_enter Try.func16, Try.ntmps16
  go_wp2
  go_loopw [5] (fun iv wr => ∃ i m : Nat, iv = .int .i64 i ∧ i ≤ n ∧ wr = w.drewN m) (fun iv _ => n - (intOf iv).toNat)
  case atStart => exact ⟨0, 0, rfl, Nat.zero_le _, rfl⟩
  case round =>
    obtain ⟨i, m, rfl, hin, rfl⟩ := hrel
    by_cases hlt : i < n
    · have d1 : decide ((i : Int) < (n : Int)) = true := decide_eq_true (by omega)
      have d1' : decide (i < n) = true := decide_eq_true hlt
      have s1 : IntKind.i64.wrap ((i : Int) + 1) = ((i + 1 : Nat) : Int) := by rw [IntWalk.i64_in _ (by omega)]; omega
      obtain ⟨x, hx⟩ : ∃ x, L[i]? = some x := ⟨L[i]'(by rw [HN.out]; exact hlt), List.getElem?_eq_getElem (by rw [HN.out]; exact hlt)⟩
      obtain ⟨g, o, rfl, hg, hc⟩ := HA.out (by rw [HN.out]; omega)
      obtain ⟨g', o', rfl, hg', hc'⟩ := HA'.out (by rw [HN.out]; omega)
      have a0 : w.cell? ⟨g, o + i * 5, none⟩ = some (.int .i64 0) := hc i x hx 0 (by decide)
      have a1 : w.cell? ⟨g, o + i * 5 + 1, none⟩ = some (.slice none 0 0) := hc i x hx 1 (by decide)
      have a2 : w.cell? ⟨g, o + i * 5 + 2, none⟩ = some (.string (strOfNums x.id)) := hc i x hx 2 (by decide)
      have a3 : w.cell? ⟨g, o + i * 5 + 3, none⟩ = some (.int .i64 x.at_) := hc i x hx 3 (by decide)
      have a4 : w.cell? ⟨g, o + i * 5 + 4, none⟩ = some (.int .u32 x.crc) := hc i x hx 4 (by decide)
      have b2 : w.cell? ⟨g', o' + i * 5 + 2, none⟩ = some (.string (strOfNums x.id)) := hc' i x hx 2 (by decide)
      have b3 : w.cell? ⟨g', o' + i * 5 + 3, none⟩ = some (.int .i64 x.at_) := hc' i x hx 3 (by decide)
      have b4 : w.cell? ⟨g', o' + i * 5 + 4, none⟩ = some (.int .u32 x.crc) := hc' i x hx 4 (by decide)
      clear hc hc' hx hg hg'
      generalize strOfNums x.id = SX at *
      generalize x.at_ = AX at *
      generalize x.crc = CX at *
      go_wp2
      go_quiet (fail)
      go_wp2
      go_roundw
      case rel => exact ⟨i + 1, _, rfl, by omega, rfl⟩
      case measure => simp [intOf]; omega
    · have d1 : decide ((i : Int) < (n : Int)) = false := decide_eq_false (by omega)
      have d1' : decide (i < n) = false := decide_eq_false hlt
      go_wp2
      go_ret
      exact ⟨rfl, _, rfl⟩
end Go.Proofs.Ytndjebddgnmpfaa
