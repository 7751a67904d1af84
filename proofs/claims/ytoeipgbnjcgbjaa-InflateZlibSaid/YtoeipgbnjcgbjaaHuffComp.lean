/- huff.Complete and the document's. -/
import Derived.Test.YtoeipgbnjcgbjaaHuffCodes
namespace Go.Proofs.Ytoeipgbnjcgbjaa
open Go.RowKit

def complete (xs : List Int) : Bool := cntB xs && (costs xs == 32768)

set_option maxRecDepth 100000 in
theorem complete_any (A : Option Addr) (c : Nat) (xs : List Int) (w : World) (h : Ints .i64 w A xs) (hn : xs.length ≤ 140737488351232) :
    Calls Try.prog 123 #[.slice A xs.length c] w fun e w' => e = .returned (.bool (complete xs)) ∧ w = w' := by
  by_cases hb : cntB xs = true
  · have hv : cntN xs = costs xs := by rw [← cntW_N xs hb, cntW_good xs hb]
    have HV := Lib.hid hv
    clear hv
    go_enter Try.func123, Try.ntmps123
    go_wp2_with (go_at_call 128; refine (count_any A c xs w h hn).mono ?_; rintro e w' ⟨rfl, rfl⟩)
    go_ret
    exact ⟨by simp [complete, hb, HV.out], rfl⟩
  · have hb' : cntB xs = false := by simpa using hb
    clear hb
    go_enter Try.func123, Try.ntmps123
    go_wp2_with (go_at_call 128; refine (count_any A c xs w h hn).mono ?_; rintro e w' ⟨rfl, rfl⟩)
    go_ret
    exact ⟨by simp [complete, hb'], rfl⟩

set_option maxRecDepth 100000 in
theorem completeR_any (A : Option Addr) (c : Nat) (xs : List Int) (w : World) (h : Ints .i64 w A xs) (hn : xs.length ≤ 140737488351232) :
    Calls Try.prog 97 #[.slice A xs.length c] w fun e w' => e = .returned (.bool (complete xs)) ∧ w = w' := by
  have hv : complete xs = (cntW xs == 32768) := by
    by_cases hb : cntB xs = true
    · rw [cntW_good xs hb]; simp [complete, hb]
    · have hb' : cntB xs = false := by simpa using hb
      rw [cntW_bad xs hb']; simp [complete, hb']
  have HV := Lib.hid hv
  clear hv
  go_enter Try.func97, Try.ntmps97
  go_wp2_with (go_at_call 115; refine (weight_any A c xs w h hn).mono ?_; rintro e w' ⟨rfl, rfl⟩)
  go_ret
  exact ⟨by rw [HV.out]; rfl, rfl⟩
end Go.Proofs.Ytoeipgbnjcgbjaa
