/- digits: digit of package sum and of the document's answer. -/
import Derived.Test.YtdlabapfcghfmaaGreatDoorSumStr
namespace Go.Proofs.YtdlabapfcghfmaaGreatDoor
open Go.RowKit
set_option linter.unusedVariables false

/-- A digit's number; none: it is none. -/
def dig (c : Int) : Option Int := if 48 ≤ c ∧ c ≤ 57 then some (c - 48) else if 97 ≤ c ∧ c ≤ 102 then some (c - 87) else none
def digP (c : Int) (e : Ending) : Prop := e = .returned (.tuple #[.int .u8 ((dig c).getD 0), .bool (dig c).isSome])

set_option maxRecDepth 100000 in
theorem digit_any (c : Int) (w : World) (h0 : 0 ≤ c) (h1 : c < 256) : Calls Tryz.prog 102 #[.int .u8 c] w fun e w' => digP c e ∧ w = w' := by
  by_cases ha : 48 ≤ c
  · by_cases hb : c ≤ 57
    · have hd : dig c = some (c - 48) := if_pos ⟨ha, hb⟩
      go_enter Tryz.func102, Tryz.ntmps102
      go_wp2
      go_ret2
      exact ⟨by unfold digP; rw [hd]; rfl, rfl⟩
    · by_cases h2 : 97 ≤ c
      · by_cases h3 : c ≤ 102
        · have hd : dig c = some (c - 87) := by unfold dig; rw [if_neg (by omega), if_pos ⟨h2, h3⟩]
          go_enter Tryz.func102, Tryz.ntmps102
          go_wp2
          go_ret2
          refine ⟨?_, rfl⟩
          unfold digP
          rw [hd]
          simp
          omega
        · have hd : dig c = none := by unfold dig; rw [if_neg (by omega), if_neg (by omega)]
          go_enter Tryz.func102, Tryz.ntmps102
          go_wp2
          go_ret2
          exact ⟨by unfold digP; rw [hd]; rfl, rfl⟩
      · have hd : dig c = none := by unfold dig; rw [if_neg (by omega), if_neg (by omega)]
        go_enter Tryz.func102, Tryz.ntmps102
        go_wp2
        go_ret2
        exact ⟨by unfold digP; rw [hd]; rfl, rfl⟩
  · have hd : dig c = none := by unfold dig; rw [if_neg (by omega), if_neg (by omega)]
    have h2 : ¬ 97 ≤ c := by omega
    go_enter Tryz.func102, Tryz.ntmps102
    go_wp2
    go_ret2
    exact ⟨by unfold digP; rw [hd]; rfl, rfl⟩
end Go.Proofs.YtdlabapfcghfmaaGreatDoor
