/- Hash, the program's and the document's (out of XIdxH). -/
import Derived.Test.YtdlabapfcghfmaaGreatDoorApp
import Derived.Test.YtdlabapfcghfmaaGreatDoorSumUnhex
import Derived.Test.YtdlabapfcghfmaaGreatDoorSumRefU
namespace Go.Proofs.YtdlabapfcghfmaaGreatDoor
open Go.RowKit
set_option linter.unusedVariables false
set_option linter.unusedSimpArgs false

/-- Is a text a hash? -/
def hashB (l : List Int) : Bool := unOk l && decide ((unV l).length = 20)
set_option maxRecDepth 100000 in
theorem hash_any (s : ByteArray) (w : World) (hsz : s.size ≤ 140737488355328) : Calls Tryz.prog 61 #[.string s] w fun e w' => e = .returned (.bool (hashB (bytesOf s))) ∧ Below w.heap.size w w' := by
  have HU := Lib.hid (unhex_any s w hsz)
  go_enter Tryz.func61, Tryz.ntmps61
  go_wp2_with fail
  refine HU.out.mono ?_
  rintro e w1 ⟨A, c, rfl, hI, hb⟩
  have HB := Lib.hid hb
  have HH : Hid (hashB (bytesOf s) = (unOk (bytesOf s) && decide ((unV (bytesOf s)).length = 20))) := rfl
  generalize unV (bytesOf s) = V at *
  clear hI hb HU
  cases ho : unOk (bytesOf s)
  · rw [ho] at HH
    clear ho
    go_wp2
    go_ret
    exact ⟨by rw [HH.out]; rfl, HB.out⟩
  · rw [ho] at HH
    clear ho
    by_cases h : V.length = 20
    · have d1 : ((V.length : Int) == 20) = true := by rw [beq_iff_eq]; omega
      rw [decide_eq_true h] at HH
      clear h
      go_wp2
      go_ret
      exact ⟨by rw [HH.out]; rfl, HB.out⟩
    · have d1 : ((V.length : Int) == 20) = false := by rw [beq_eq_false_iff_ne]; omega
      rw [decide_eq_false h] at HH
      clear h
      go_wp2
      go_ret
      exact ⟨by rw [HH.out]; rfl, HB.out⟩
set_option maxRecDepth 100000 in
theorem hashR_any (s : ByteArray) (w : World) (hsz : s.size ≤ 140737488355328) : Calls Tryz.prog 88 #[.string s] w fun e w' => e = .returned (.bool (hashB (bytesOf s))) ∧ Below w.heap.size w w' := by
  have HU := Lib.hid (unhexR_any s w hsz)
  go_enter Tryz.func88, Tryz.ntmps88
  go_wp2_with fail
  refine HU.out.mono ?_
  rintro e w1 ⟨A, c, rfl, hI, hb⟩
  have HB := Lib.hid hb
  have HH : Hid (hashB (bytesOf s) = (unOk (bytesOf s) && decide ((unV (bytesOf s)).length = 20))) := rfl
  generalize unV (bytesOf s) = V at *
  clear hI hb HU
  cases ho : unOk (bytesOf s)
  · rw [ho] at HH
    clear ho
    go_wp2
    go_ret
    exact ⟨by rw [HH.out]; rfl, HB.out⟩
  · rw [ho] at HH
    clear ho
    by_cases h : V.length = 20
    · have d1 : ((V.length : Int) == 20) = true := by rw [beq_iff_eq]; omega
      rw [decide_eq_true h] at HH
      clear h
      go_wp2
      go_ret
      exact ⟨by rw [HH.out]; rfl, HB.out⟩
    · have d1 : ((V.length : Int) == 20) = false := by rw [beq_eq_false_iff_ne]; omega
      rw [decide_eq_false h] at HH
      clear h
      go_wp2
      go_ret
      exact ⟨by rw [HH.out]; rfl, HB.out⟩
end Go.Proofs.YtdlabapfcghfmaaGreatDoor
