/- Plain laws for StreamStrange. -/
import Derived.Test.YtoeipgbnjcgbjaaTwo
import Derived.Test.YtoeipgbnjcgbjaaStrM
namespace Go.Proofs.Ytoeipgbnjcgbjaa
open Go.RowKit
set_option linter.unusedVariables false

theorem w32_w32 (x : Int) : w32 (w32 x) = w32 x := by unfold w32; omega
theorem segL_w32 (t id seq ack : Int) (d : List Int) : segL ⟨t, id, seq, ack, d⟩ = segL ⟨t, w32 id, seq, ack, d⟩ := by
  have : segB ⟨t, id, seq, ack, d⟩ = segB ⟨t, w32 id, seq, ack, d⟩ := by unfold segB; simp only [w32_w32]
  unfold segL; rw [this]
/-- What is no segment of this end's leaves it. -/
theorem inS_strange (s : En) (b : List Int) (now : Int) (h : parseB b = true → (parseS b).id ≠ s.id) : inS s b now = s := by
  unfold inS
  split
  · rename_i hp
    unfold stepS
    rw [if_pos (.inl (h hp))]
  · rfl
theorem inS_other (s : En) (t id : Int) (d : List Int) (now : Int) (ht : 1 ≤ t ∧ t ≤ 5) (hid : w32 id ≠ s.id) (hb : Bytes d) (hd : d.length ≤ 400) : inS s (segL ⟨t, id, 0, 0, d⟩) now = s := by
  refine inS_strange s _ now (fun hp => ?_)
  rw [segL_w32]
  have h := parse_seg ⟨t, w32 id, 0, 0, d⟩ ⟨ht.1, ht.2, w32_ok id, by simp, by simp, hd⟩ hb
  rw [h.2]
  exact hid
/-- The end behind its first segment, and what it tells and becomes. -/
def stO : En := { newEnd 7 2 with st := 3, owes := true }
theorem stO_ok : EnOk stO := by have := inS_ok awL awD 0 (newEnd_ok 7 2 (by decide)) awD_ok ok0 (newEnd_fin 7 2); rwa [aw4] at this
def stP : En := { newEnd 7 2 with st := 3, owes := false }
def stD : List Int := segL ⟨2, 7, 0, 0, []⟩
theorem stO_out : outS stO 2 = ([stD], stP) := rfl
theorem stP_ok : EnOk stP := by have := outS_ok stO 2 stO_ok (by decide); rwa [stO_out] at this
theorem stP_fin : EnFin stP := ⟨(fun h => by cases h), (fun h => by cases h)⟩
theorem stO_fin : EnFin stO := ⟨(fun h => by cases h), (fun h => by cases h)⟩
theorem stP_read : readS stP = ([], stP) := rfl
def stR : En := { newEnd 7 2 with st := 4, owes := false }
def stRD : List Int := segL ⟨5, 7, 0, 0, []⟩
theorem stP_in : inS stP stRD 3 = stR := by
  have h := parse_seg ⟨5, 7, 0, 0, []⟩ (by unfold goodSg; simp) (fun x h => by cases h)
  unfold inS stRD
  rw [if_pos h.1, h.2]
  rfl
theorem stRD_len : stRD.length = 19 := rfl
theorem stRD_ok : Bytes stRD := segL_ok _ (fun x h => by cases h)
theorem stD_len : stD.length = 19 := rfl
theorem stR_write (b : List Int) : writeS stR b = (81, stR) := rfl
theorem stR_close : closeS stR = (81, stR) := rfl
theorem stR_out : outS stR 9 = ([], stR) := rfl
theorem stR_ok : EnOk stR := by have := inS_ok stP stRD 3 stP_ok stRD_ok (by decide) stP_fin; rwa [stP_in] at this
end Go.Proofs.Ytoeipgbnjcgbjaa
