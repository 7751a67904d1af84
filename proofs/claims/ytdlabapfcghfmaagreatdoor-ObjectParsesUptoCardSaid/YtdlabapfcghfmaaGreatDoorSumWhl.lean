/- What the sums are: adOut, crcOut, shaAll. (Parted from XSumWhole: seats without sum.whole.) -/
import Derived.Test.YtdlabapfcghfmaaGreatDoorSumAskS
namespace Go.Proofs.YtdlabapfcghfmaaGreatDoor
open Go.RowKit
set_option linter.unusedVariables false

def adOut (xs : List Int) : List Int := be4 ((adTo (1, 0) xs).2 * 65536 + (adTo (1, 0) xs).1)
def crcOut (xs : List Int) : List Int := be4 (4294967295 - (crcTo 4294967295 xs : Nat))
theorem AskPost.below {w w1 : World} {out : List Int} {e : Ending} {w' : World} (hb : Below w.heap.size w w1) (h : AskPost w1 out e w') : AskPost w out e w' := by
  obtain ⟨A, c, h1, h2, h3⟩ := h
  exact ⟨A, c, h1, h2.base_ hb.size, hb.trans (h3.mono hb.size)⟩

def shaAll (xs : List Int) : List Int := shaOut (fb (xs.length / 64) h0 xs) (xs.drop (64 * (xs.length / 64))) (0 + (xs.length : Int))
theorem h0_ok : h0.ok := by unfold H5.ok Word32 h0; decide
end Go.Proofs.YtdlabapfcghfmaaGreatDoor
