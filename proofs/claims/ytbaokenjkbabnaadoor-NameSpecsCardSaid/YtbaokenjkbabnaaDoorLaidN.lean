/- What a law's proof over the names takes of its row: the tables that are listed, the settled world that holds them. -/
import Derived.Test.YtbaokenjkbabnaaDoorNmD
import Derived.Test.YtbaokenjkbabnaaDoorRows
import Derived.ProofKit
import Derived.OpenShut
import Derived.ShutString
import Derived.ChangeOld
import Derived.SizedLaws
import Derived.JoinedCond
import Derived.Lib.LaidU8T
namespace Go.Proofs.YtbaokenjkbabnaaDoor
open Go.ChangeShapes Go.WideShapes Go.ChangeAt Go.RowKit

theorem own : ownKnob Tryd.prog.godebug = none := by kernel_rfl
def setTab (cs : Array Value) : Obj → Obj
  | .cells _ t frozen => .cells cs t frozen
  | o => o
def firstCells : Array Value := (Go.Pinned.utf8FirstZ.map fun n : Nat => Value.int .u8 (n : Int)).toArray
def acceptCells : Array Value := ((List.range 16).flatMap fun i => [Value.int .u8 (Lib.accLo i), Value.int .u8 (Lib.accHi i)]).toArray
/-- The settled world, the listed tables holding what their initialisers lay. -/
noncomputable def laidWorld (os : Os) : World :=
  { World.holding Tryd.prog os ⟨#[], #[], []⟩ with heap := ((World.holding Tryd.prog os ⟨#[], #[], []⟩).heap.modify 0 (setTab firstCells)).modify 1 (setTab acceptCells) }
theorem u8x : Go.Proofs.U8Extra Tryd.prog Tryd.lays196_ren := ⟨by kernel_rfl, by kernel_rfl, by kernel_rfl, by kernel_rfl, by kernel_rfl, by kernel_rfl, by kernel_rfl⟩
theorem first_eq : Go.Pinned.utf8First = Lib.firstData := by kernel_rfl
theorem env_of {laid : List (String × DataW Unit)} {W : World} (hlaid : laid = [("unicode/utf8.acceptRanges", Rows.laid_unicode_utf8_acceptRanges), ("unicode/utf8.first", Rows.laid_unicode_utf8_first)]) (h : laidMetH Tryd.prog laid W) (hs : W.ShapedOpen Tryd.prog) : Env W := by
  subst hlaid
  have hl : laidMet Tryd.prog [("unicode/utf8.acceptRanges", Rows.laid_unicode_utf8_acceptRanges), ("unicode/utf8.first", Rows.laid_unicode_utf8_first)] W := h
  refine ⟨?_, Tryd.laysM144.s1_3 W hs⟩
  have h3 : Lib.VarReads Tryd.prog W "unicode/utf8.first" Lib.firstData := by
    rw [← first_eq]
    exact Lib.laidMet.reads hl (by simp [Rows.laid_unicode_utf8_first])
  have h4 : Lib.VarReads Tryd.prog W "unicode/utf8.acceptRanges" Lib.acceptData := by
    have e : (Rows.laid_unicode_utf8_acceptRanges : DataW Unit) = Lib.acceptData := by kernel_rfl
    rw [← e]
    exact Lib.laidMet.reads hl (by simp)
  exact Go.Proofs.utf8Tabs_of_readsT (P := Tryd.prog) (ρ := Tryd.lays196_ren) { Tryd.lays196 with } u8x h3 h4
end Go.Proofs.YtbaokenjkbabnaaDoor
