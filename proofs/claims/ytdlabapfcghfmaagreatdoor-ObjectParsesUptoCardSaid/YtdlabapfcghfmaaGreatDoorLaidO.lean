/- What a law's proof over objects takes of its row: the tables that are listed, the settled world that holds them. -/
import Derived.Test.YtdlabapfcghfmaaGreatDoorObS
import Derived.Test.YtdlabapfcghfmaaGreatDoorRows
import Derived.ProofKit
import Derived.OpenShut
import Derived.ShutString
import Derived.ChangeOld
import Derived.SizedLaws
import Derived.JoinedCond
import Derived.Lib.LaidU8T
import Derived.Lib.LaidTab
import Derived.Lib.SmallJoins
import Derived.Carry
namespace Go.Proofs.YtdlabapfcghfmaaGreatDoor
open Go.ChangeShapes Go.WideShapes Go.ChangeAt Go.RowKit Go.Joins Go.Deep

theorem own : ownKnob Tryz.prog.godebug = none := by kernel_rfl
theorem laidOut : laidOutB Tryz.prog = true := by kernel_rfl
def setTab (cs : Array Value) : Obj → Obj
  | .cells _ t frozen => .cells cs t frozen
  | o => o
def firstCells : Array Value := (Go.Pinned.utf8FirstZ.map fun n : Nat => Value.int .u8 (n : Int)).toArray
def acceptCells : Array Value := ((List.range 16).flatMap fun i => [Value.int .u8 (Lib.accLo i), Value.int .u8 (Lib.accHi i)]).toArray
def powCells : Array Value := (Lib.pow10Tab.map fun n : Int => Value.int .u64 n).toArray
def litCells (d : DataW Unit) : Array Value := match d with
  | .agg l => (l.map fun x => match x with | .lit (.int k n) => Value.int k n | _ => undef).toArray
  | _ => #[]
/-- The settled world, the listed tables holding what their initialisers lay. -/
noncomputable def laidWorld (os : Os) : World :=
  { World.holding Tryz.prog os ⟨#[], #[], []⟩ with heap := (((((World.holding Tryz.prog os ⟨#[], #[], []⟩).heap.modify 0 (setTab firstCells)).modify 1 (setTab acceptCells)).modify 3 (setTab (litCells Rows.laid_internal_strconv_uint64pow10))).modify 4 (setTab (litCells Rows.laid_math_bits_deBruijn32tab))).modify 5 (setTab (litCells Rows.laid_math_bits_deBruijn64tab)) }
theorem u8x : Go.Proofs.U8Extra Tryz.prog Tryz.lays196_ren := ⟨by kernel_rfl, by kernel_rfl, by kernel_rfl, by kernel_rfl, by kernel_rfl, by kernel_rfl, by kernel_rfl⟩
theorem first_eq : Go.Pinned.utf8First = Lib.firstData := by kernel_rfl
abbrev laidRow : List (String × DataW Unit) := [("math/bits.deBruijn32tab", Rows.laid_math_bits_deBruijn32tab), ("math/bits.deBruijn64tab", Rows.laid_math_bits_deBruijn64tab), ("internal/strconv.uint64pow10", Rows.laid_internal_strconv_uint64pow10), ("unicode/utf8.acceptRanges", Rows.laid_unicode_utf8_acceptRanges), ("unicode/utf8.first", Rows.laid_unicode_utf8_first)]
theorem env_of {laid : List (String × DataW Unit)} {W : World} (hlaid : laid = laidRow) (h : laidMetH Tryz.prog laid W) : EnvO W := by
  subst hlaid
  have hl : laidMet Tryz.prog laidRow W := h
  have h3 : Lib.VarReads Tryz.prog W "unicode/utf8.first" Lib.firstData := by
    rw [← first_eq]
    exact Lib.laidMet.reads hl (by simp [laidRow, Rows.laid_unicode_utf8_first])
  have h4 : Lib.VarReads Tryz.prog W "unicode/utf8.acceptRanges" Lib.acceptData := by
    have e : (Rows.laid_unicode_utf8_acceptRanges : DataW Unit) = Lib.acceptData := by kernel_rfl
    rw [← e]
    exact Lib.laidMet.reads hl (by simp [laidRow])
  refine ⟨Go.Proofs.utf8Tabs_of_readsT (P := Tryz.prog) (ρ := Tryz.lays196_ren) { Tryz.lays196 with } u8x h3 h4, ?_⟩
  have hp : Lib.VarReads Tryz.prog W "internal/strconv.uint64pow10" (Lib.tabData .u64 Lib.pow10Tab) := by
    have e : (Rows.laid_internal_strconv_uint64pow10 : DataW Unit) = Lib.tabData .u64 Lib.pow10Tab := by kernel_rfl
    rw [← e]
    exact Lib.laidMet.reads hl (by simp [laidRow])
  obtain ⟨g, t, cs, fuel, p, hg, ht, hvar, hd⟩ := hp
  obtain rfl : g = 3 := Option.some.inj (hg.symm.trans (show Tryz.prog.globalNamed "internal/strconv.uint64pow10" = some 3 by kernel_rfl))
  obtain rfl : t = 174 := Option.some.inj (ht.symm.trans (show (Tryz.prog.globals[3]?).map (·.type) = some 174 by kernel_rfl))
  have hc := Lib.cells_of_tab Tryz.underlying174 Tryz.underlying101 (by kernel_rfl) (by kernel_rfl) hd
  unfold Lib.TabIs
  rw [hvar, ← hc]
section
variable {H : Type} {enc : TypeId × Value → H} {P : Program} {w : World} {base : Nat} {spare : Nat → Bool} {held : Bool}
/-- A struct of three strings opened. -/
theorem open_str3 {r : Reach} {b0 : Nat} {t : TypeId} {f0 f1 f2 : Field} {v : Value} {d : DataW H} {p : List MemPlace} (hs : P.underlying t = some (.struct #[f0, f1, f2])) (hone : oneCellFields P #[f0, f1, f2] = true) (hC : P.cellsOf t = 3)
    (g0 : P.underlying f0.type = some .string) (g1 : P.underlying f1.type = some .string) (g2 : P.underlying f2.type = some .string)
    (hv : Value.okWide P w r b0 t v) (h : DataW.Trod enc P w base spare held t v d p) {ts : List TypeId} {ds : List (DataW H)} {j : Nat} (hsz : (DataW.weightsEach P ts ds).all (· ≤ reachBytes) = true) (htj : ts[j]? = some t) (hdj : ds[j]? = some d) :
    ∃ s0 s1 s2 : ByteArray, v = .agg #[.string s0, .string s1, .string s2] ∧ s0.size ≤ reachBytes ∧ s1.size ≤ reachBytes ∧ s2.size ≤ reachBytes := by
  obtain ⟨v0, v1, v2, y0, y1, y2, n, rfl, rfl, rfl, t0, t1, t2⟩ := open_agg3 hs hone hC hv h
  obtain ⟨s0, e0, hy0, _⟩ := DataW.trod_string g0 t0
  obtain ⟨s1, e1, hy1, _⟩ := DataW.trod_string g1 t1
  obtain ⟨s2, e2, hy2, _⟩ := DataW.trod_string g2 t2
  injection e0 with e0
  injection e1 with e1
  injection e2 with e2
  subst e0; subst e1; subst e2
  have hw : ∀ k, k ∈ DataW.weightsEach P [f0.type, f1.type, f2.type] [y0.1, y1.1, y2.1] → k ≤ reachBytes := fun k hk => by
    have := List.all_eq_true.1 hsz k (DataW.weights_mem_each htj hdj k (by simp only [DataW.weights, hs]; exact hk))
    exact of_decide_eq_true this
  refine ⟨s0, s1, s2, rfl, hw _ ?_, hw _ ?_, hw _ ?_⟩
  · exact DataW.weights_mem_each (j := 0) (t := f0.type) (d := y0.1) rfl rfl s0.size (by rw [hy0]; simp [DataW.weights])
  · exact DataW.weights_mem_each (j := 1) (t := f1.type) (d := y1.1) rfl rfl s1.size (by rw [hy1]; simp [DataW.weights])
  · exact DataW.weights_mem_each (j := 2) (t := f2.type) (d := y2.1) rfl rfl s2.size (by rw [hy2]; simp [DataW.weights])
end
end Go.Proofs.YtdlabapfcghfmaaGreatDoor
