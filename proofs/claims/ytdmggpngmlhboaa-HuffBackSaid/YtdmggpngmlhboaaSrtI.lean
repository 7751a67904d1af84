/- The sort's elements, for huff's coins: what a comparison answers. -/
import Derived.Test.YtdmggpngmlhboaaSrtM
import Derived.Test.YtdmggpngmlhboaaPh
namespace Go.Proofs.Ytdmggpngmlhboaa
open Go.RowKit
set_option linter.unusedVariables false

/-- A coin as it lies in memory. -/
structure El where
  w : Int
  A : Option Addr
  n : Nat
  c : Nat
def encE (x : El) : List Value := [.int .i64 x.w, .slice x.A x.n x.c]
theorem encE_len (x : El) : (encE x).length = 2 := rfl
/-- What the sort asks of each element. -/
def okE (x : El) : Prop := 0 ≤ x.w ∧ x.w ≤ 1152921504606846976
def ltE (x y : El) : Bool := decide (x.w < y.w)
def cmpE (x y : El) : Int := x.w - y.w
theorem swoE : Srt.Swo ltE := ⟨fun a => by simp [ltE], fun a b c h1 h2 => by simp [ltE] at *; omega, fun a b c h1 h2 => by simp [ltE] at *; omega⟩
theorem cmpE_lt (x y : El) : decide (cmpE x y < 0) = ltE x y := by unfold cmpE ltE; congr 1; exact propext ⟨fun h => by omega, fun h => by omega⟩
theorem cmp_any (x y : El) (w : World) (hx : okE x) (hy : okE y) :
    Calls Try.prog 32 #[.agg #[.int .i64 x.w, .slice x.A x.n x.c], .agg #[.int .i64 y.w, .slice y.A y.n y.c]] w fun e w' => e = .returned (.int .i64 (cmpE x y)) ∧ Below w.heap.size w w' := by
  obtain ⟨a, A, n, c⟩ := x
  obtain ⟨b, B, m, d⟩ := y
  unfold okE at hx hy
  simp only at hx hy
  obtain ⟨h1, h2⟩ := hx
  obtain ⟨h3, h4⟩ := hy
  unfold cmpE
  simp only
  go_enter Try.func32, Try.ntmps32
  go_wp2
  go_ret
  exact ⟨rfl, (((Below.refl _ _).alloc (Nat.le_refl _) _).alloc (by simp) _)⟩
/-- A call that has put the row in another order, and changed nothing else that was there. -/
def SrtPost (g off cap : Nat) (L : List El) (w : World) (e : Ending) (w' : World) : Prop :=
  e = .returned (.tuple #[]) ∧ Chg (fun k => k = g) w w' ∧ SRow w' 76 2 encE g off cap L
/-- What holds between a walk's steps: the row, and what has changed since W. -/
def SrtAt (W : World) (g off cap : Nat) (L : List El) (w : World) : Prop :=
  Chg (fun k => k = g) W w ∧ SRow w 76 2 encE g off cap L
theorem SrtAt.below {W w w' : World} {g off cap : Nat} {L : List El} (h : SrtAt W g off cap L w) (hb : Below w.heap.size w w') : SrtAt W g off cap L w' :=
  ⟨h.1.trans (S' := fun _ => False) (Chg.of_below hb) (fun _ _ h => h.elim), h.2.below hb⟩
theorem SrtAt.drew {W w : World} {g off cap : Nat} {L : List El} (h : SrtAt W g off cap L w) : SrtAt W g off cap L w.drew := h.below (Below.refl _ _).drew
theorem SrtAt.put {W w : World} {g off cap i : Nat} {L : List El} (h : SrtAt W g off cap L w) (hi : i < L.length) (x : El) : SrtAt W g off cap (L.set i x) (putCells w g (off + i * 2) (encE x)) :=
  ⟨h.1.trans (putCells_chg (S := fun k => k = g) rfl _ _ _) (fun _ _ h => h), h.2.put hi x⟩
theorem SrtAt.c0 {W w : World} {g off cap i : Nat} {L : List El} {x : El} (h : SrtAt W g off cap L w) (hi : L[i]? = some x) : w.cell? ⟨g, off + i * 2, none⟩ = some (.int .i64 x.w) := h.2.cell (c := 0) hi (by decide)
theorem SrtAt.c1 {W w : World} {g off cap i : Nat} {L : List El} {x : El} (h : SrtAt W g off cap L w) (hi : L[i]? = some x) : w.cell? ⟨g, off + i * 2 + 1, none⟩ = some (.slice x.A x.n x.c) := h.2.cell (c := 1) hi (by decide)
theorem SrtAt.f0 {W w : World} {g off cap i : Nat} {L : List El} (h : SrtAt W g off cap L w) (hi : i < L.length) : w.frozen? ⟨g, off + i * 2, none⟩ = false := h.2.freeAt (c := 0) hi (by decide)
theorem SrtAt.f1 {W w : World} {g off cap i : Nat} {L : List El} (h : SrtAt W g off cap L w) (hi : i < L.length) : w.frozen? ⟨g, off + i * 2 + 1, none⟩ = false := h.2.freeAt (c := 1) hi (by decide)
theorem SrtAt.start {W : World} {g off cap : Nat} {L : List El} (h : SRow W 76 2 encE g off cap L) : SrtAt W g off cap L W := ⟨Chg.refl _ _, h⟩
/-- Between the operations of an exchange. -/
def ISwap (W : World) (g off cap i j : Nat) (x y : El) (L : List El) : List Value → World → Prop
  | [], w => SrtAt W g off cap L w
  | [_], w => SrtAt W g off cap (L.set i y) w
  | _, w => SrtAt W g off cap ((L.set i y).set j x) w
end Go.Proofs.Ytdmggpngmlhboaa
