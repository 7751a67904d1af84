/- What an open end sends: as a function; plain laws. -/
import Derived.Test.YtoeipgbnjcgbjaaEnd2
namespace Go.Proofs.Ytoeipgbnjcgbjaa
open Go.RowKit
set_option linter.unusedVariables false

def sends1 (s : En) (now : Int) : En := if waitsB s && dueB s now then { s with next := s.una, at_ := now, endSent := s.endAcked } else s
def ackSeg (s : En) : List Int := segL ⟨2, s.id, 0, s.inn.length + (if s.other then 1 else 0), []⟩
def sends2 (s : En) : List (List Int) × En := if s.owes then ([ackSeg s], { s with owes := false }) else ([], s)
/-- The piece of data from p on. -/
def pieceN (s : En) (p : Nat) : Nat := min 400 (s.out.length - p)
def dataSeg (s : En) (p : Nat) : List Int := segL ⟨3, s.id, p, 0, (s.out.drop p).take (pieceN s p)⟩
def dataL (s : En) : Nat → Nat → List (List Int) × Nat
  | 0, p => ([], p)
  | f + 1, p => if p < s.out.length ∧ (p : Int) < s.una + 4000 then (dataSeg s p :: (dataL s f (p + pieceN s p)).1, (dataL s f (p + pieceN s p)).2) else ([], p)
def sends3 (s : En) : List (List Int) × En := ((dataL s s.out.length s.next.toNat).1, { s with next := ((dataL s s.out.length s.next.toNat).2 : Int) })
def finB (s : En) : Bool := s.closed && !s.endSent && decide (s.next = s.out.length)
def sends4 (s : En) : List (List Int) × En := if finB s then ([segL ⟨4, s.id, s.next, 0, []⟩], { s with endSent := true }) else ([], s)
def sends5 (b : Bool) (s : En) (now : Int) : En := if b then { s with at_ := now } else s
def sendsS (s : En) (now : Int) : List (List Int) × En :=
  let a := sends2 (sends1 s now)
  let b := sends3 a.2
  let c := sends4 b.2
  (a.1 ++ b.1 ++ c.1, sends5 (!waitsB a.2 && (!b.1.isEmpty || !c.1.isEmpty)) c.2 now)

theorem dataL_end (s : En) (f p : Nat) (h : ¬ (p < s.out.length ∧ (p : Int) < s.una + 4000)) : dataL s f p = ([], p) := by
  cases f with
  | zero => rfl
  | succ f => rw [dataL, if_neg h]
theorem dataL_le (s : En) : ∀ (f p : Nat), p ≤ s.out.length → p ≤ (dataL s f p).2 ∧ (dataL s f p).2 ≤ s.out.length := by
  intro f
  induction f with
  | zero => intro p hp; exact ⟨Nat.le_refl _, hp⟩
  | succ f ih =>
    intro p hp
    rw [dataL]
    split
    · have hn : pieceN s p ≤ s.out.length - p := Nat.min_le_right _ _
      have := ih (p + pieceN s p) (by omega)
      exact ⟨by omega, this.2⟩
    · exact ⟨Nat.le_refl _, hp⟩
theorem EnOk.mk' {s s' : En} (h : EnOk s) (h0 : s'.st = s.st) (h1 : s'.id = s.id) (h2 : s'.out = s.out) (h3 : s'.inn = s.inn) (h4 : s'.read = s.read) (h5 : 0 ≤ s'.una ∧ s'.una ≤ s'.next) (h6 : s'.next ≤ s.out.length) (h7 : (Lit.int .i64 s'.at_).wf = true) : EnOk s' :=
  ⟨h0 ▸ h.st, h1 ▸ h.id, h5, h2 ▸ h6, h2 ▸ h.outl, h3 ▸ h.innl, by rw [h3, h4]; exact h.read, h2 ▸ h.outb, h3 ▸ h.innb, h7⟩
theorem sends1_ok (s : En) (now : Int) (h : EnOk s) (hn : (Lit.int .i64 now).wf = true) : EnOk (sends1 s now) := by
  unfold sends1
  split
  · exact h.mk' rfl rfl rfl rfl rfl ⟨h.una.1, Int.le_refl _⟩ (Int.le_trans h.una.2 h.next) hn
  · exact h
theorem sends2_ok (s : En) (h : EnOk s) : EnOk (sends2 s).2 := by
  unfold sends2
  split
  · exact h.mk' rfl rfl rfl rfl rfl h.una h.next h.at_
  · exact h
theorem sends3_ok (s : En) (h : EnOk s) : EnOk (sends3 s).2 := by
  have h1 := h.una
  have h2 := h.next
  have := dataL_le s s.out.length s.next.toNat (by omega)
  exact h.mk' rfl rfl rfl rfl rfl ⟨h.una.1, by show s.una ≤ ((dataL s s.out.length s.next.toNat).2 : Int); omega⟩ (by show ((dataL s s.out.length s.next.toNat).2 : Int) ≤ _; omega) h.at_
theorem sends4_ok (s : En) (h : EnOk s) : EnOk (sends4 s).2 := by
  unfold sends4
  split
  · exact h.mk' rfl rfl rfl rfl rfl h.una h.next h.at_
  · exact h
theorem sends5_ok (b : Bool) (s : En) (now : Int) (h : EnOk s) (hn : (Lit.int .i64 now).wf = true) : EnOk (sends5 b s now) := by
  unfold sends5
  split
  · exact h.mk' rfl rfl rfl rfl rfl h.una h.next hn
  · exact h
theorem sendsS_ok (s : En) (now : Int) (h : EnOk s) (hn : (Lit.int .i64 now).wf = true) : EnOk (sendsS s now).2 :=
  sends5_ok _ _ now (sends4_ok _ (sends3_ok _ (sends2_ok _ (sends1_ok s now h hn)))) hn
end Go.Proofs.Ytoeipgbnjcgbjaa
