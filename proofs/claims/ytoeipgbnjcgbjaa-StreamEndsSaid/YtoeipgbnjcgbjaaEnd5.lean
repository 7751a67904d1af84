/- What Write, Close, Read, Out and In of an end do, as functions; an end whose bytes have grown. -/
import Derived.Test.YtoeipgbnjcgbjaaEnd3
namespace Go.Proofs.Ytoeipgbnjcgbjaa
open Go.RowKit
set_option linter.unusedVariables false

def writeS (s : En) (b : List Int) : Int × En :=
  if s.st = 4 then (81, s) else if s.closed then (1, s) else if (1048576 : Int) - s.out.length < b.length then (60, s) else (0, { s with out := s.out ++ b })
def closeS (s : En) : Int × En := if s.st = 4 then (81, s) else (0, { s with closed := true })
def readS (s : En) : List Int × En := (s.inn.drop s.read.toNat, { s with read := s.inn.length })
def outS (s : En) (now : Int) : List (List Int) × En :=
  if s.st = 1 then (if !s.dialed || dueB s now then ([segL ⟨1, s.id, 0, 0, []⟩], { s with dialed := true, at_ := now }) else ([], s))
  else if s.st = 3 then sendsS s now else ([], s)
def mostS (s : En) : Int := if s.endSent then s.next + 1 else s.next
def ackedS (s : En) (n now : Int) : En :=
  if n ≤ s.una ∨ mostS s < n then s else
  if (s.out.length : Int) < n then { s with una := s.out.length, at_ := now, endAcked := true } else { s with una := n, at_ := now }
def dataS (s : En) (q : Sg) : En :=
  if q.seq = s.inn.length ∧ (q.data.length : Int) ≤ 1048576 - s.inn.length ∧ s.other = false then { s with owes := true, inn := s.inn ++ q.data } else { s with owes := true }
def openS (s : En) (q : Sg) (now : Int) : En :=
  if q.t = 1 then { s with owes := true }
  else if q.t = 2 then ackedS s q.ack now
  else if q.t = 3 then dataS s q
  else if q.t = 4 then (if q.seq = s.inn.length then { s with owes := true, other := true } else { s with owes := true })
  else s
def dialS (s : En) (q : Sg) : En := if q.t = 2 ∧ q.ack = 0 then { s with st := 3 } else s
def listenS (s : En) (q : Sg) : En := if q.t = 1 then { s with st := 3, owes := true } else s
def stepS (s : En) (q : Sg) (now : Int) : En :=
  if q.id ≠ s.id ∨ s.st = 4 then s else if q.t = 5 then { s with st := 4 }
  else if s.st = 1 then dialS s q
  else if s.st = 2 then listenS s q
  else openS s q now
def inS (s : En) (b : List Int) (now : Int) : En := if parseB b then stepS s (parseS b) now else s

theorem writeS_ok (s : En) (b : List Int) (h : EnOk s) (hb : Bytes b) : EnOk (writeS s b).2 := by
  unfold writeS
  split
  · exact h
  split
  · exact h
  split
  · exact h
  · have h1 := h.outl
    have h2 := h.next
    refine ⟨h.st, h.id, h.una, by simp only [List.length_append]; omega, by simp only [List.length_append]; omega, h.innl, h.read, ?_, h.innb, h.at_⟩
    intro x hx
    rcases List.mem_append.1 hx with hx | hx
    · exact h.outb x hx
    · exact hb x hx
theorem closeS_ok (s : En) (h : EnOk s) : EnOk (closeS s).2 := by
  unfold closeS
  split
  · exact h
  · exact h.mk' rfl rfl rfl rfl rfl h.una h.next h.at_
theorem readS_ok (s : En) (h : EnOk s) : EnOk (readS s).2 :=
  ⟨h.st, h.id, h.una, h.next, h.outl, h.innl, ⟨by simp [readS], by simp [readS]⟩, h.outb, h.innb, h.at_⟩
theorem outS_ok (s : En) (now : Int) (h : EnOk s) (hn : (Lit.int .i64 now).wf = true) : EnOk (outS s now).2 := by
  unfold outS
  split
  · split
    · exact h.mk' rfl rfl rfl rfl rfl h.una h.next hn
    · exact h
  split
  · exact sendsS_ok s now h hn
  · exact h
theorem ackedS_ok (s : En) (n now : Int) (h : EnOk s) (hn : (Lit.int .i64 now).wf = true) (hf : s.endSent = true → s.next = s.out.length) : EnOk (ackedS s n now) := by
  have h1 := h.una
  have h2 := h.next
  unfold ackedS
  split
  · exact h
  rename_i hc
  split
  · have he : s.endSent = true := by
      cases he : s.endSent
      · simp [mostS, he] at hc; omega
      · rfl
    have := hf he
    exact h.mk' rfl rfl rfl rfl rfl ⟨by simp only []; omega, by simp only []; omega⟩ h.next hn
  · exact h.mk' rfl rfl rfl rfl rfl ⟨by simp only []; omega, by
      simp only []
      cases he : s.endSent
      · simp [mostS, he] at hc; omega
      · have := hf he; omega⟩ h.next hn
theorem dataS_ok (s : En) (q : Sg) (h : EnOk s) (hq : Bytes q.data) : EnOk (dataS s q) := by
  have h1 := h.innl
  have h2 := h.read
  unfold dataS
  split
  · rename_i hc
    refine ⟨h.st, h.id, h.una, h.next, h.outl, by simp only [List.length_append]; omega, ⟨h2.1, by simp only [List.length_append]; omega⟩, h.outb, ?_, h.at_⟩
    intro x hx
    rcases List.mem_append.1 hx with hx | hx
    · exact h.innb x hx
    · exact hq x hx
  · exact h.mk' rfl rfl rfl rfl rfl h.una h.next h.at_
/-- Once the end was sent, all was sent: what holds between calls besides EnOk. -/
def EnFin (s : En) : Prop := (s.endSent = true → s.next = s.out.length ∧ s.closed = true) ∧ (s.endAcked = true → s.una = s.out.length ∧ s.endSent = true)
theorem openS_ok (s : En) (q : Sg) (now : Int) (h : EnOk s) (hq : Bytes q.data) (hn : (Lit.int .i64 now).wf = true) (hf : EnFin s) : EnOk (openS s q now) := by
  unfold openS
  split
  · exact h.mk' rfl rfl rfl rfl rfl h.una h.next h.at_
  split
  · exact ackedS_ok s _ now h hn (fun he => (hf.1 he).1)
  split
  · exact dataS_ok s q h hq
  split
  · split
    · exact h.mk' rfl rfl rfl rfl rfl h.una h.next h.at_
    · exact h.mk' rfl rfl rfl rfl rfl h.una h.next h.at_
  · exact h
theorem EnOk.st_ {s : En} (h : EnOk s) (v : Int) (hv : 1 ≤ v ∧ v ≤ 4) : EnOk { s with st := v } := ⟨hv, h.id, h.una, h.next, h.outl, h.innl, h.read, h.outb, h.innb, h.at_⟩
theorem stepS_ok (s : En) (q : Sg) (now : Int) (h : EnOk s) (hq : Bytes q.data) (hn : (Lit.int .i64 now).wf = true) (hf : EnFin s) : EnOk (stepS s q now) := by
  unfold stepS
  split
  · exact h
  split
  · exact h.st_ 4 (by decide)
  split
  · unfold dialS
    split
    · exact h.st_ 3 (by decide)
    · exact h
  split
  · unfold listenS
    split
    · exact (h.st_ 3 (by decide)).mk' rfl rfl rfl rfl rfl h.una h.next h.at_
    · exact h
  · exact openS_ok s q now h hq hn hf
theorem parseS_bytes (b : List Int) (hb : Bytes b) : Bytes (parseS b).data := fun x hx => hb x (List.mem_of_mem_drop (List.mem_of_mem_take hx))
theorem inS_ok (s : En) (b : List Int) (now : Int) (h : EnOk s) (hb : Bytes b) (hn : (Lit.int .i64 now).wf = true) (hf : EnFin s) : EnOk (inS s b now) := by
  unfold inS
  split
  · exact stepS_ok s _ now h (parseS_bytes b hb) hn hf
  · exact h

theorem newEnd_fin (id st : Int) : EnFin (newEnd id st) := ⟨fun h => by simp [newEnd] at h, fun h => by simp [newEnd] at h⟩
theorem writeS_fin (s : En) (b : List Int) (h : EnFin s) : EnFin (writeS s b).2 := by
  unfold writeS
  split
  · exact h
  split
  · exact h
  split
  · exact h
  · rename_i h1 h2 h3
    have : s.endSent = false := by
      cases he : s.endSent
      · rfl
      · exact absurd (h.1 he).2 h2
    refine ⟨fun he => ?_, fun he => ?_⟩
    · simp only at he; rw [this] at he; cases he
    · have := (h.2 he).2
      simp_all
theorem closeS_fin (s : En) (h : EnFin s) : EnFin (closeS s).2 := by
  unfold closeS
  split
  · exact h
  · exact ⟨fun he => ⟨(h.1 he).1, rfl⟩, h.2⟩
theorem sends1_fin (s : En) (now : Int) (h : EnFin s) : EnFin (sends1 s now) := by
  unfold sends1
  split
  · refine ⟨fun he => ?_, fun he => ⟨(h.2 he).1, he⟩⟩
    have := h.2 he
    exact ⟨this.1, (h.1 this.2).2⟩
  · exact h
theorem sends2_fin (s : En) (h : EnFin s) : EnFin (sends2 s).2 := by
  unfold sends2
  split
  · exact h
  · exact h
theorem sends3_fin (s : En) (h : EnFin s) (hok : EnOk s) : EnFin (sends3 s).2 := by
  refine ⟨fun he => ?_, h.2⟩
  have h1 := h.1 he
  have h2 := dataL_end s s.out.length s.next.toNat (by have := hok.una; omega)
  refine ⟨?_, h1.2⟩
  show ((dataL s s.out.length s.next.toNat).2 : Int) = _
  rw [h2]
  have := hok.una
  show ((s.next.toNat : Nat) : Int) = (s.out.length : Int)
  omega
theorem sends4_fin (s : En) (h : EnFin s) : EnFin (sends4 s).2 := by
  unfold sends4
  split
  · rename_i hf
    simp [finB] at hf
    exact ⟨fun _ => ⟨hf.2, hf.1.1⟩, fun he => ⟨(h.2 he).1, rfl⟩⟩
  · exact h
theorem sends5_fin (b : Bool) (s : En) (now : Int) (h : EnFin s) : EnFin (sends5 b s now) := by
  unfold sends5
  split
  · exact h
  · exact h
theorem sendsS_fin (s : En) (now : Int) (h : EnFin s) (hok : EnOk s) (hn : (Lit.int .i64 now).wf = true) : EnFin (sendsS s now).2 :=
  sends5_fin _ _ now (sends4_fin _ (sends3_fin _ (sends2_fin _ (sends1_fin s now h)) (sends2_ok _ (sends1_ok s now hok hn))))
theorem outS_fin (s : En) (now : Int) (h : EnFin s) (hok : EnOk s) (hn : (Lit.int .i64 now).wf = true) : EnFin (outS s now).2 := by
  unfold outS
  split
  · split
    · exact h
    · exact h
  split
  · exact sendsS_fin s now h hok hn
  · exact h
theorem ackedS_fin (s : En) (n now : Int) (h : EnFin s) (hok : EnOk s) : EnFin (ackedS s n now) := by
  have h1 := hok.una
  have h2 := hok.next
  unfold ackedS
  split
  · exact h
  rename_i hc
  split
  · have he : s.endSent = true := by
      cases he : s.endSent
      · simp [mostS, he] at hc; omega
      · rfl
    exact ⟨h.1, fun _ => ⟨rfl, he⟩⟩
  · refine ⟨h.1, fun he => ⟨?_, (h.2 he).2⟩⟩
    have h3 := h.2 he
    show n = s.out.length
    omega
theorem openS_fin (s : En) (q : Sg) (now : Int) (h : EnFin s) (hok : EnOk s) : EnFin (openS s q now) := by
  unfold openS
  split
  · exact h
  split
  · exact ackedS_fin s _ now h hok
  split
  · unfold dataS
    split
    · exact h
    · exact h
  split
  · split
    · exact h
    · exact h
  · exact h
theorem inS_fin (s : En) (b : List Int) (now : Int) (h : EnFin s) (hok : EnOk s) : EnFin (inS s b now) := by
  unfold inS
  split
  · unfold stepS
    split
    · exact h
    split
    · exact h
    split
    · unfold dialS
      split
      · exact h
      · exact h
    split
    · unfold listenS
      split
      · exact h
      · exact h
    · exact openS_fin s _ now h hok
  · exact h

section
variable {g : Nat} {w w1 : World} {s : En} {vo vi : Value}
theorem fresh_far {v v' : Value} {B n : Nat} {e : TypeId} {xs : List Value} {u : Value} (h : OwnS w B e 1 u n xs) (hs : ∀ k, v.ownBlock = some k → u.ownBlock ≠ some k) (hf : v'.ownBlock = v.ownBlock ∨ ∀ k, v'.ownBlock = some k → w.heap.size ≤ k) : ∀ k, v'.ownBlock = some k → u.ownBlock ≠ some k := by
  intro k hk hu
  rcases hf with hf | hf
  · exact hs k (by rw [← hf]; exact hk) hu
  · have h1 := hf k hk
    have := (h.lt k hu).2
    omega
/-- The bytes to be sent have grown (stored into the field). -/
theorem EnAt.newOut (h : EnAt g w s vo vi) {S : Nat → Prop} (hc : Chg S w w1) (hS : ∀ k, k < w.heap.size → S k → vo.ownBlock = some k) {vo' : Value} {out' : List Int} (ho : OwnS w1 0 5 1 vo' out'.length (out'.map (Value.int .u8))) (hf : Fresh w vo vo') :
    EnAt g (w1.setCell ⟨g, 3, none⟩ vo') { s with out := out' } vo' vi := by
  have hfar := h.far
  have hcel : Cel w1 g 91 14 (enF s vo vi) := h.cel.chg hc (fun hs => hfar.1 (hS g h.blk hs))
  have hoi : OwnS w1 0 5 1 vi s.inn.length (s.inn.map (Value.int .u8)) := h.oi.chg hc (fun k hk hs => h.sep k (hS k (h.oi.lt k hk).2 hs) hk)
  refine ⟨(hcel.set 3 vo').congr (enF_cases rfl rfl rfl rfl rfl rfl rfl rfl rfl rfl rfl rfl rfl rfl), ho.setFar (ho.ne_cel hcel (by decide)) _, hoi.setFar hfar.2 _, fresh_far h.oi h.sep hf⟩
theorem EnAt.newIn (h : EnAt g w s vo vi) {S : Nat → Prop} (hc : Chg S w w1) (hS : ∀ k, k < w.heap.size → S k → vi.ownBlock = some k) {vi' : Value} {in' : List Int} (hi : OwnS w1 0 5 1 vi' in'.length (in'.map (Value.int .u8))) (hf : Fresh w vi vi') :
    EnAt g (w1.setCell ⟨g, 10, none⟩ vi') { s with inn := in' } vo vi' := by
  have hfar := h.far
  have hcel : Cel w1 g 91 14 (enF s vo vi) := h.cel.chg hc (fun hs => hfar.2 (hS g h.blk hs))
  have hoo : OwnS w1 0 5 1 vo s.out.length (s.out.map (Value.int .u8)) := h.oo.chg hc (fun k hk hs => h.sep k hk (hS k (h.oo.lt k hk).2 hs))
  refine ⟨(hcel.set 10 vi').congr (enF_cases rfl rfl rfl rfl rfl rfl rfl rfl rfl rfl rfl rfl rfl rfl), hoo.setFar hfar.1 _, hi.setFar (hi.ne_cel hcel (by decide)) _, fun k hk hk' => fresh_far h.oo (fun j hj hj' => h.sep j hj' hj) hf k hk' hk⟩
end
end Go.Proofs.Ytoeipgbnjcgbjaa
