/- An end of a stream in memory; Dial, Listen, State, Done, waits, due, say, Close. -/
import Derived.Test.YtoeipgbnjcgbjaaSeg5
namespace Go.Proofs.Ytoeipgbnjcgbjaa
open Go.RowKit
set_option linter.unusedVariables false

structure En where
  id : Int
  st : Int
  dialed : Bool
  out : List Int
  una : Int
  next : Int
  at_ : Int
  closed : Bool
  endSent : Bool
  endAcked : Bool
  inn : List Int
  read : Int
  other : Bool
  owes : Bool
def enF (s : En) (vo vi : Value) (i : Nat) : Value :=
  if i = 0 then .int .u32 s.id else if i = 1 then .int .i64 s.st else if i = 2 then .bool s.dialed else if i = 3 then vo else if i = 4 then .int .i64 s.una else if i = 5 then .int .i64 s.next
  else if i = 6 then .int .i64 s.at_ else if i = 7 then .bool s.closed else if i = 8 then .bool s.endSent else if i = 9 then .bool s.endAcked else if i = 10 then vi else if i = 11 then .int .i64 s.read
  else if i = 12 then .bool s.other else .bool s.owes
structure EnAt (g : Nat) (w : World) (s : En) (vo vi : Value) : Prop where
  cel : Cel w g 91 14 (enF s vo vi)
  oo : OwnS w 0 5 1 vo s.out.length (s.out.map (Value.int .u8))
  oi : OwnS w 0 5 1 vi s.inn.length (s.inn.map (Value.int .u8))
  sep : ∀ k, vo.ownBlock = some k → vi.ownBlock ≠ some k
/-- The blocks of an end. -/
def Fp (g : Nat) (vo vi : Value) (k : Nat) : Prop := k = g ∨ vo.ownBlock = some k ∨ vi.ownBlock = some k
def Fresh (w : World) (v v' : Value) : Prop := v'.ownBlock = v.ownBlock ∨ ∀ k, v'.ownBlock = some k → w.heap.size ≤ k
/-- What holds of an end's numbers at every time. -/
structure EnOk (s : En) : Prop where
  st : 1 ≤ s.st ∧ s.st ≤ 4
  id : 0 ≤ s.id ∧ s.id < 4294967296
  una : 0 ≤ s.una ∧ s.una ≤ s.next
  next : s.next ≤ s.out.length
  outl : s.out.length ≤ 1048576
  innl : s.inn.length ≤ 1048576
  read : 0 ≤ s.read ∧ s.read ≤ s.inn.length
  outb : Bytes s.out
  innb : Bytes s.inn
  at_ : (Lit.int .i64 s.at_).wf = true

section
variable {g : Nat} {w w' : World} {s : En} {vo vi : Value}
theorem EnAt.far (h : EnAt g w s vo vi) : vo.ownBlock ≠ some g ∧ vi.ownBlock ≠ some g := ⟨h.oo.ne_cel h.cel (by decide), h.oi.ne_cel h.cel (by decide)⟩
theorem EnAt.blk (h : EnAt g w s vo vi) : g < w.heap.size := h.cel.blk
theorem EnAt.fp_lt (h : EnAt g w s vo vi) : ∀ k, Fp g vo vi k → k < w.heap.size := by
  rintro k (rfl | h1 | h1)
  · exact h.blk
  · exact (h.oo.lt k h1).2
  · exact (h.oi.lt k h1).2
theorem EnAt.chg {S : Nat → Prop} (h : EnAt g w s vo vi) (hc : Chg S w w') (hS : ∀ k, Fp g vo vi k → ¬ S k) : EnAt g w' s vo vi :=
  ⟨h.cel.chg hc (hS g (.inl rfl)), h.oo.chg hc (fun k hk => hS k (.inr (.inl hk))), h.oi.chg hc (fun k hk => hS k (.inr (.inr hk))), h.sep⟩
theorem EnAt.below (h : EnAt g w s vo vi) (hb : Below w.heap.size w w') : EnAt g w' s vo vi := h.chg (S := fun _ => False) (Chg.of_below hb) (fun _ _ h => h)
theorem EnAt.drew (h : EnAt g w s vo vi) : EnAt g w.drew s vo vi := ⟨h.cel.drew, h.oo.drew, h.oi.drew, h.sep⟩
theorem EnAt.drewN (h : EnAt g w s vo vi) (n : Nat) : EnAt g (w.drewN n) s vo vi := ⟨h.cel.drewN n, h.oo.heap fun _ _ => rfl, h.oi.heap fun _ _ => rfl, h.sep⟩
theorem EnAt.cell (h : EnAt g w s vo vi) (i : Nat) (hi : i < 14) : w.cell? ⟨g, i, none⟩ = some (enF s vo vi i) := h.cel.cell i hi
theorem EnAt.c0 (h : EnAt g w s vo vi) : w.cell? ⟨g, 0, none⟩ = some (.int .u32 s.id) := h.cell 0 (by decide)
theorem EnAt.c1 (h : EnAt g w s vo vi) : w.cell? ⟨g, 1, none⟩ = some (.int .i64 s.st) := h.cell 1 (by decide)
theorem EnAt.c2 (h : EnAt g w s vo vi) : w.cell? ⟨g, 2, none⟩ = some (.bool s.dialed) := h.cell 2 (by decide)
theorem EnAt.c3 (h : EnAt g w s vo vi) : w.cell? ⟨g, 3, none⟩ = some vo := h.cell 3 (by decide)
theorem EnAt.c4 (h : EnAt g w s vo vi) : w.cell? ⟨g, 4, none⟩ = some (.int .i64 s.una) := h.cell 4 (by decide)
theorem EnAt.c5 (h : EnAt g w s vo vi) : w.cell? ⟨g, 5, none⟩ = some (.int .i64 s.next) := h.cell 5 (by decide)
theorem EnAt.c6 (h : EnAt g w s vo vi) : w.cell? ⟨g, 6, none⟩ = some (.int .i64 s.at_) := h.cell 6 (by decide)
theorem EnAt.c7 (h : EnAt g w s vo vi) : w.cell? ⟨g, 7, none⟩ = some (.bool s.closed) := h.cell 7 (by decide)
theorem EnAt.c8 (h : EnAt g w s vo vi) : w.cell? ⟨g, 8, none⟩ = some (.bool s.endSent) := h.cell 8 (by decide)
theorem EnAt.c9 (h : EnAt g w s vo vi) : w.cell? ⟨g, 9, none⟩ = some (.bool s.endAcked) := h.cell 9 (by decide)
theorem EnAt.c10 (h : EnAt g w s vo vi) : w.cell? ⟨g, 10, none⟩ = some vi := h.cell 10 (by decide)
theorem EnAt.c11 (h : EnAt g w s vo vi) : w.cell? ⟨g, 11, none⟩ = some (.int .i64 s.read) := h.cell 11 (by decide)
theorem EnAt.c12 (h : EnAt g w s vo vi) : w.cell? ⟨g, 12, none⟩ = some (.bool s.other) := h.cell 12 (by decide)
theorem EnAt.c13 (h : EnAt g w s vo vi) : w.cell? ⟨g, 13, none⟩ = some (.bool s.owes) := h.cell 13 (by decide)
/-- One field stored. -/
theorem EnAt.set (h : EnAt g w s vo vi) (i : Nat) (u : Value) (s' : En) (h1 : s'.out = s.out) (h2 : s'.inn = s.inn) (hf : ∀ j, j < 14 → (if j = i then u else enF s vo vi j) = enF s' vo vi j) : EnAt g (w.setCell ⟨g, i, none⟩ u) s' vo vi := by
  refine ⟨(h.cel.set i u).congr hf, ?_, ?_, h.sep⟩
  · rw [h1]; exact h.oo.setFar (h.far.1) _
  · rw [h2]; exact h.oi.setFar (h.far.2) _
theorem enF_cases {P : Nat → Prop} (h0 : P 0) (h1 : P 1) (h2 : P 2) (h3 : P 3) (h4 : P 4) (h5 : P 5) (h6 : P 6) (h7 : P 7) (h8 : P 8) (h9 : P 9) (h10 : P 10) (h11 : P 11) (h12 : P 12) (h13 : P 13) : ∀ j, j < 14 → P j := by
  intro j hj
  rcases j with _ | _ | _ | _ | _ | _ | _ | _ | _ | _ | _ | _ | _ | _ | j
  all_goals first | assumption | omega
end
def newEnd (id st : Int) : En := ⟨w32 id, st, false, [], 0, 0, 0, false, false, false, [], 0, false, false⟩
theorem newEnd_ok (id st : Int) (h : 1 ≤ st ∧ st ≤ 4) : EnOk (newEnd id st) := ⟨h, w32_ok id, by simp [newEnd], by simp [newEnd], by simp [newEnd], by simp [newEnd], by simp [newEnd], (fun x h => by cases h), (fun x h => by cases h), by simp only [newEnd]; decide⟩
def EnNew (w : World) (s : En) (e : Ending) (w' : World) : Prop := e = .returned (.pointer (some ⟨w.heap.size, 0, none⟩)) ∧ EnAt w.heap.size w' s (.slice none 0 0) (.slice none 0 0) ∧ Below w.heap.size w w'

set_option maxRecDepth 100000 in
theorem dial_any (id : Int) (w : World) : Calls Try.prog 20 #[.int .i64 id] w (EnNew w (newEnd id 1)) := by
  have e1 : IntKind.u32.wrap id = w32 id := IntKind.wrap_u32' _
  go_enter Try.func20, Try.ntmps20
  go_wp2
  go_ret
  refine ⟨rfl, ⟨Cel.new w _ _ _ (enF_cases rfl rfl rfl rfl rfl rfl rfl rfl rfl rfl rfl rfl rfl rfl), OwnS.nil _ _ _ _, OwnS.nil _ _ _ _, fun k h => by cases h⟩, (Below.refl _ _).alloc (Nat.le_refl _) _⟩
set_option maxRecDepth 100000 in
theorem listen_any (id : Int) (w : World) : Calls Try.prog 26 #[.int .i64 id] w (EnNew w (newEnd id 2)) := by
  have e1 : IntKind.u32.wrap id = w32 id := IntKind.wrap_u32' _
  go_enter Try.func26, Try.ntmps26
  go_wp2
  go_ret
  refine ⟨rfl, ⟨Cel.new w _ _ _ (enF_cases rfl rfl rfl rfl rfl rfl rfl rfl rfl rfl rfl rfl rfl rfl), OwnS.nil _ _ _ _, OwnS.nil _ _ _ _, fun k h => by cases h⟩, (Below.refl _ _).alloc (Nat.le_refl _) _⟩
set_option maxRecDepth 100000 in
theorem state_any (g : Nat) (s : En) (vo vi : Value) (w : World) (h : EnAt g w s vo vi) : Calls Try.prog 25 #[.pointer (some ⟨g, 0, none⟩)] w fun e w' => e = .returned (.int .i64 s.st) ∧ w = w' := by
  have c1 := h.c1
  go_enter Try.func25, Try.ntmps25
  go_wp2
  go_ret
  exact ⟨rfl, rfl⟩

def waitsB (s : En) : Bool := decide (s.una < s.next) || (s.endSent && !s.endAcked)
def dueB (s : En) (now : Int) : Bool := decide (s.at_ ≤ 9223372036854775799) && decide (s.at_ + 8 ≤ now)
set_option maxRecDepth 100000 in
set_option maxHeartbeats 1000000 in
theorem waits_any (g : Nat) (s : En) (vo vi : Value) (w : World) (h : EnAt g w s vo vi) : Calls Try.prog 67 #[.pointer (some ⟨g, 0, none⟩)] w fun e w' => e = .returned (.bool (waitsB s)) ∧ ∃ m, w' = w.drewN m := by
  have c4 := h.c4
  have c5 := h.c5
  have c8 := h.c8
  have c9 := h.c9
  have HW : Hid (waitsB s = (decide (s.una < s.next) || (s.endSent && !s.endAcked))) := rfl
  clear h
  obtain ⟨id, st, dialed, out, una, next, at_, closed, endSent, endAcked, inn, read, other, owes⟩ := s
  simp only at *
  by_cases hlt : una < next
  · have d : decide (una < next) = true := by simpa using hlt
    go_enter Try.func67, Try.ntmps67
    go_wp2
    go_quiet (fail)
    go_wp2
    go_ret
    exact ⟨by rw [HW.out, d]; rfl, nq, rfl⟩
  · have d : decide (una < next) = false := by simpa using hlt
    cases endSent
    · go_enter Try.func67, Try.ntmps67
      go_wp2
      go_quiet (fail)
      go_wp2
      go_ret
      exact ⟨by rw [HW.out, d]; rfl, nq, rfl⟩
    · cases endAcked
      all_goals
        go_enter Try.func67, Try.ntmps67
        go_wp2
        go_quiet (fail)
        go_wp2
        go_ret
        exact ⟨by rw [HW.out, d]; rfl, nq, rfl⟩
set_option maxRecDepth 100000 in
theorem due_any (g : Nat) (s : En) (vo vi : Value) (now : Int) (w : World) (h : EnAt g w s vo vi) (ha : (Lit.int .i64 s.at_).wf = true) : Calls Try.prog 55 #[.pointer (some ⟨g, 0, none⟩), .int .i64 now] w fun e w' => e = .returned (.bool (dueB s now)) ∧ w = w' := by
  have c6 := h.c6
  have HW : Hid (dueB s now = (decide (s.at_ ≤ 9223372036854775799) && decide (s.at_ + 8 ≤ now))) := rfl
  have hat : -9223372036854775808 ≤ s.at_ ∧ s.at_ ≤ 9223372036854775807 := by
    simp [Lit.wf, IntKind.min, IntKind.max, IntKind.bits, IntKind.signed] at ha
    omega
  clear h ha
  obtain ⟨id, st, dialed, out, una, next, at_, closed, endSent, endAcked, inn, read, other, owes⟩ := s
  simp only at *
  by_cases hle : at_ ≤ 9223372036854775799
  · have d : decide (at_ ≤ 9223372036854775799) = true := by simpa using hle
    have hw : IntKind.i64.wrap (at_ + 8) = at_ + 8 := IntWalk.i64_in _ (by omega)
    by_cases h2 : at_ + 8 ≤ now
    · have d2 : decide (at_ + 8 ≤ now) = true := by simpa using h2
      go_enter Try.func55, Try.ntmps55
      go_wp2
      go_ret
      exact ⟨by rw [HW.out, d, d2]; rfl, rfl⟩
    · have d2 : decide (at_ + 8 ≤ now) = false := by simpa using h2
      go_enter Try.func55, Try.ntmps55
      go_wp2
      go_ret
      exact ⟨by rw [HW.out, d, d2]; rfl, rfl⟩
  · have d : decide (at_ ≤ 9223372036854775799) = false := by simpa using hle
    go_enter Try.func55, Try.ntmps55
    go_wp2
    go_ret
    exact ⟨by rw [HW.out, d]; rfl, rfl⟩
end Go.Proofs.Ytoeipgbnjcgbjaa
