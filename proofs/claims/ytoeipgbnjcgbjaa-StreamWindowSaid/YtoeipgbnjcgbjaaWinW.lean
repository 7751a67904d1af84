/- The walk of StreamWindow: under way. -/
import Derived.Test.YtoeipgbnjcgbjaaWinS
import Derived.Test.YtoeipgbnjcgbjaaConv
import Derived.Test.YtoeipgbnjcgbjaaSeg2
namespace Go.Proofs.Ytoeipgbnjcgbjaa
open Go.RowKit
set_option linter.unusedVariables false

/-- An open end 5 that has n noughts to send and has sent nothing. -/
def wiS (n : Nat) : En := { newEnd 5 1 with out := List.replicate n 0 }
def wiD (n : Nat) : En := { wiS n with dialed := true, at_ := 0 }
def wiO (n : Nat) : En := { wiD n with st := 3 }
def wiDL : List Int := segL ⟨1, 5, 0, 0, []⟩
def wiAck (a : Int) : List Int := segL ⟨2, 5, 0, a, []⟩
theorem wi_out (n : Nat) : outS (wiS n) 0 = ([wiDL], wiD n) := rfl
theorem wi_ack_len (a : Int) : (wiAck a).length = 19 := by unfold wiAck; rw [segL_len]; rfl
theorem wi_ack_ok (a : Int) : Bytes (wiAck a) := segL_ok _ (fun x h => by cases h)
theorem wi_ack_parse (a : Int) (h : 0 ≤ a ∧ a < 4294967296) : parseB (wiAck a) = true ∧ parseS (wiAck a) = ⟨2, 5, 0, a, []⟩ :=
  parse_seg ⟨2, 5, 0, a, []⟩ ⟨by simp, by simp, by simp, by simp, h, by simp⟩ (fun x h => by cases h)
theorem wi_in (n : Nat) : inS (wiD n) (wiAck 0) 0 = wiO n := by
  have h := wi_ack_parse 0 (by decide)
  unfold inS
  rw [if_pos h.1, h.2]
  rfl
theorem wi_in3 (s : En) (a now : Int) (hs : Plain s) (hid : s.id = 5) (h : 0 ≤ a ∧ a < 4294967296) : inS s (wiAck a) now = ackedS s a now := by
  have hp := wi_ack_parse a h
  unfold inS
  rw [if_pos hp.1, hp.2]
  unfold stepS
  rw [if_neg (by rw [hid, hs.st]; simp), if_neg (by simp), if_neg (by rw [hs.st]; decide), if_neg (by rw [hs.st]; decide)]
  rfl
theorem wiO_plain (n : Nat) : Plain (wiO n) := ⟨rfl, rfl, rfl, rfl, rfl⟩
/-- What holds of the end in this statement. -/
structure Wi (s : En) (n : Nat) : Prop where
  pl : Plain s
  ok : EnOk s
  id : s.id = 5
  out : s.out.length = n
theorem Wi.fin {s : En} {n : Nat} (h : Wi s n) : EnFin s := ⟨(fun he => by rw [h.pl.endS] at he; cases he), (fun he => by rw [h.pl.endA] at he; cases he)⟩
theorem Wi.outS {s : En} {n : Nat} (h : Wi s n) (now : Int) (hn : (Lit.int .i64 now).wf = true) : Wi (outS s now).2 n :=
  ⟨h.pl.out, outS_ok s now h.ok hn, (outS_out s now).2.2.2.1.trans h.id, by rw [(outS_out s now).1]; exact h.out⟩
theorem Wi.ack {s : En} {n : Nat} (h : Wi s n) (a now : Int) (hn : (Lit.int .i64 now).wf = true) (ha : a ≤ s.next) : Wi (ackedS s a now) n := by
  have hf := h.fin
  have hx := h.ok.next
  have hE : ackedS s a now = s ∨ ackedS s a now = { s with una := a, at_ := now } := by
    unfold ackedS
    split
    · exact .inl rfl
    · rw [if_neg (by omega)]
      exact .inr rfl
  refine ⟨?_, ackedS_ok s a now h.ok hn (fun he => (hf.1 he).1), ?_, ?_⟩
  · rcases hE with e | e <;> rw [e]
    · exact h.pl
    · exact ⟨h.pl.st, h.pl.owes, h.pl.closed, h.pl.endS, h.pl.endA⟩
  · rw [(ackedS_out s a now).2.2.2.1]; exact h.id
  · rw [(ackedS_out s a now).1]; exact h.out
/-- Out of an end that does not send anew. -/
theorem out_more (s : En) (n : Nat) (now : Int) (h : Wi s n) (hr : sends1 s now = s) (hc : s.next < n ∧ s.next < s.una + 4000) :
    firstOf s now = s.next ∧ (outS s now).2.una = s.una ∧ (outS s now).2.next = endOf s now ∧ (outS s now).2.at_ = (if s.una < s.next then s.at_ else now) ∧ s.next < endOf s now ∧ endOf s now ≤ n ∧ endOf s now ≤ s.una + 4400 ∧ ¬ (endOf s now < n ∧ endOf s now < s.una + 4000) := by
  have hu := h.ok.una
  have hx := h.ok.next
  obtain ⟨p, hp⟩ : ∃ p : Nat, s.next = p := ⟨s.next.toNat, by omega⟩
  have ho := h.out
  have hrun : runL s now = dataL s s.out.length p := by unfold runL; rw [hr, hp]; rfl
  have h1 := dataL_some s s.out.length p (by omega) ⟨by omega, by omega⟩
  have h2 := dataL_most s s.out.length p h1
  have h3 := dataL_done s s.out.length p (by omega)
  have h4 := dataL_le s s.out.length p (by omega)
  have hl : ¬ (runL s now).1.length = 0 := by rw [hrun]; omega
  have hF : firstOf s now = s.next := by unfold firstOf; rw [if_neg hl, hr]
  have hE : endOf s now = ((dataL s s.out.length p).2 : Int) := by unfold endOf; rw [if_neg hl, hrun]
  have hO := outS_plain s now h.pl
  rw [hr, hp] at hO
  have hne : (dataL s s.out.length ((p : Int).toNat)).1.isEmpty = false := by
    rw [Int.toNat_natCast]
    cases hd : (dataL s s.out.length p).1 with
    | nil => rw [hd] at h1; simp at h1
    | cons _ _ => rfl
  rw [hne, waits_plain s h.pl, Int.toNat_natCast] at hO
  have hs : (outS s now).2 = sends5 (!decide (s.una < s.next) && !false) { s with next := ((dataL s s.out.length p).2 : Int) } now := by rw [hO]
  refine ⟨hF, ?_, ?_, ?_, by omega, by omega, by omega, by omega⟩
  · rw [hs]; unfold sends5; split <;> rfl
  · rw [hs, hE]; unfold sends5; split <;> rfl
  · rw [hs]; unfold sends5
    by_cases hd : s.una < s.next
    · simp [hd]
    · simp [hd]
theorem out_none (s : En) (n : Nat) (now : Int) (h : Wi s n) (hr : sends1 s now = s) (hc : ¬ (s.next < n ∧ s.next < s.una + 4000)) :
    firstOf s now = -1 ∧ (outS s now).2 = s := by
  have hu := h.ok.una
  have hx := h.ok.next
  obtain ⟨p, hp⟩ : ∃ p : Nat, s.next = p := ⟨s.next.toNat, by omega⟩
  have ho := h.out
  have hrun : runL s now = dataL s s.out.length p := by unfold runL; rw [hr, hp]; rfl
  have hd := dataL_end s s.out.length p (by omega)
  refine ⟨by unfold firstOf; rw [hrun, hd]; rfl, ?_⟩
  have hO := outS_plain s now h.pl
  rw [hr, hp, Int.toNat_natCast, hd] at hO
  rw [hO]
  simp only [List.isEmpty_nil, Bool.not_true, Bool.and_false]
  unfold sends5
  rw [if_neg (by simp), ← hp]
theorem same1 (s : En) (now : Int) (h : waitsB s = false ∨ dueB s now = false) : sends1 s now = s := by
  unfold sends1
  rw [if_neg (by rcases h with h | h <;> simp [h])]
theorem wi_write (n : Nat) (h : n ≤ 1048576) : writeS (newEnd 5 1) (List.replicate n 0) = (0, wiS n) := by
  unfold writeS
  rw [if_neg (by simp [newEnd]), if_neg (by simp [newEnd]), if_neg (by simp [newEnd]; omega)]
  rfl
theorem wiS_ok (n : Nat) (h : n ≤ 1048576) : EnOk (wiS n) := by
  have := writeS_ok (newEnd 5 1) (List.replicate n 0) (newEnd_ok 5 1 (by decide)) (fun x hx => by rw [List.eq_of_mem_replicate hx]; decide)
  rwa [wi_write n h] at this
theorem wiD_ok (n : Nat) (h : n ≤ 1048576) : EnOk (wiD n) := by
  have := outS_ok (wiS n) 0 (wiS_ok n h) ok0
  rwa [wi_out] at this
theorem wiD_fin (n : Nat) : EnFin (wiD n) := ⟨(fun h => by cases h), (fun h => by cases h)⟩
theorem wiO_ok (n : Nat) (h : n ≤ 1048576) : EnOk (wiO n) := by
  have := inS_ok (wiD n) (wiAck 0) 0 (wiD_ok n h) (wi_ack_ok 0) ok0 (wiD_fin n)
  rwa [wi_in] at this
/-- All that the statement asks of the numbers. -/
theorem win_law (n : Nat) (h1 : 1 ≤ n) (h2 : n < 20000) :
    let s0 := wiO n
    let s1 := (outS s0 1).2
    let b := endOf s0 1
    firstOf s0 1 = 0 ∧ b ≤ 4400 ∧ min (n : Int) 4000 ≤ b ∧ b ≤ n ∧ firstOf s1 2 = -1 ∧ (outS s1 2).2 = s1 ∧ s1.next = b ∧ ∀ a : Int, 0 ≤ a → a ≤ b →
      let s3 := ackedS s1 a 3
      let d := firstOf s3 4
      let f := endOf s3 4
      let s4 := (outS s3 4).2
      ((d = b ∧ f ≤ a + 4400 ∧ 0 ≤ d ∧ b ≤ f ∧ f ≤ n) ∨ (d = -1 ∧ ¬ (b < n ∧ b < a + 4000))) ∧
      (firstOf s4 30 = a ∨ (firstOf s4 30 = -1 ∧ a = (if 0 ≤ d then f else b) ∧ (if 0 ≤ d then f else b) = n)) := by
  have w0 : Wi (wiO n) n := ⟨wiO_plain n, wiO_ok n (by omega), rfl, by simp [wiO, wiD, wiS]⟩
  intro s0 s1 b
  have hr0 : sends1 s0 1 = s0 := same1 s0 1 (.inl rfl)
  have m0 := out_more s0 n 1 w0 hr0 ⟨by show (0 : Int) < n; omega, by show (0 : Int) < 0 + 4000; decide⟩
  have w1 : Wi s1 n := w0.outS 1 (by decide)
  obtain ⟨a1, a2, a3, a4, a5, a6, a7, a8⟩ := m0
  have e0 : s0.una = 0 := rfl
  have e1 : s0.next = 0 := rfl
  rw [e0, e1] at a4
  rw [if_neg (by omega)] at a4
  rw [e0] at a2 a7 a8
  rw [e1] at a1 a5
  have a2 : s1.una = 0 := a2
  have a3 : s1.next = b := a3
  have a4 : s1.at_ = 1 := a4
  have a5 : 0 < b := a5
  have a6 : b ≤ n := a6
  have a7 : b ≤ 0 + 4400 := a7
  have a8 : ¬ (b < n ∧ b < 0 + 4000) := a8
  have hr1 : sends1 s1 2 = s1 := same1 s1 2 (.inr (by unfold dueB; rw [a4]; decide))
  have m1 := out_none s1 n 2 w1 hr1 (by rw [a3, a2]; exact a8)
  refine ⟨a1, by omega, by omega, a6, m1.1, m1.2, a3, ?_⟩
  intro a ha0 hab s3 d f s4
  have w3 : Wi s3 n := w1.ack a 3 (by decide) (by rw [a3]; exact hab)
  have h3 : s3.next = b ∧ s3.una = a ∧ s3.at_ ≤ 3 := by
    show (ackedS s1 a 3).next = b ∧ (ackedS s1 a 3).una = a ∧ (ackedS s1 a 3).at_ ≤ 3
    have hm : mostS s1 = b := by unfold mostS; rw [w1.pl.endS]; exact a3
    have ho := w1.out
    unfold ackedS
    by_cases hz : a ≤ 0
    · rw [if_pos (.inl (by rw [a2]; exact hz)), a4]
      exact ⟨a3, by omega, by decide⟩
    · rw [if_neg (by rw [a2, hm]; omega), if_neg (by rw [ho]; omega)]
      exact ⟨a3, rfl, Int.le_refl _⟩
  obtain ⟨b1, b2, b3⟩ := h3
  have hat : -9223372036854775808 ≤ s3.at_ := by
    have := w3.ok.at_
    simp [Lit.wf, IntKind.min, IntKind.max, IntKind.bits, IntKind.signed] at this
    omega
  have b4 : 0 ≤ s3.at_ := by
    show 0 ≤ (ackedS s1 a 3).at_
    unfold ackedS
    split
    · omega
    · split <;> exact (by decide : (0 : Int) ≤ 3)
  have hr3 : sends1 s3 4 = s3 := same1 s3 4 (.inr (by
    unfold dueB
    rw [Bool.and_eq_false_iff]
    exact .inr (decide_eq_false (by omega))))
  have w4 : Wi s4 n := w3.outS 4 (by decide)
  -- the last look: who waits sends anew from what was acknowledged
  have last : ∀ b2 : Int, s4.next = b2 → s4.una = a → 0 ≤ s4.at_ → s4.at_ ≤ 4 → a ≤ b2 → b2 ≤ n → (firstOf s4 30 = a ∨ (firstOf s4 30 = -1 ∧ a = b2 ∧ b2 = n)) := by
    intro b2 g1 g2 g3 g4 g5 g6
    by_cases hw : a < b2
    · left
      have hs : sends1 s4 30 = { s4 with next := s4.una, at_ := 30, endSent := s4.endAcked } := by
        unfold sends1
        rw [if_pos]
        rw [waits_plain s4 w4.pl, g1, g2]
        have h1 : decide (a < b2) = true := decide_eq_true hw
        have h2 : dueB s4 30 = true := by
          unfold dueB
          rw [decide_eq_true (show s4.at_ ≤ 9223372036854775799 by omega), decide_eq_true (show s4.at_ + 8 ≤ 30 by omega)]
          rfl
        rw [h1, h2]; rfl
      have hn : (sends1 s4 30).next = a := by rw [hs]; exact g2
      have hu : (sends1 s4 30).una = a := by rw [hs]; exact g2
      have ho : (sends1 s4 30).out.length = n := by rw [(sends1_out s4 30).1]; exact w4.out
      obtain ⟨k, hk⟩ : ∃ k : Nat, a = k := ⟨a.toNat, by omega⟩
      have h1 := dataL_some (sends1 s4 30) s4.out.length k (by rw [ho, w4.out]; omega) ⟨by rw [ho]; omega, by rw [hu, hk]; omega⟩
      unfold firstOf runL
      rw [hn, hk, Int.toNat_natCast, if_neg (by omega)]
    · have hab : a = b2 := by omega
      have hr : sends1 s4 30 = s4 := same1 s4 30 (.inl (by rw [waits_plain s4 w4.pl, g1, g2]; exact decide_eq_false hw))
      by_cases hc : s4.next < n ∧ s4.next < s4.una + 4000
      · left
        rw [(out_more s4 n 30 w4 hr hc).1, g1]; exact hab.symm
      · right
        refine ⟨(out_none s4 n 30 w4 hr hc).1, hab, ?_⟩
        rw [g1, g2] at hc
        omega
  by_cases hc : s3.next < n ∧ s3.next < s3.una + 4000
  · have m := out_more s3 n 4 w3 hr3 hc
    obtain ⟨q1, q2, q3, q4, q5, q6, q7, q8⟩ := m
    rw [b1] at q1 q5
    rw [b2] at q2 q7
    have q1 : d = b := q1
    have q2 : s4.una = a := q2
    have q3 : s4.next = f := q3
    have q5 : b < f := q5
    have q6 : f ≤ n := q6
    have q7 : f ≤ a + 4400 := q7
    have q4' : 0 ≤ s4.at_ ∧ s4.at_ ≤ 4 := by
      show 0 ≤ (outS s3 4).2.at_ ∧ (outS s3 4).2.at_ ≤ 4
      rw [q4]
      split <;> omega
    refine ⟨.inl ⟨q1, q7, by omega, by omega, q6⟩, ?_⟩
    rw [if_pos (show 0 ≤ d by omega)]
    exact last f q3 q2 q4'.1 q4'.2 (by omega) q6
  · have m := out_none s3 n 4 w3 hr3 hc
    have q1 : d = -1 := m.1
    have q2 : s4 = s3 := m.2
    rw [b1, b2] at hc
    refine ⟨.inr ⟨q1, hc⟩, ?_⟩
    rw [if_neg (show ¬ 0 ≤ d by omega)]
    exact last b (by rw [q2]; exact b1) (by rw [q2]; exact b2) (by rw [q2]; exact b4) (by rw [q2]; omega) hab a6
theorem wiO_wi (n : Nat) (h : n < 20000) : Wi (wiO n) n := ⟨wiO_plain n, wiO_ok n (by omega), rfl, by simp [wiO, wiD, wiS]⟩
def wiB (n : Nat) : Int := endOf (wiO n) 1
def wi1 (n : Nat) : En := (outS (wiO n) 1).2
def wi3 (n : Nat) (a : Int) : En := ackedS (wi1 n) a 3
def wi4 (n : Nat) (a : Int) : En := (outS (wi3 n a) 4).2
def wiF (n : Nat) (a : Int) : Int := endOf (wi3 n a) 4
theorem win_facts (n : Nat) (h1 : 1 ≤ n) (h2 : n < 20000) :
    firstOf (wiO n) 1 = 0 ∧ wiB n ≤ 4400 ∧ min (n : Int) 4000 ≤ wiB n ∧ wiB n ≤ n ∧ firstOf (wi1 n) 2 = -1 ∧ (outS (wi1 n) 2).2 = wi1 n ∧ (wi1 n).next = wiB n ∧ ∀ a : Int, 0 ≤ a → a ≤ wiB n →
      (((firstOf (wi3 n a) 4 = wiB n ∧ wiF n a ≤ a + 4400 ∧ 0 ≤ firstOf (wi3 n a) 4 ∧ wiB n ≤ wiF n a ∧ wiF n a ≤ n) ∨ (firstOf (wi3 n a) 4 = -1 ∧ ¬ (wiB n < n ∧ wiB n < a + 4000))) ∧
      (firstOf (wi4 n a) 30 = a ∨ (firstOf (wi4 n a) 30 = -1 ∧ a = (if 0 ≤ firstOf (wi3 n a) 4 then wiF n a else wiB n) ∧ (if 0 ≤ firstOf (wi3 n a) 4 then wiF n a else wiB n) = n))) := win_law n h1 h2
theorem wi1_wi (n : Nat) (h : n < 20000) : Wi (wi1 n) n := (wiO_wi n h).outS 1 (by decide)
theorem wi3_wi (n : Nat) (h1 : 1 ≤ n) (h : n < 20000) (a : Int) (ha : a ≤ wiB n) : Wi (wi3 n a) n := (wi1_wi n h).ack a 3 (by decide) (by rw [(win_facts n h1 h).2.2.2.2.2.2.1]; exact ha)
theorem wi4_wi (n : Nat) (h1 : 1 ≤ n) (h : n < 20000) (a : Int) (ha : a ≤ wiB n) : Wi (wi4 n a) n := (wi3_wi n h1 h a ha).outS 4 (by decide)
end Go.Proofs.Ytoeipgbnjcgbjaa
