/- StreamPlays, plain: what the document's end does, and why it tells the same as the program's. -/
import Derived.Test.YtoeipgbnjcgbjaaEnd5
namespace Go.Proofs.Ytoeipgbnjcgbjaa
open Go.RowKit
set_option linter.unusedVariables false

def ackedV (t : En) : Int := if t.endAcked then t.una + 1 else t.una
def rAckedS (t : En) (n now : Int) : En := if n ≤ ackedV t ∨ mostS t < n then t else { t with una := min n t.out.length, endAcked := decide ((t.out.length : Int) < n), at_ := now }
def rOpenS (t : En) (q : Sg) (now : Int) : En :=
  if q.t = 2 then rAckedS t q.ack now
  else if q.t = 3 then (if q.seq = t.inn.length ∧ (q.data.length : Int) ≤ 1048576 - t.inn.length ∧ t.other = false then { t with owes := true, inn := t.inn ++ q.data } else { t with owes := true })
  else if q.t = 4 then { t with owes := true, other := t.other || decide (q.seq = t.inn.length) }
  else { t with owes := true }
def rStepS (t : En) (q : Sg) (now : Int) : En :=
  if q.id ≠ t.id ∨ t.st = 4 then t else if q.t = 5 then { t with st := 4 }
  else if t.st = 2 then listenS t q
  else if t.st = 1 then dialS t q
  else rOpenS t q now
def rInS (t : En) (b : List Int) (now : Int) : En := if parseB b then rStepS t (parseS b) now else t
/-- The document's end t is the program's s, but for the time of the last change where nothing waits for ever. -/
structure Sim (s t : En) : Prop where
  eq : t = { s with at_ := t.at_ }
  at_ : s.endAcked = false → t.at_ = s.at_
  st : s.endAcked = true → 3 ≤ s.st
theorem Sim.same {s t : En} (h : Sim s t) (he : s.endAcked = false) : t = s := by
  have h1 := h.eq
  rw [h.at_ he] at h1
  exact h1
theorem Sim.refl {s : En} (h : s.endAcked = true → 3 ≤ s.st) : Sim s s := ⟨rfl, fun _ => rfl, h⟩
theorem Sim.ok {s t : En} (h : Sim s t) (ho : EnOk s) (ha : (Lit.int .i64 t.at_).wf = true) : EnOk t := by
  rw [h.eq]
  exact ⟨ho.st, ho.id, ho.una, ho.next, ho.outl, ho.innl, ho.read, ho.outb, ho.innb, ha⟩
theorem Sim.fin {s t : En} (h : Sim s t) (hf : EnFin s) : EnFin t := by rw [h.eq]; exact hf
theorem sim_write {s t : En} (h : Sim s t) (b : List Int) : (writeS t b).1 = (writeS s b).1 ∧ Sim (writeS s b).2 (writeS t b).2 ∧ (writeS t b).2.at_ = t.at_ := by
  have h1 := h.eq
  obtain ⟨id, st, dialed, out, una, next, at_, closed, endSent, endAcked, inn, read, other, owes⟩ := s
  generalize ht : t.at_ = a at *
  subst h1
  unfold writeS
  simp only
  split
  · exact ⟨rfl, ⟨rfl, h.at_, h.st⟩, rfl⟩
  split
  · exact ⟨rfl, ⟨rfl, h.at_, h.st⟩, rfl⟩
  split
  · exact ⟨rfl, ⟨rfl, h.at_, h.st⟩, rfl⟩
  · exact ⟨rfl, ⟨rfl, h.at_, h.st⟩, rfl⟩
theorem sim_close {s t : En} (h : Sim s t) : (closeS t).1 = (closeS s).1 ∧ Sim (closeS s).2 (closeS t).2 ∧ (closeS t).2.at_ = t.at_ := by
  have h1 := h.eq
  obtain ⟨id, st, dialed, out, una, next, at_, closed, endSent, endAcked, inn, read, other, owes⟩ := s
  generalize ht : t.at_ = a at *
  subst h1
  unfold closeS
  simp only
  split
  · exact ⟨rfl, ⟨rfl, h.at_, h.st⟩, rfl⟩
  · exact ⟨rfl, ⟨rfl, h.at_, h.st⟩, rfl⟩
theorem sim_read {s t : En} (h : Sim s t) : (readS t).1 = (readS s).1 ∧ Sim (readS s).2 (readS t).2 ∧ (readS t).2.at_ = t.at_ := by
  have h1 := h.eq
  obtain ⟨id, st, dialed, out, una, next, at_, closed, endSent, endAcked, inn, read, other, owes⟩ := s
  generalize ht : t.at_ = a at *
  subst h1
  exact ⟨rfl, ⟨rfl, h.at_, h.st⟩, rfl⟩
/-- Where all is acknowledged, nothing depends on the time. -/
theorem sends_acked (s : En) (now : Int) (hf : EnFin s) (he : s.endAcked = true) : sendsS s now = ((sends2 s).1, (sends2 s).2) := by
  obtain ⟨hf1, hf2⟩ := hf
  obtain ⟨h1, h2⟩ := hf2 he
  obtain ⟨h3, h4⟩ := hf1 h2
  have hw : waitsB s = false := by unfold waitsB; rw [h1, h3, h2, he]; simp
  have e1 : sends1 s now = s := by unfold sends1; rw [hw]; rfl
  have e2 : ∀ a : En, a.next = (a.out.length : Int) → a.endSent = true → a.endAcked = true → a.una = a.next → sends3 a = ([], a) ∧ sends4 a = ([], a) ∧ waitsB a = false := by
    intro a k1 k2 k3 k4
    have hd : dataL a a.out.length a.next.toNat = ([], a.next.toNat) := dataL_end _ _ _ (fun h => by omega)
    refine ⟨?_, ?_, ?_⟩
    · unfold sends3
      rw [hd]
      have : ((a.next.toNat : Nat) : Int) = a.next := by omega
      simp only
      rw [this]
    · unfold sends4 finB
      rw [k2]; simp
    · unfold waitsB
      rw [k2, k3, k4]; simp
  have hs2 : (sends2 s).2.next = ((sends2 s).2.out.length : Int) ∧ (sends2 s).2.endSent = true ∧ (sends2 s).2.endAcked = true ∧ (sends2 s).2.una = (sends2 s).2.next := by
    unfold sends2
    split
    · exact ⟨h3, h2, he, by show s.una = s.next; omega⟩
    · exact ⟨h3, h2, he, by show s.una = s.next; omega⟩
  obtain ⟨k1, k2, k3⟩ := e2 _ hs2.1 hs2.2.1 hs2.2.2.1 hs2.2.2.2
  unfold sendsS
  simp only
  rw [e1, k1]
  simp only
  rw [k2, k3]
  simp [sends5]
theorem sends_ea (s : En) (now : Int) : (sendsS s now).2.endAcked = s.endAcked := by
  have e1 : (sends1 s now).endAcked = s.endAcked := by unfold sends1; split <;> rfl
  have e2 : ∀ a : En, (sends2 a).2.endAcked = a.endAcked := fun a => by unfold sends2; split <;> rfl
  have e3 : ∀ a : En, (sends3 a).2.endAcked = a.endAcked := fun a => rfl
  have e4 : ∀ a : En, (sends4 a).2.endAcked = a.endAcked := fun a => by unfold sends4; split <;> rfl
  have e5 : ∀ (b : Bool) (a : En), (sends5 b a now).endAcked = a.endAcked := fun b a => by unfold sends5; split <;> rfl
  unfold sendsS
  simp only
  rw [e5, e4, e3, e2, e1]
theorem outS_ea (s : En) (now : Int) : (outS s now).2.endAcked = s.endAcked := by
  unfold outS
  split
  · split <;> rfl
  · split
    · exact sends_ea s now
    · rfl
theorem sim_out {s t : En} (h : Sim s t) (hf : EnFin s) (ho : EnOk s) (now : Int) : (outS t now).1 = (outS s now).1 ∧ Sim (outS s now).2 (outS t now).2 ∧ ((outS t now).2.at_ = t.at_ ∨ (outS t now).2.at_ = (outS s now).2.at_) := by
  cases he : s.endAcked
  · have e := h.same he
    subst e
    refine ⟨rfl, Sim.refl (fun h9 => ?_), .inr rfl⟩
    rw [outS_ea] at h9
    rw [he] at h9
    cases h9
  · have h3 := h.st he
    have hft := h.fin hf
    have het : t.endAcked = true := by rw [h.eq]; exact he
    have hst : t.st = s.st := by rw [h.eq]
    have h4 : ¬ s.st = 1 := by omega
    unfold outS
    rw [hst, if_neg h4, if_neg h4]
    by_cases h5 : s.st = 3
    · rw [if_pos h5, if_pos h5, sends_acked s now hf he, sends_acked t now hft het]
      have h1 := h.eq
      obtain ⟨id, st, dialed, out, una, next, at_, closed, endSent, endAcked, inn, read, other, owes⟩ := s
      generalize ht : t.at_ = a at *
      subst h1
      unfold sends2
      simp only
      split
      · exact ⟨rfl, ⟨rfl, h.at_, h.st⟩, .inl rfl⟩
      · exact ⟨rfl, ⟨rfl, h.at_, h.st⟩, .inl rfl⟩
    · rw [if_neg h5, if_neg h5]
      exact ⟨rfl, h, .inl rfl⟩
theorem rAcked_eq (s : En) (n now : Int) (ho : EnOk s) (he : s.endAcked = false) : rAckedS s n now = ackedS s n now := by
  unfold rAckedS ackedS ackedV
  rw [he]
  simp only [Bool.false_eq_true, if_false]
  split
  · rfl
  · split
    · rename_i h1 h2
      rw [decide_eq_true h2, Int.min_eq_right (by omega)]
    · rename_i h1 h2
      rw [decide_eq_false h2, Int.min_eq_left (by omega), ← he]
theorem rOpen_eq (s : En) (q : Sg) (now : Int) (ho : EnOk s) (he : s.endAcked = false) (hq : 1 ≤ q.t ∧ q.t ≤ 4) : rOpenS s q now = openS s q now := by
  unfold rOpenS openS
  by_cases h1 : q.t = 1
  · rw [if_neg (by omega), if_neg (by omega), if_neg (by omega), if_pos h1]
  · rw [if_neg h1]
    by_cases h2 : q.t = 2
    · rw [if_pos h2, if_pos h2]; exact rAcked_eq s _ _ ho he
    · rw [if_neg h2, if_neg h2]
      by_cases h3 : q.t = 3
      · rw [if_pos h3, if_pos h3]; rfl
      · rw [if_neg h3, if_neg h3, if_pos (by omega), if_pos (by omega)]
        obtain ⟨id, st, dialed, out, una, next, at_, closed, endSent, endAcked, inn, read, other, owes⟩ := s
        by_cases h4 : q.seq = inn.length
        · rw [if_pos h4]
          simp only
          rw [decide_eq_true h4, Bool.or_true]
        · rw [if_neg h4]
          simp only
          rw [decide_eq_false h4, Bool.or_false]
theorem parseS_t {b : List Int} (h : parseB b = true) : 1 ≤ (parseS b).t ∧ (parseS b).t ≤ 5 := by
  have := of_decide_eq_true h
  exact ⟨this.2.2.2.1, this.2.2.2.2.1⟩
theorem sim_in {s t : En} (h : Sim s t) (hf : EnFin s) (ho : EnOk s) (b : List Int) (now : Int) : Sim (inS s b now) (rInS t b now) ∧ ((rInS t b now).at_ = t.at_ ∨ (rInS t b now).at_ = now) := by
  unfold inS rInS
  cases hb : parseB b
  · exact ⟨h, .inl rfl⟩
  · simp only [if_true]
    have ht := parseS_t hb
    generalize parseS b = q at *
    have hst4 := ho.st
    unfold stepS rStepS
    have e1 : t.id = s.id := by rw [h.eq]
    have e2 : t.st = s.st := by rw [h.eq]
    rw [e1, e2]
    split
    · exact ⟨h, .inl rfl⟩
    rename_i hid
    split
    · have h1 := h.eq
      refine ⟨⟨?_, h.at_, fun _ => by show (3 : Int) ≤ 4; decide⟩, .inl rfl⟩
      obtain ⟨id, st, dialed, out, una, next, at_, closed, endSent, endAcked, inn, read, other, owes⟩ := s
      generalize ht : t.at_ = a at *
      subst h1
      rfl
    rename_i h5
    by_cases s1 : s.st = 1
    · rw [if_pos s1, if_neg (by omega), if_pos s1]
      have he : s.endAcked = false := by
        cases he : s.endAcked
        · rfl
        · have := h.st he; omega
      have e := h.same he
      subst e
      unfold dialS
      split
      · exact ⟨Sim.refl (fun h9 => by simp only at h9; rw [he] at h9; cases h9), .inl rfl⟩
      · exact ⟨h, .inl rfl⟩
    · rw [if_neg s1]
      by_cases s2 : s.st = 2
      · rw [if_pos s2, if_pos s2]
        have he : s.endAcked = false := by
          cases he : s.endAcked
          · rfl
          · have := h.st he; omega
        have e := h.same he
        subst e
        unfold listenS
        split
        · exact ⟨Sim.refl (fun h9 => by simp only at h9; rw [he] at h9; cases h9), .inl rfl⟩
        · exact ⟨h, .inl rfl⟩
      · rw [if_neg s2, if_neg s2, if_neg s1]
        have s3 : s.st = 3 := by omega
        have h3 : (openS s q now).st = 3 := by
          unfold openS ackedS dataS
          repeat (first | exact s3 | split)
        cases he : s.endAcked
        · have e := h.same he
          subst e
          rw [rOpen_eq t q now ho he (by omega)]
          refine ⟨Sim.refl (fun _ => by omega), ?_⟩
          unfold openS ackedS dataS
          repeat (first | exact .inl rfl | exact .inr rfl | split)
        · obtain ⟨hf1, hf2⟩ := hf
          obtain ⟨k1, k2⟩ := hf2 he
          obtain ⟨k3, k4⟩ := hf1 k2
          have h1 := h.eq
          obtain ⟨id, st, dialed, out, una, next, at_, closed, endSent, endAcked, inn, read, other, owes⟩ := s
          generalize hta : t.at_ = a at *
          subst h1
          simp only at he k1 k2 k3 s3
          subst he; subst k2
          unfold openS rOpenS
          by_cases q1 : q.t = 1
          · rw [if_pos q1, if_neg (by omega), if_neg (by omega), if_neg (by omega)]
            exact ⟨⟨rfl, (fun h9 => by cases h9), fun _ => by simp only; omega⟩, .inl rfl⟩
          · rw [if_neg q1]
            by_cases q2 : q.t = 2
            · rw [if_pos q2, if_pos q2]
              have e3 : rAckedS ⟨id, st, dialed, out, una, next, a, closed, true, true, inn, read, other, owes⟩ q.ack now = ⟨id, st, dialed, out, una, next, a, closed, true, true, inn, read, other, owes⟩ := by
                unfold rAckedS ackedV mostS
                simp only [if_true]
                rw [if_pos (by omega)]
              rw [e3]
              refine ⟨?_, .inl rfl⟩
              unfold ackedS
              split
              · exact ⟨rfl, (fun h9 => by cases h9), fun _ => by simp only; omega⟩
              · split
                · refine ⟨?_, (fun h9 => by cases h9), fun _ => by simp only; omega⟩
                  simp only
                  rw [k1]
                · rename_i g1 g2
                  simp only [mostS, if_true] at g1 g2
                  omega
            · rw [if_neg q2, if_neg q2]
              by_cases q3 : q.t = 3
              · rw [if_pos q3, if_pos q3]
                unfold dataS
                simp only
                split
                · exact ⟨⟨rfl, (fun h9 => by cases h9), fun _ => by simp only; omega⟩, .inl rfl⟩
                · exact ⟨⟨rfl, (fun h9 => by cases h9), fun _ => by simp only; omega⟩, .inl rfl⟩
              · have q4 : q.t = 4 := by omega
                rw [if_neg q3, if_neg q3, if_pos q4, if_pos q4]
                simp only
                by_cases q5 : q.seq = inn.length
                · rw [if_pos q5]
                  rw [decide_eq_true q5, Bool.or_true]
                  exact ⟨⟨rfl, (fun h9 => by cases h9), fun _ => by simp only; omega⟩, .inl (by first | trivial | rfl)⟩
                · rw [if_neg q5]
                  rw [decide_eq_false q5, Bool.or_false]
                  exact ⟨⟨rfl, (fun h9 => by cases h9), fun _ => by simp only; omega⟩, .inl (by first | trivial | rfl)⟩
/-- Done and Idle, as both tell them. -/
def doneB (s : En) : Bool := s.endAcked && s.other
def rIdleB (t : En) : Bool := decide (t.st = 4) || (!decide (t.st = 1) && !t.owes && decide (t.una = t.out.length) && (!t.closed || t.endAcked))
def idleP (s : En) : Bool := decide (s.st = 4) || (!decide (s.st = 1) && (!waitsB s && decide (s.next = s.out.length) && (!s.closed || s.endAcked) && !s.owes))
theorem idle_eq (s : En) (ho : EnOk s) (hf : EnFin s) : idleP s = rIdleB s := by
  obtain ⟨hf1, hf2⟩ := hf
  have h1 := ho.una
  have h2 := ho.next
  unfold idleP rIdleB waitsB
  cases decide (s.st = 4)
  · cases decide (s.st = 1)
    · simp only [Bool.false_or, Bool.not_false, Bool.true_and]
      by_cases hu : s.una = s.out.length
      · have hn : s.next = s.out.length := by omega
        rw [decide_eq_true hu, decide_eq_true hn, hu, hn]
        cases hs : s.endSent
        · simp
          cases s.closed <;> cases s.endAcked <;> cases s.owes <;> rfl
        · have hc := (hf1 hs).2
          rw [hc]
          simp
          cases s.endAcked <;> cases s.owes <;> rfl
      · rw [decide_eq_false hu]
        by_cases hn : s.next = s.out.length
        · rw [decide_eq_true (show s.una < s.next by omega)]
          simp
        · rw [decide_eq_false hn]
          simp
    · rfl
  · rfl
theorem sim_idle {s t : En} (h : Sim s t) : rIdleB t = rIdleB s ∧ doneB t = doneB s ∧ t.st = s.st := by
  have h1 := h.eq
  obtain ⟨id, st, dialed, out, una, next, at_, closed, endSent, endAcked, inn, read, other, owes⟩ := s
  generalize ht : t.at_ = a at *
  subst h1
  exact ⟨rfl, rfl, rfl⟩
end Go.Proofs.Ytoeipgbnjcgbjaa
