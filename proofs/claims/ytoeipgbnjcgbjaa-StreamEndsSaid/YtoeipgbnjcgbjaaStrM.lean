/- Plain laws on what two ends send each other: what comes is a beginning of what was written. -/
import Derived.Test.YtoeipgbnjcgbjaaEnd5
namespace Go.Proofs.Ytoeipgbnjcgbjaa
open Go.RowKit
set_option linter.unusedVariables false

/-- A datagram that an end with these bytes to send may have sent. -/
def SentBy (out : List Int) (d : List Int) : Prop :=
  ∃ q, goodSg q ∧ Bytes q.data ∧ d = segL q ∧ (q.t = 3 → ∃ p : Nat, q.seq = p ∧ q.data = (out.drop p).take q.data.length ∧ p + q.data.length ≤ out.length)
theorem SentBy.more {out : List Int} {d : List Int} (h : SentBy out d) (b : List Int) : SentBy (out ++ b) d := by
  obtain ⟨q, h1, h2, h3, h4⟩ := h
  refine ⟨q, h1, h2, h3, fun ht => ?_⟩
  obtain ⟨p, h5, h6, h7⟩ := h4 ht
  refine ⟨p, h5, ?_, by rw [List.length_append]; omega⟩
  rw [List.drop_append_of_le_length (by omega), List.take_append_of_le_length (by rw [List.length_drop]; omega)]
  exact h6
theorem SentBy.plain (out : List Int) (t id seq ack : Int) (ht : 1 ≤ t ∧ t ≤ 5) (h3 : t ≠ 3) (hid : 0 ≤ id ∧ id < 4294967296) (hs : 0 ≤ seq ∧ seq < 4294967296) (ha : 0 ≤ ack ∧ ack < 4294967296) : SentBy out (segL ⟨t, id, seq, ack, []⟩) :=
  ⟨⟨t, id, seq, ack, []⟩, ⟨ht.1, ht.2, hid, hs, ha, by simp⟩, (fun x h => by cases h), rfl, fun h => absurd h h3⟩
theorem dataSeg_sent (s : En) (p : Nat) (h : EnOk s) (hp : p ≤ s.out.length) : SentBy s.out (dataSeg s p) := by
  have hl := h.outl
  have hn : pieceN s p ≤ 400 ∧ pieceN s p ≤ s.out.length - p := ⟨Nat.min_le_left _ _, Nat.min_le_right _ _⟩
  have hdl : ((s.out.drop p).take (pieceN s p)).length = pieceN s p := by rw [List.length_take, List.length_drop]; omega
  refine ⟨_, ⟨show (1 : Int) ≤ 3 by decide, show (3 : Int) ≤ 5 by decide, h.id, ⟨by simp only []; omega, by simp only []; omega⟩, by simp only []; omega, by simp only []; omega⟩, fun x hx => h.outb x (List.mem_of_mem_drop (List.mem_of_mem_take hx)), rfl, fun _ => ⟨p, rfl, ?_, ?_⟩⟩
  · simp only [hdl]
  · simp only [hdl]; omega
theorem dataL_sent (s : En) (h : EnOk s) : ∀ (f p : Nat), p ≤ s.out.length → ∀ d ∈ (dataL s f p).1, SentBy s.out d := by
  intro f
  induction f with
  | zero => intro p _ d hd; cases hd
  | succ f ih =>
    intro p hp d hd
    rw [dataL] at hd
    split at hd
    · have hn : pieceN s p ≤ s.out.length - p := Nat.min_le_right _ _
      rcases List.mem_cons.1 hd with rfl | hd
      · exact dataSeg_sent s p h hp
      · exact ih (p + pieceN s p) (by omega) d hd
    · cases hd
theorem sends1_out (s : En) (now : Int) : (sends1 s now).out = s.out ∧ (sends1 s now).inn = s.inn ∧ (sends1 s now).read = s.read ∧ (sends1 s now).id = s.id ∧ (sends1 s now).st = s.st := by unfold sends1; split <;> exact ⟨rfl, rfl, rfl, rfl, rfl⟩
theorem sends2_out (s : En) : (sends2 s).2.out = s.out ∧ (sends2 s).2.inn = s.inn ∧ (sends2 s).2.read = s.read ∧ (sends2 s).2.id = s.id ∧ (sends2 s).2.st = s.st := by unfold sends2; split <;> exact ⟨rfl, rfl, rfl, rfl, rfl⟩
theorem sends4_out (s : En) : (sends4 s).2.out = s.out ∧ (sends4 s).2.inn = s.inn ∧ (sends4 s).2.read = s.read ∧ (sends4 s).2.id = s.id ∧ (sends4 s).2.st = s.st := by unfold sends4; split <;> exact ⟨rfl, rfl, rfl, rfl, rfl⟩
theorem sends5_out (b : Bool) (s : En) (now : Int) : (sends5 b s now).out = s.out ∧ (sends5 b s now).inn = s.inn ∧ (sends5 b s now).read = s.read ∧ (sends5 b s now).id = s.id ∧ (sends5 b s now).st = s.st := by unfold sends5; split <;> exact ⟨rfl, rfl, rfl, rfl, rfl⟩
theorem sendsS_out (s : En) (now : Int) : (sendsS s now).2.out = s.out ∧ (sendsS s now).2.inn = s.inn ∧ (sendsS s now).2.read = s.read ∧ (sendsS s now).2.id = s.id ∧ (sendsS s now).2.st = s.st := by
  have h1 := sends1_out s now
  have h2 := sends2_out (sends1 s now)
  have h3 := sends4_out (sends3 (sends2 (sends1 s now)).2).2
  have h4 := sends5_out (!waitsB (sends2 (sends1 s now)).2 && (!(sends3 (sends2 (sends1 s now)).2).1.isEmpty || !(sends4 (sends3 (sends2 (sends1 s now)).2).2).1.isEmpty)) (sends4 (sends3 (sends2 (sends1 s now)).2).2).2 now
  exact ⟨h4.1.trans (h3.1.trans (h2.1.trans h1.1)), h4.2.1.trans (h3.2.1.trans (h2.2.1.trans h1.2.1)), h4.2.2.1.trans (h3.2.2.1.trans (h2.2.2.1.trans h1.2.2.1)), h4.2.2.2.1.trans (h3.2.2.2.1.trans (h2.2.2.2.1.trans h1.2.2.2.1)), h4.2.2.2.2.trans (h3.2.2.2.2.trans (h2.2.2.2.2.trans h1.2.2.2.2))⟩
theorem sendsS_sent (s : En) (now : Int) (h : EnOk s) (hn : (Lit.int .i64 now).wf = true) : ∀ d ∈ (sendsS s now).1, SentBy s.out d := by
  have k1 := sends1_ok s now h hn
  have k2 := sends2_ok _ k1
  have k3 := sends3_ok _ k2
  have e1 := sends1_out s now
  have e2 := sends2_out (sends1 s now)
  intro d hd
  unfold sendsS at hd
  simp only at hd
  rcases List.mem_append.1 hd with hd | hd
  · rcases List.mem_append.1 hd with hd | hd
    · unfold sends2 at hd
      split at hd
      · rw [List.mem_singleton.1 hd]
        have := k1.innl
        exact SentBy.plain _ _ _ _ _ (by decide) (by decide) k1.id (by decide) (by split <;> omega)
      · cases hd
    · have := dataL_sent _ k2 _ _ (by have := k2.una; have := k2.next; omega) d hd
      rw [e2.1, e1.1] at this
      exact this
  · unfold sends4 at hd
    split at hd
    · rw [List.mem_singleton.1 hd]
      have h1 := k3.next
      have h2 := k3.una
      have h3 := k3.outl
      exact SentBy.plain _ _ _ _ _ (by decide) (by decide) k3.id (by omega) (by decide)
    · cases hd
theorem outS_sent (s : En) (now : Int) (h : EnOk s) (hn : (Lit.int .i64 now).wf = true) : ∀ d ∈ (outS s now).1, SentBy s.out d := by
  intro d hd
  unfold outS at hd
  split at hd
  · split at hd
    · rw [List.mem_singleton.1 hd]
      exact SentBy.plain _ _ _ _ _ (by decide) (by decide) h.id (by decide) (by decide)
    · cases hd
  split at hd
  · exact sendsS_sent s now h hn d hd
  · cases hd
theorem outS_out (s : En) (now : Int) : (outS s now).2.out = s.out ∧ (outS s now).2.inn = s.inn ∧ (outS s now).2.read = s.read ∧ (outS s now).2.id = s.id ∧ (outS s now).2.st = s.st := by
  unfold outS
  split
  · split <;> exact ⟨rfl, rfl, rfl, rfl, rfl⟩
  split
  · exact sendsS_out s now
  · exact ⟨rfl, rfl, rfl, rfl, rfl⟩
theorem ackedS_out (s : En) (n now : Int) : (ackedS s n now).out = s.out ∧ (ackedS s n now).inn = s.inn ∧ (ackedS s n now).read = s.read ∧ (ackedS s n now).id = s.id ∧ (ackedS s n now).st = s.st := by
  unfold ackedS
  split
  · exact ⟨rfl, rfl, rfl, rfl, rfl⟩
  · split <;> exact ⟨rfl, rfl, rfl, rfl, rfl⟩
theorem openS_out (s : En) (q : Sg) (now : Int) : (openS s q now).out = s.out ∧ (openS s q now).read = s.read ∧ (openS s q now).id = s.id := by
  unfold openS
  split
  · exact ⟨rfl, rfl, rfl⟩
  split
  · have := ackedS_out s q.ack now; exact ⟨this.1, this.2.2.1, this.2.2.2.1⟩
  split
  · unfold dataS; split <;> exact ⟨rfl, rfl, rfl⟩
  split
  · split <;> exact ⟨rfl, rfl, rfl⟩
  · exact ⟨rfl, rfl, rfl⟩
theorem stepS_out (s : En) (q : Sg) (now : Int) : (stepS s q now).out = s.out ∧ (stepS s q now).read = s.read ∧ (stepS s q now).id = s.id := by
  unfold stepS
  split
  · exact ⟨rfl, rfl, rfl⟩
  split
  · exact ⟨rfl, rfl, rfl⟩
  split
  · unfold dialS; split <;> exact ⟨rfl, rfl, rfl⟩
  split
  · unfold listenS; split <;> exact ⟨rfl, rfl, rfl⟩
  · exact openS_out s q now
theorem inS_out (s : En) (b : List Int) (now : Int) : (inS s b now).out = s.out ∧ (inS s b now).read = s.read ∧ (inS s b now).id = s.id := by
  unfold inS
  split
  · exact stepS_out s _ now
  · exact ⟨rfl, rfl, rfl⟩
theorem prefix_grow {α : Type} {l m : List α} {d : List α} {p : Nat} (h : l <+: m) (hp : p = l.length) (hd : d = (m.drop p).take d.length) : l ++ d <+: m := by
  obtain ⟨t, rfl⟩ := h
  subst hp
  rw [List.drop_left] at hd
  exact ⟨t.drop d.length, by rw [List.append_assoc]; congr 1; conv => lhs; lhs; rw [hd]
                             exact List.take_append_drop _ _⟩
theorem stepS_prefix (s : En) (q : Sg) (now : Int) (out : List Int) (hq : q.t = 3 → ∃ p : Nat, q.seq = p ∧ q.data = (out.drop p).take q.data.length ∧ p + q.data.length ≤ out.length) (hp : s.inn <+: out) : (stepS s q now).inn <+: out := by
  unfold stepS
  split
  · exact hp
  split
  · exact hp
  split
  · unfold dialS; split <;> exact hp
  split
  · unfold listenS; split <;> exact hp
  unfold openS
  split
  · exact hp
  split
  · rw [(ackedS_out s q.ack now).2.1]; exact hp
  split
  · rename_i ht
    obtain ⟨p, h1, h2, h3⟩ := hq ht
    unfold dataS
    split
    · rename_i hc
      exact prefix_grow hp (by omega) h2
    · exact hp
  split
  · split <;> exact hp
  · exact hp
/-- What comes of what was sent is a beginning of what was written. -/
theorem inS_prefix (s : En) (d : List Int) (now : Int) (out : List Int) (hd : SentBy out d) (hp : s.inn <+: out) : (inS s d now).inn <+: out := by
  obtain ⟨q, h1, h2, rfl, h4⟩ := hd
  have h := parse_seg q h1 h2
  unfold inS
  rw [if_pos h.1, h.2]
  exact stepS_prefix s q now out h4 hp
end Go.Proofs.Ytoeipgbnjcgbjaa
