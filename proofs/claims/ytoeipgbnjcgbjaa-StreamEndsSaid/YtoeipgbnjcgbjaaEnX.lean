/- Put together for the claim, out of: EnsP, EnsQ, EnsR, EnsS. -/
import Derived.Test.YtoeipgbnjcgbjaaStrM
/- Plain laws on two ends between which datagrams go through or are lost: what holds at every time. -/
namespace Go.Proofs.Ytoeipgbnjcgbjaa
open Go.RowKit
set_option linter.unusedVariables false

def dataQ (s : En) : Nat → Nat → List Sg
  | 0, _ => []
  | f + 1, p => if p < s.out.length ∧ (p : Int) < s.una + 4000 then ⟨3, s.id, p, 0, (s.out.drop p).take (pieceN s p)⟩ :: dataQ s f (p + pieceN s p) else []
theorem dataQ_map (s : En) : ∀ (f p : Nat), (dataL s f p).1 = (dataQ s f p).map segL := by
  intro f
  induction f with
  | zero => intro p; rfl
  | succ f ih =>
    intro p
    rw [dataL, dataQ]
    split
    · rw [List.map_cons, ← ih]
      rfl
    · rfl
theorem dataL_congr {s s' : En} (h1 : s'.out = s.out) (h2 : s'.una = s.una) (h3 : s'.id = s.id) : ∀ (f p : Nat), dataL s' f p = dataL s f p := by
  intro f
  induction f with
  | zero => intro p; rfl
  | succ f ih =>
    intro p
    have hp : pieceN s' p = pieceN s p := by unfold pieceN; rw [h1]
    have hd : dataSeg s' p = dataSeg s p := by unfold dataSeg; rw [hp, h1, h3]
    rw [dataL, dataL, h1, h2, hp, hd, ih]
theorem dataQ_congr {s s' : En} (h1 : s'.out = s.out) (h2 : s'.una = s.una) (h3 : s'.id = s.id) : ∀ (f p : Nat), dataQ s' f p = dataQ s f p := by
  intro f
  induction f with
  | zero => intro p; rfl
  | succ f ih =>
    intro p
    have hp : pieceN s' p = pieceN s p := by unfold pieceN; rw [h1]
    rw [dataQ, dataQ, h1, h2, h3, hp, ih]
/-- A place where a piece may begin or end. -/
def al (N : Nat) (x : Int) : Prop := x % 400 = 0 ∨ x = N
/-- Where the sending ends. -/
def farQ (N : Nat) (u p : Int) : Int := max p (min (N : Int) (u + 4000))
theorem dataL_far (s : En) (u : Nat) (hu : s.una = u) (hau : al s.out.length u) : ∀ (f p : Nat), p ≤ s.out.length → s.out.length ≤ f + p → u ≤ p → al s.out.length p → ((dataL s f p).2 : Int) = farQ s.out.length u p := by
  intro f
  induction f with
  | zero =>
    intro p h1 h2 h3 h4
    unfold farQ
    rw [dataL]
    omega
  | succ f ih =>
    intro p h1 h2 h3 h4
    unfold al at hau h4
    rw [dataL, hu]
    by_cases c : p < s.out.length ∧ (p : Int) < (u : Int) + 4000
    · rw [if_pos c]
      have hn : pieceN s p = min 400 (s.out.length - p) := rfl
      rw [hn]
      have := ih (p + min 400 (s.out.length - p)) (by omega) (by omega) (by omega) (by unfold al; omega)
      show ((dataL s f (p + min 400 (s.out.length - p))).2 : Int) = _
      rw [this]
      unfold farQ
      omega
    · rw [if_neg c]
      unfold farQ
      simp only
      omega
/-- From where an open end sends, and whether its end counts as sent. -/
def startQ (s : En) (now : Int) : Int := if waitsB s && dueB s now then s.una else s.next
def es0 (s : En) (now : Int) : Bool := if waitsB s && dueB s now then s.endAcked else s.endSent
def ackQ (s : En) : List Sg := if s.owes then [⟨2, s.id, 0, s.inn.length + (if s.other then 1 else 0), []⟩] else []
def endQ (s : En) (now : Int) : Int := ((dataL s s.out.length (startQ s now).toNat).2 : Int)
def finQ (s : En) (now : Int) : List Sg := if s.closed && !es0 s now && decide (endQ s now = s.out.length) then [⟨4, s.id, endQ s now, 0, []⟩] else []
def outQ (s : En) (now : Int) : List Sg :=
  if s.st = 1 then (if !s.dialed || dueB s now then [⟨1, s.id, 0, 0, []⟩] else [])
  else if s.st = 3 then ackQ s ++ dataQ s s.out.length (startQ s now).toNat ++ finQ s now else []
theorem open_form (s : En) (now : Int) (h : s.st = 3) (hc : s.closed = true) :
    (outS s now).1 = (outQ s now).map segL ∧ ∃ at', (outS s now).2 = { s with next := endQ s now, at_ := at', endSent := es0 s now || decide (endQ s now = s.out.length), owes := false } ∧ (at' = s.at_ ∨ at' = now) := by
  have hs1 : sends1 s now = { s with next := startQ s now, at_ := (sends1 s now).at_, endSent := es0 s now } ∧ ((sends1 s now).at_ = s.at_ ∨ (sends1 s now).at_ = now) := by
    unfold sends1 startQ es0
    cases waitsB s && dueB s now
    · exact ⟨rfl, .inl rfl⟩
    · exact ⟨rfl, .inr rfl⟩
  obtain ⟨hs1, hat⟩ := hs1
  generalize (sends1 s now).at_ = at1 at hs1 hat
  have hs2 : (sends2 (sends1 s now)).1 = (ackQ s).map segL ∧ (sends2 (sends1 s now)).2 = { s with next := startQ s now, at_ := at1, endSent := es0 s now, owes := false } := by
    rw [hs1]
    unfold sends2 ackQ
    cases ho : s.owes
    · exact ⟨rfl, by simp [ho]⟩
    · exact ⟨rfl, by simp⟩
  have hL : ∀ p, dataL (sends2 (sends1 s now)).2 s.out.length p = dataL s s.out.length p := fun p => by
    rw [hs2.2]
    refine dataL_congr ?_ ?_ ?_ _ _ <;> rfl
  have ho2 : (sends2 (sends1 s now)).2.out = s.out := by rw [hs2.2]
  have hn2 : (sends2 (sends1 s now)).2.next = startQ s now := by rw [hs2.2]
  have hs3 : (sends3 (sends2 (sends1 s now)).2).1 = (dataQ s s.out.length (startQ s now).toNat).map segL ∧ (sends3 (sends2 (sends1 s now)).2).2 = { s with next := endQ s now, at_ := at1, endSent := es0 s now, owes := false } := by
    unfold sends3
    rw [ho2, hn2, hL]
    refine ⟨dataQ_map _ _ _, ?_⟩
    rw [hs2.2]
    rfl
  have hs4 : (sends4 (sends3 (sends2 (sends1 s now)).2).2).1 = (finQ s now).map segL ∧ (sends4 (sends3 (sends2 (sends1 s now)).2).2).2 = { s with next := endQ s now, at_ := at1, endSent := es0 s now || decide (endQ s now = s.out.length), owes := false } := by
    rw [hs3.2]
    unfold sends4 finB finQ
    rw [hc]
    cases he : es0 s now
    · by_cases hd : endQ s now = s.out.length
      · simp [hd]
      · simp [hd]
    · simp [he]
  have hS : outS s now = sendsS s now := by
    unfold outS
    rw [if_neg (by omega), if_pos h]
  have hQ : outQ s now = ackQ s ++ dataQ s s.out.length (startQ s now).toNat ++ finQ s now := by
    unfold outQ
    rw [if_neg (by omega), if_pos h]
  rw [hS, hQ]
  unfold sendsS
  simp only
  refine ⟨by rw [hs2.1, hs3.1, hs4.1, List.map_append, List.map_append], ?_⟩
  rw [hs4.2]
  unfold sends5
  split
  · exact ⟨now, rfl, .inr rfl⟩
  · exact ⟨at1, rfl, hat⟩
theorem dial_form (s : En) (now : Int) (h : s.st = 1) :
    (outS s now).1 = (outQ s now).map segL ∧ ∃ d at', (outS s now).2 = { s with dialed := d, at_ := at' } ∧ (at' = s.at_ ∨ at' = now) := by
  unfold outS outQ
  rw [if_pos h, if_pos h]
  split
  · exact ⟨rfl, true, now, rfl, .inr rfl⟩
  · exact ⟨rfl, s.dialed, s.at_, rfl, .inl rfl⟩
theorem none_form (s : En) (now : Int) (h : s.st = 2) : (outS s now).1 = (outQ s now).map segL ∧ (outS s now).2 = s := by
  unfold outS outQ
  rw [if_neg (by omega), if_neg (by omega), if_neg (by omega), if_neg (by omega)]
  exact ⟨rfl, rfl⟩
/-- What the end s sends of a, and what the end t has of it. -/
structure Dir (a : List Int) (s t : En) : Prop where
  out : s.out = a
  cl : s.closed = true
  id : t.id = s.id
  u0 : 0 ≤ s.una
  un : s.una ≤ s.next
  nn : s.next ≤ a.length
  alu : al a.length s.una
  aln : al a.length s.next
  inn : t.inn = a.take t.inn.length
  alm : al a.length t.inn.length
  lo : s.una ≤ t.inn.length
  hi : (t.inn.length : Int) ≤ s.una + 4000
  nx : (t.inn.length : Int) ≤ s.next
  oth : t.other = true → (t.inn.length : Int) = a.length ∧ s.endSent = true
  ea : s.endAcked = true → t.other = true ∧ s.una = a.length ∧ s.endSent = true
  es : s.endSent = true → s.next = a.length
section
variable {a b : List Int} {s t : En} {now : Int}
/-- The sender's side alone. -/
theorem Dir.send (h : Dir a s t) {s' : En} (h1 : s'.out = s.out) (h2 : s'.closed = s.closed) (h3 : s'.id = s.id) (h4 : s'.una = s.una) (h5 : s'.endAcked = s.endAcked) (h6 : s.una ≤ s'.next) (h7 : s'.next ≤ a.length) (h8 : al a.length s'.next) (h9 : (t.inn.length : Int) ≤ s'.next)
    (h10 : t.other = true → s'.endSent = true) (h11 : s'.endSent = true → s'.next = a.length) : Dir a s' t :=
  ⟨h1.trans h.out, h2.trans h.cl, h.id.trans h3.symm, h4 ▸ h.u0, h4 ▸ h6, h7, h4 ▸ h.alu, h8, h.inn, h.alm, h4 ▸ h.lo, h4 ▸ h.hi, h9, fun ho => ⟨(h.oth ho).1, h10 ho⟩, fun he => ⟨(h.ea (h5 ▸ he)).1, h4 ▸ (h.ea (h5 ▸ he)).2.1, h10 (h.ea (h5 ▸ he)).1⟩, h11⟩
/-- The receiver's side alone: what does not touch what came. -/
theorem Dir.recv (h : Dir a s t) {t' : En} (h1 : t'.id = t.id) (h2 : t'.inn = t.inn) (h3 : t'.other = t.other) : Dir a s t' :=
  ⟨h.out, h.cl, h1.trans h.id, h.u0, h.un, h.nn, h.alu, h.aln, h2 ▸ h.inn, h2 ▸ h.alm, h2 ▸ h.lo, h2 ▸ h.hi, h2 ▸ h.nx, fun ho => h2 ▸ h.oth (h3 ▸ ho), fun he => ⟨h3 ▸ (h.ea he).1, (h.ea he).2⟩, h.es⟩
theorem Dir.end_ (h : Dir a s t) (now : Int) : endQ s now = farQ a.length s.una (startQ s now) ∧ s.una ≤ startQ s now ∧ startQ s now ≤ a.length ∧ al a.length (startQ s now) := by
  have h1 := h.u0
  have h2 := h.un
  have h3 := h.nn
  have h4 := h.alu
  have h5 := h.aln
  have hs : s.una ≤ startQ s now ∧ startQ s now ≤ a.length ∧ al a.length (startQ s now) := by
    unfold startQ
    split
    · exact ⟨Int.le_refl _, by omega, h4⟩
    · exact ⟨h2, h3, h5⟩
  refine ⟨?_, hs⟩
  unfold endQ
  obtain ⟨u, hu⟩ := Int.eq_ofNat_of_zero_le h1
  obtain ⟨p, hp⟩ := Int.eq_ofNat_of_zero_le (Int.le_trans h1 hs.1)
  rw [hu] at hs h4
  rw [hp] at hs
  have hl := congrArg List.length h.out
  have := dataL_far s u hu (by rw [hl]; exact h4) s.out.length p (by omega) (by omega) (by omega) (by rw [hl]; exact hs.2.2)
  rw [hl] at this
  rw [hu, hp, Int.toNat_natCast, hl]
  exact this
theorem Dir.len (h : Dir a s t) : s.out.length = a.length := congrArg List.length h.out
/-- One datagram of an end. -/
def Comp (a : List Int) (s : En) (q : Sg) : Prop :=
  q.id = s.id ∧ ((q.t = 1 ∧ s.st = 1) ∨ (q.t = 2 ∧ s.st = 3 ∧ q.ack = s.inn.length + (if s.other then 1 else 0)) ∨
    (q.t = 3 ∧ s.st = 3 ∧ ∃ p : Nat, q.seq = p ∧ p % 400 = 0 ∧ p < a.length ∧ q.data = (a.drop p).take (min 400 (a.length - p)) ∧ ((p + min 400 (a.length - p) : Nat) : Int) ≤ s.next ∧ ((p + min 400 (a.length - p) : Nat) : Int) ≤ s.una + 4000) ∨
    (q.t = 4 ∧ s.st = 3 ∧ q.seq = a.length ∧ s.endSent = true))
theorem dataQ_comp (h : Dir a s t) (s' : En) (hst : s'.st = 3) (hid : s'.id = s.id) (hu : s'.una = s.una) : ∀ (f p : Nat), s.una ≤ p → al a.length p → a.length ≤ f + p → p ≤ a.length → farQ a.length s.una p ≤ s'.next → ∀ q ∈ dataQ s f p, Comp a s' q := by
  intro f
  induction f with
  | zero => intro p _ _ _ _ _ q hq; cases hq
  | succ f ih =>
    intro p h1 h2 h3 h4 h5 q hq
    have hl := h.len
    have hau := h.alu
    have hu0 := h.u0
    rw [dataQ] at hq
    split at hq
    · rename_i c
      rw [hl] at c
      have hn : pieceN s p = min 400 (a.length - p) := by unfold pieceN; rw [hl]
      rw [hn] at hq
      unfold al at h2 hau
      unfold farQ at h5
      rcases List.mem_cons.1 hq with rfl | hq
      · refine ⟨hid.symm, .inr (.inr (.inl ⟨rfl, hst, p, rfl, by omega, c.1, by rw [h.out], by omega, by rw [hu]; omega⟩))⟩
      · exact ih (p + min 400 (a.length - p)) (by omega) (by unfold al; omega) (by omega) (by omega) (by unfold farQ; omega) q hq
    · cases hq
/-- Out: all that holds goes on to hold; what is sent fits. -/
theorem Dir.outS_ (h : Dir a s t) (hst : s.st = 1 ∨ s.st = 2 ∨ s.st = 3) : Dir a (outS s now).2 t ∧ (outS s now).1 = (outQ s now).map segL ∧ (∀ q ∈ outQ s now, Comp a (outS s now).2 q) := by
  rcases hst with hst | hst | hst
  · obtain ⟨h1, d, at', h2, h3⟩ := dial_form s now hst
    refine ⟨?_, h1, ?_⟩
    · rw [h2]
      exact h.send rfl rfl rfl rfl rfl h.un h.nn h.aln h.nx (fun ho => (h.oth ho).2) h.es
    · intro q hq
      unfold outQ at hq
      rw [if_pos hst] at hq
      split at hq
      · rw [List.mem_singleton.1 hq, h2]
        exact ⟨rfl, .inl ⟨rfl, hst⟩⟩
      · cases hq
  · obtain ⟨h1, h2⟩ := none_form s now hst
    refine ⟨by rw [h2]; exact h, h1, ?_⟩
    intro q hq
    unfold outQ at hq
    rw [if_neg (by omega), if_neg (by omega)] at hq
    cases hq
  · obtain ⟨h1, at', h2, h3⟩ := open_form s now hst h.cl
    obtain ⟨e1, e2, e3, e4⟩ := h.end_ now
    have k1 := h.u0
    have k2 := h.un
    have k3 := h.nn
    have k4 := h.alu
    have k5 := h.aln
    have k6 := h.hi
    have k7 := h.lo
    have k8 := h.alm
    have hl := h.len
    have hm : (t.inn.length : Int) ≤ a.length := by have := h.nx; omega
    refine ⟨?_, h1, ?_⟩
    · rw [h2]
      refine h.send rfl rfl rfl rfl rfl ?_ ?_ ?_ ?_ ?_ ?_
      · simp only []; rw [e1]; unfold farQ; omega
      · simp only []; rw [e1]; unfold farQ; omega
      · simp only []; rw [e1]; unfold farQ al at *; omega
      · simp only []; rw [e1]; unfold farQ; omega
      · intro ho
        have h4 := (h.oth ho).1
        simp only [Bool.or_eq_true, decide_eq_true_eq]
        right
        rw [e1, hl]; unfold farQ; omega
      · intro he
        simp only [Bool.or_eq_true, decide_eq_true_eq] at he
        rcases he with he | he
        · simp only []
          have h5 : startQ s now = a.length := by
            unfold es0 at he
            unfold startQ
            split at he
            · rename_i c; rw [if_pos c]; exact (h.ea he).2.1
            · rename_i c; rw [if_neg c]; exact h.es he
          rw [e1, h5]; unfold farQ; omega
        · simp only []; rw [← hl]; exact he
    · intro q hq
      unfold outQ at hq
      rw [if_neg (by omega), if_pos hst] at hq
      rcases List.mem_append.1 hq with hq | hq
      · rcases List.mem_append.1 hq with hq | hq
        · unfold ackQ at hq
          split at hq
          · rw [List.mem_singleton.1 hq, h2]
            exact ⟨rfl, .inr (.inl ⟨rfl, hst, rfl⟩)⟩
          · cases hq
        · obtain ⟨p, hp⟩ := Int.eq_ofNat_of_zero_le (Int.le_trans k1 e2)
          rw [hp, Int.toNat_natCast] at hq
          rw [hp] at e1 e2 e3 e4
          exact dataQ_comp h _ (by rw [h2]; exact hst) (by rw [h2]) (by rw [h2]) _ p e2 e4 (by omega) (by omega) (by rw [h2]; simp only []; rw [e1]; exact Int.le_refl _) q hq
      · unfold finQ at hq
        split at hq
        · rename_i c
          simp only [Bool.and_eq_true, decide_eq_true_eq] at c
          rw [List.mem_singleton.1 hq, h2]
          refine ⟨rfl, .inr (.inr (.inr ⟨rfl, hst, by simp only []; rw [c.2, hl], by simp [c.2]⟩))⟩
        · cases hq
/-- Which states two ends may be in: the one that dials, the one that listens. -/
structure Sta (d l : En) : Prop where
  ds : d.st = 1 ∨ d.st = 3
  ls : l.st = 2 ∨ l.st = 3
  dl : d.st = 3 → l.st = 3
  d1 : d.st = 1 → d.next = 0 ∧ d.endSent = false ∧ d.inn = [] ∧ d.other = false
  l2 : l.st = 2 → l.next = 0 ∧ l.endSent = false ∧ l.inn = [] ∧ l.other = false
/-- An acknowledgment is taken. -/
theorem Dir.acked (h : Dir a s t) (now : Int) : Dir a (ackedS s ((t.inn.length : Int) + (if t.other then 1 else 0)) now) t := by
  have k1 := h.u0
  have k2 := h.un
  have k3 := h.nn
  have k4 := h.nx
  have k5 := h.alm
  have k6 := h.lo
  have hl := h.len
  obtain ⟨n, hn⟩ : ∃ n : Int, (t.inn.length : Int) + (if t.other then 1 else 0) = n := ⟨_, rfl⟩
  rw [hn]
  unfold ackedS
  by_cases c : n ≤ s.una ∨ mostS s < n
  · rw [if_pos c]
    exact h
  · rw [if_neg c, hl]
    cases ho : t.other
    · have hn' : n = t.inn.length := by rw [← hn, ho]; simp
      rw [if_neg (by omega)]
      refine ⟨h.out, h.cl, h.id, by simp only []; omega, by simp only []; omega, h.nn, by simp only []; rw [hn']; exact k5, h.aln, h.inn, h.alm, by simp only []; omega, by simp only []; omega, h.nx, fun ho => h.oth ho, fun he => ?_, h.es⟩
      have := h.ea he
      rw [ho] at this
      exact absurd this.1 (by decide)
    · obtain ⟨h1, h2⟩ := h.oth ho
      have h3 := h.es h2
      have hn' : n = t.inn.length + 1 := by rw [← hn, ho]; simp
      rw [if_pos (by omega)]
      exact ⟨h.out, h.cl, h.id, by simp only []; omega, by simp only []; omega, h.nn, .inr rfl, h.aln, h.inn, h.alm, by simp only []; omega, by simp only []; omega, h.nx, fun ho => h.oth ho, fun he => ⟨ho, rfl, h2⟩, h.es⟩
theorem take_piece (a : List Int) (p n : Nat) (hn : p + n ≤ a.length) : a.take p ++ (a.drop p).take n = a.take (p + n) := by
  rw [List.take_add]
/-- A piece is taken. -/
theorem Dir.data (h : Dir a s t) (hN : a.length ≤ 30000) (q : Sg) (p : Nat) (h1 : q.seq = p) (h2 : p % 400 = 0) (h3 : p < a.length) (h4 : q.data = (a.drop p).take (min 400 (a.length - p))) (h5 : ((p + min 400 (a.length - p) : Nat) : Int) ≤ s.next) (h6 : ((p + min 400 (a.length - p) : Nat) : Int) ≤ s.una + 4000) : Dir a s (dataS t q) := by
  have k1 := h.nx
  have k2 := h.nn
  have hdl : q.data.length = min 400 (a.length - p) := by rw [h4, List.length_take, List.length_drop]; omega
  unfold dataS
  split
  · rename_i c
    have hm : t.inn.length = p := by omega
    have hinn : t.inn ++ q.data = a.take (p + min 400 (a.length - p)) := by
      have h7 := h.inn
      rw [hm] at h7
      rw [h7, h4]
      exact take_piece a p _ (by omega)
    have hlen : (t.inn ++ q.data).length = p + min 400 (a.length - p) := by rw [List.length_append, hdl, hm]
    refine ⟨h.out, h.cl, h.id, h.u0, h.un, h.nn, h.alu, h.aln, ?_, ?_, ?_, ?_, ?_, fun ho => absurd ho (by rw [c.2.2]; decide), fun he => absurd (h.ea he).1 (by rw [c.2.2]; decide), h.es⟩
    · simp only []; rw [hlen, hinn]
    · simp only []; rw [hlen]; unfold al; omega
    · simp only []; rw [hlen]; have := h.lo; omega
    · simp only []; rw [hlen]; exact h6
    · simp only []; rw [hlen]; exact h5
  · exact h.recv rfl rfl rfl
theorem Dir.fin (h : Dir a s t) (hes : s.endSent = true) (q : Sg) (hq : q.seq = a.length) : Dir a s (if q.seq = t.inn.length then { t with owes := true, other := true } else { t with owes := true }) := by
  split
  · rename_i c
    refine ⟨h.out, h.cl, h.id, h.u0, h.un, h.nn, h.alu, h.aln, h.inn, h.alm, h.lo, h.hi, h.nx, fun _ => ⟨by simp only []; omega, hes⟩, fun he => ⟨rfl, (h.ea he).2⟩, h.es⟩
  · exact h.recv rfl rfl rfl
end
end Go.Proofs.Ytoeipgbnjcgbjaa
/- Plain laws on two ends: one datagram that comes or is lost; a row of datagrams that all come. -/
namespace Go.Proofs.Ytoeipgbnjcgbjaa
open Go.RowKit
set_option linter.unusedVariables false

theorem ackedS_other (s : En) (n now : Int) : (ackedS s n now).other = s.other ∧ (ackedS s n now).next = s.next ∧ (ackedS s n now).endSent = s.endSent ∧ (ackedS s n now).owes = s.owes ∧ (ackedS s n now).closed = s.closed ∧ (ackedS s n now).dialed = s.dialed := by
  unfold ackedS
  split
  · exact ⟨rfl, rfl, rfl, rfl, rfl, rfl⟩
  · split <;> exact ⟨rfl, rfl, rfl, rfl, rfl, rfl⟩
theorem outS_other (s : En) (now : Int) (hc : s.closed = true) (hst : s.st = 1 ∨ s.st = 2 ∨ s.st = 3) : (outS s now).2.other = s.other := by
  rcases hst with h | h | h
  · obtain ⟨_, d, at', h2, _⟩ := dial_form s now h; rw [h2]
  · rw [(none_form s now h).2]
  · obtain ⟨_, at', h2, _⟩ := open_form s now h hc; rw [h2]
section
variable {a b : List Int} {s t d l : En} {now : Int}
/-- One datagram comes to an open end. -/
theorem open_step (hs : Dir a s t) (ht : Dir b t s) (hN : a.length ≤ 30000) (q : Sg) (hq : Comp a s q) : Dir a s (openS t q now) ∧ Dir b (openS t q now) s ∧ (openS t q now).st = t.st := by
  obtain ⟨hid, hq⟩ := hq
  unfold openS
  rcases hq with ⟨h1, _⟩ | ⟨h1, _, h2⟩ | ⟨h1, _, p, h2, h3, h4, h5, h6, h7⟩ | ⟨h1, _, h2, h3⟩
  · rw [if_pos h1]
    exact ⟨hs.recv rfl rfl rfl, ht.send rfl rfl rfl rfl rfl ht.un ht.nn ht.aln ht.nx (fun h => (ht.oth h).2) ht.es, rfl⟩
  · rw [if_neg (by omega), if_pos h1, h2]
    have k1 := ackedS_out t ((s.inn.length : Int) + (if s.other then 1 else 0)) now
    have k2 := ackedS_other t ((s.inn.length : Int) + (if s.other then 1 else 0)) now
    exact ⟨hs.recv k1.2.2.2.1 k1.2.1 k2.1, ht.acked now, k1.2.2.2.2⟩
  · rw [if_neg (by omega), if_neg (by omega), if_pos h1]
    refine ⟨hs.data hN q p h2 h3 h4 h5 h6 h7, ?_, ?_⟩
    · unfold dataS
      split
      · exact ht.send rfl rfl rfl rfl rfl ht.un ht.nn ht.aln ht.nx (fun h => (ht.oth h).2) ht.es
      · exact ht.send rfl rfl rfl rfl rfl ht.un ht.nn ht.aln ht.nx (fun h => (ht.oth h).2) ht.es
    · unfold dataS
      split <;> rfl
  · rw [if_neg (by omega), if_neg (by omega), if_neg (by omega), if_pos h1]
    refine ⟨hs.fin h3 q h2, ?_, ?_⟩
    · split
      · exact ht.send rfl rfl rfl rfl rfl ht.un ht.nn ht.aln ht.nx (fun h => (ht.oth h).2) ht.es
      · exact ht.send rfl rfl rfl rfl rfl ht.un ht.nn ht.aln ht.nx (fun h => (ht.oth h).2) ht.es
    · split <;> rfl
theorem step_open (h3 : t.st = 3) (q : Sg) (hid : q.id = t.id) (h5 : q.t ≠ 5) : stepS t q now = openS t q now := by
  unfold stepS
  rw [if_neg (by omega), if_neg h5, if_neg (by omega), if_neg (by omega)]
/-- Two ends, at every time. -/
structure PairI (a b : List Int) (d l : En) : Prop where
  da : Dir a d l
  db : Dir b l d
  sta : Sta d l
theorem Comp.t5 {q : Sg} (h : Comp a s q) : q.t ≠ 5 := by
  rcases h.2 with ⟨h, _⟩ | ⟨h, _⟩ | ⟨h, _⟩ | ⟨h, _⟩ <;> omega
/-- A datagram of the one that dials. -/
theorem PairI.step_l (h : PairI a b d l) (hN : a.length ≤ 30000) (q : Sg) (hq : Comp a d q) : PairI a b d (stepS l q now) := by
  have hid : q.id = l.id := hq.1.trans h.da.id.symm
  rcases h.sta.ls with hl | hl
  · unfold stepS
    rw [if_neg (by omega), if_neg hq.t5, if_neg (by omega), if_pos hl]
    unfold listenS
    split
    · refine ⟨h.da.recv rfl rfl rfl, h.db.send rfl rfl rfl rfl rfl h.db.un h.db.nn h.db.aln h.db.nx (fun h' => (h.db.oth h').2) h.db.es, ⟨h.sta.ds, .inr rfl, fun _ => rfl, h.sta.d1, fun e => absurd e (by simp only []; decide)⟩⟩
    · exact h
  · rw [step_open hl q hid hq.t5]
    obtain ⟨h1, h2, h3⟩ := open_step (now := now) h.da h.db hN q hq
    exact ⟨h1, h2, ⟨h.sta.ds, .inr (h3.trans hl), fun _ => h3.trans hl, h.sta.d1, fun e => by rw [h3, hl] at e; exact absurd e (by decide)⟩⟩
/-- A datagram of the one that listens. -/
theorem PairI.step_d (h : PairI a b d l) (hN : b.length ≤ 30000) (q : Sg) (hq : Comp b l q) : PairI a b (stepS d q now) l := by
  have hid : q.id = d.id := hq.1.trans h.db.id.symm
  rcases h.sta.ds with hd | hd
  · unfold stepS
    rw [if_neg (by omega), if_neg hq.t5, if_pos hd]
    unfold dialS
    split
    · rename_i c
      have hl : l.st = 3 := by
        rcases hq.2 with ⟨h1, h2⟩ | ⟨_, h2, _⟩ | ⟨_, h2, _⟩ | ⟨_, h2, _⟩
        · omega
        · exact h2
        · exact h2
        · exact h2
      refine ⟨h.da.send rfl rfl rfl rfl rfl h.da.un h.da.nn h.da.aln h.da.nx (fun h' => (h.da.oth h').2) h.da.es, h.db.recv rfl rfl rfl, ⟨.inr rfl, h.sta.ls, fun _ => hl, fun e => absurd e (by simp only []; decide), h.sta.l2⟩⟩
    · exact h
  · rw [step_open hd q hid hq.t5]
    obtain ⟨h1, h2, h3⟩ := open_step (now := now) h.db h.da hN q hq
    exact ⟨h2, h1, ⟨.inr (h3.trans hd), h.sta.ls, fun _ => h.sta.dl hd, fun e => by rw [h3, hd] at e; exact absurd e (by decide), h.sta.l2⟩⟩
theorem PairI.out_d (h : PairI a b d l) : PairI a b (outS d now).2 l ∧ (outS d now).1 = (outQ d now).map segL ∧ (∀ q ∈ outQ d now, Comp a (outS d now).2 q) := by
  have hst : d.st = 1 ∨ d.st = 2 ∨ d.st = 3 := h.sta.ds.elim .inl (fun e => .inr (.inr e))
  obtain ⟨h1, h2, h3⟩ := h.da.outS_ (now := now) hst
  have ho := outS_out d now
  have hot := outS_other d now h.da.cl hst
  refine ⟨⟨h1, h.db.recv ho.2.2.2.1 ho.2.1 hot, ⟨?_, h.sta.ls, fun e => h.sta.dl (ho.2.2.2.2 ▸ e), fun e => ?_, h.sta.l2⟩⟩, h2, h3⟩
  · rw [ho.2.2.2.2]; exact h.sta.ds
  · rw [ho.2.2.2.2] at e
    obtain ⟨_, dd, at', h4, _⟩ := dial_form d now e
    rw [h4]
    exact h.sta.d1 e
theorem PairI.out_l (h : PairI a b d l) : PairI a b d (outS l now).2 ∧ (outS l now).1 = (outQ l now).map segL ∧ (∀ q ∈ outQ l now, Comp b (outS l now).2 q) := by
  have hst : l.st = 1 ∨ l.st = 2 ∨ l.st = 3 := .inr h.sta.ls
  obtain ⟨h1, h2, h3⟩ := h.db.outS_ (now := now) hst
  have ho := outS_out l now
  have hot := outS_other l now h.db.cl hst
  refine ⟨⟨h.da.recv ho.2.2.2.1 ho.2.1 hot, h1, ⟨h.sta.ds, ?_, fun e => ?_, h.sta.d1, fun e => ?_⟩⟩, h2, h3⟩
  · rw [ho.2.2.2.2]; exact h.sta.ls
  · rw [ho.2.2.2.2]; exact h.sta.dl e
  · rw [ho.2.2.2.2] at e
    rw [(none_form l now e).2]
    exact h.sta.l2 e
/-- A row of datagrams that all come. -/
def recvQ (t : En) (qs : List Sg) (now : Int) : En := qs.foldl (fun t q => stepS t q now) t
theorem recvQ_app (t : En) (x y : List Sg) (now : Int) : recvQ t (x ++ y) now = recvQ (recvQ t x now) y now := by unfold recvQ; rw [List.foldl_append]
theorem recv_l (h : PairI a b d l) (hN : a.length ≤ 30000) : ∀ (qs : List Sg), (∀ q ∈ qs, Comp a d q) → PairI a b d (recvQ l qs now) := by
  intro qs
  induction qs generalizing l with
  | nil => intro _; exact h
  | cons q qs ih => intro hq; exact ih (h.step_l hN q (hq q (.head _))) (fun q' hq' => hq q' (.tail _ hq'))
theorem recv_d (h : PairI a b d l) (hN : b.length ≤ 30000) : ∀ (qs : List Sg), (∀ q ∈ qs, Comp b l q) → PairI a b (recvQ d qs now) l := by
  intro qs
  induction qs generalizing d with
  | nil => intro _; exact h
  | cons q qs ih => intro hq; exact ih (h.step_d hN q (hq q (.head _))) (fun q' hq' => hq q' (.tail _ hq'))
/-- How much has come behind a row of pieces. -/
def gotN (p m f : Nat) : Nat := if p ≤ m then max m f else m
theorem recv_data (s : En) (hs : s.out = a) (hN : a.length ≤ 30000) (now : Int) : ∀ (f p m : Nat) (t : En), t.st = 3 → t.id = s.id → t.inn = a.take m → m ≤ a.length → al a.length m → (t.other = true → m = a.length) → al a.length p → p ≤ a.length →
    recvQ t (dataQ s f p) now = { t with inn := a.take (gotN p m (dataL s f p).2), owes := t.owes || !(dataQ s f p).isEmpty } := by
  intro f
  induction f with
  | zero =>
    intro p m t h3 hid hin hm ham ho hap hp
    have : gotN p m (dataL s 0 p).2 = m := by unfold gotN; rw [dataL]; split <;> omega
    rw [this, ← hin]
    simp [recvQ, dataQ]
  | succ f ih =>
    intro p m t h3 hid hin hm ham ho hap hp
    rw [dataL, dataQ, hs]
    by_cases c : p < a.length ∧ (p : Int) < s.una + 4000
    · rw [if_pos c, if_pos c]
      have hn : pieceN s p = min 400 (a.length - p) := by unfold pieceN; rw [hs]
      rw [hn]
      have hlen : t.inn.length = m := by rw [hin, List.length_take]; omega
      unfold al at ham hap
      have hdl : ((a.drop p).take (min 400 (a.length - p))).length = min 400 (a.length - p) := by rw [List.length_take, List.length_drop]; omega
      have hq : stepS t ⟨3, s.id, p, 0, (a.drop p).take (min 400 (a.length - p))⟩ now = { t with inn := a.take (if p = m then p + min 400 (a.length - p) else m), owes := true } := by
        rw [step_open h3 _ hid.symm (by simp only []; decide)]
        unfold openS
        simp only
        rw [if_neg (by decide), if_neg (by decide), if_pos trivial]
        unfold dataS
        simp only
        rw [hlen, hdl]
        by_cases e : p = m
        · have hot : t.other = false := by
            cases h : t.other
            · rfl
            · have := ho h; omega
          rw [if_pos ⟨by omega, by omega, hot⟩, if_pos e, hin]
          subst e
          rw [take_piece a p _ (by omega)]
        · rw [if_neg (fun h => e (by omega)), if_neg e, ← hin]
      show recvQ (stepS t ⟨3, s.id, p, 0, (a.drop p).take (min 400 (a.length - p))⟩ now) (dataQ s f (p + min 400 (a.length - p))) now = _
      rw [hq]
      have hap2 : al a.length ((p + min 400 (a.length - p) : Nat) : Int) := by unfold al; omega
      by_cases e : p = m
      · rw [if_pos e]
        have := ih (p + min 400 (a.length - p)) (p + min 400 (a.length - p)) { t with inn := a.take (p + min 400 (a.length - p)), owes := true } h3 hid rfl (by omega) hap2 (fun h => by have := ho h; omega) hap2 (by omega)
        rw [this]
        have hle := dataL_le s f (p + min 400 (a.length - p)) (by rw [hs]; omega)
        have hg : gotN (p + min 400 (a.length - p)) (p + min 400 (a.length - p)) (dataL s f (p + min 400 (a.length - p))).2 = gotN p m (dataL s f (p + min 400 (a.length - p))).2 := by
          unfold gotN
          rw [if_pos (Nat.le_refl _), if_pos (by omega)]
          omega
        rw [hg]
        simp
      · rw [if_neg e]
        have := ih (p + min 400 (a.length - p)) m { t with inn := a.take m, owes := true } h3 hid rfl hm (by unfold al; exact ham) ho hap2 (by omega)
        rw [this]
        have hle := dataL_le s f (p + min 400 (a.length - p)) (by rw [hs]; omega)
        have hg : gotN (p + min 400 (a.length - p)) m (dataL s f (p + min 400 (a.length - p))).2 = gotN p m (dataL s f (p + min 400 (a.length - p))).2 := by
          unfold gotN
          by_cases g : p ≤ m
          · rw [if_pos (by omega), if_pos g]
          · rw [if_neg (by omega), if_neg g]
        rw [hg]
        simp
    · rw [if_neg c, if_neg c]
      have : gotN p m p = m := by unfold gotN; split <;> omega
      show t = _
      simp only
      rw [this, ← hin]
      simp
/-- What an open end that all reaches makes of what an open end sends. -/
theorem recv_open (hs : Dir a s t) (ht : Dir b t s) (hN : a.length ≤ 30000) (h3 : s.st = 3) (h3' : t.st = 3) :
    ∃ t1, t1 = (if s.owes then ackedS t ((s.inn.length : Int) + (if s.other then 1 else 0)) now else t) ∧
      recvQ t (outQ s now) now = { t1 with inn := a.take (gotN (startQ s now).toNat t.inn.length (endQ s now).toNat), owes := t.owes || !(dataQ s s.out.length (startQ s now).toNat).isEmpty || !(finQ s now).isEmpty, other := t.other || (!(finQ s now).isEmpty && decide (a.length = gotN (startQ s now).toNat t.inn.length (endQ s now).toNat)) } := by
  refine ⟨_, rfl, ?_⟩
  obtain ⟨e1, e2, e3, e4⟩ := hs.end_ now
  have hl := hs.len
  have hQ : outQ s now = ackQ s ++ dataQ s s.out.length (startQ s now).toNat ++ finQ s now := by
    unfold outQ
    rw [if_neg (by omega), if_pos h3]
  rw [hQ, recvQ_app, recvQ_app]
  have hA : recvQ t (ackQ s) now = (if s.owes then ackedS t ((s.inn.length : Int) + (if s.other then 1 else 0)) now else t) := by
    unfold ackQ
    cases s.owes
    · rfl
    · simp only [if_true]
      show stepS t _ now = _
      rw [step_open h3' _ hs.id.symm (by simp only []; decide)]
      unfold openS
      simp only
      rw [if_neg (by decide), if_pos trivial]
  rw [hA]
  obtain ⟨t1, ht1⟩ : ∃ t1, (if s.owes then ackedS t ((s.inn.length : Int) + (if s.other then 1 else 0)) now else t) = t1 := ⟨_, rfl⟩
  rw [ht1]
  have k : t1.st = t.st ∧ t1.id = t.id ∧ t1.inn = t.inn ∧ t1.other = t.other ∧ t1.owes = t.owes := by
    rw [← ht1]
    cases s.owes
    · exact ⟨rfl, rfl, rfl, rfl, rfl⟩
    · simp only [if_true]
      have k1 := ackedS_out t ((s.inn.length : Int) + (if s.other then 1 else 0)) now
      have k2 := ackedS_other t ((s.inn.length : Int) + (if s.other then 1 else 0)) now
      exact ⟨k1.2.2.2.2, k1.2.2.2.1, k1.2.1, k2.1, k2.2.2.2.1⟩
  have hm : t.inn.length ≤ a.length := by have := hs.nx; have := hs.nn; omega
  obtain ⟨p, hp⟩ := Int.eq_ofNat_of_zero_le (Int.le_trans hs.u0 e2)
  rw [hp] at e1 e2 e3 e4 ⊢
  rw [Int.toNat_natCast]
  have hD := recv_data s hs.out hN now s.out.length p t.inn.length t1 (k.1.trans h3') (k.2.1.trans hs.id) (k.2.2.1.trans hs.inn) hm hs.alm (fun h => by have := (hs.oth (k.2.2.2.1 ▸ h)).1; omega) e4 (by omega)
  rw [hD]
  have hE : endQ s now = ((dataL s s.out.length p).2 : Int) := by unfold endQ; rw [hp, Int.toNat_natCast]
  have hle := (dataL_le s s.out.length p (by rw [hl]; omega)).2
  have hle2 : (dataL s s.out.length p).2 ≤ a.length := Nat.le_trans hle (by rw [hl]; exact Nat.le_refl _)
  have hG : gotN p t.inn.length (dataL s s.out.length p).2 ≤ a.length := by unfold gotN; split <;> omega
  have hEN : (endQ s now).toNat = (dataL s s.out.length p).2 := by rw [hE]; rfl
  rw [hEN]
  obtain ⟨G, hGG⟩ : ∃ G, gotN p t.inn.length (dataL s s.out.length p).2 = G := ⟨_, rfl⟩
  rw [hGG] at hG ⊢
  rw [k.2.2.2.2]
  by_cases hf : (s.closed && !es0 s now && decide (endQ s now = s.out.length)) = true
  · have hF : finQ s now = [⟨4, s.id, endQ s now, 0, []⟩] := by unfold finQ; rw [if_pos hf]
    have hee : endQ s now = a.length := by
      simp only [Bool.and_eq_true, decide_eq_true_eq] at hf
      rw [hf.2, hl]
    rw [hF]
    show stepS _ _ now = _
    rw [step_open (by simp only []; exact k.1.trans h3') _ (by simp only []; exact (k.2.1.trans hs.id).symm) (by simp only []; decide)]
    unfold openS
    simp only
    rw [if_neg (by decide), if_neg (by decide), if_neg (by decide), if_pos trivial, hee]
    have hlG : (a.take G).length = G := by rw [List.length_take]; omega
    rw [hlG]
    by_cases g : a.length = G
    · rw [if_pos (by omega), ← k.2.2.2.1]
      simp [g]
    · rw [if_neg (by omega), ← k.2.2.2.1]
      simp [g]
  · have hF : finQ s now = [] := by unfold finQ; rw [if_neg hf]
    rw [hF]
    show _ = _
    simp only [recvQ, List.foldl_nil, List.isEmpty_nil, Bool.not_true, Bool.or_false, Bool.false_and]
    rw [← k.2.2.2.1]
end
end Go.Proofs.Ytoeipgbnjcgbjaa
/- Plain laws on two ends: a round in which all comes. -/
namespace Go.Proofs.Ytoeipgbnjcgbjaa
open Go.RowKit
set_option linter.unusedVariables false

/-- What is sent begins at what is acknowledged. -/
def Good (s : En) (now : Int) : Prop := startQ s now = s.una ∧ es0 s now = s.endAcked
/-- It is time to send anew, or nothing was ever sent. -/
def Tm (s : En) (now : Int) : Prop := (s.next = 0 ∧ s.endSent = false ∧ s.dialed = false) ∨ dueB s now = true
section
variable {a b : List Int} {s t d l : En} {now : Int}
theorem good_of (hs : Dir a s t) (hT : waitsB s = true → dueB s now = true) : Good s now := by
  have h1 := hs.un
  unfold Good startQ es0
  cases hw : waitsB s
  · simp only [Bool.false_and, Bool.false_eq_true, if_false]
    unfold waitsB at hw
    rw [Bool.or_eq_false_iff, decide_eq_false_iff_not] at hw
    refine ⟨by omega, ?_⟩
    have h2 := hw.2
    cases he : s.endAcked
    · rw [he] at h2
      simpa using h2
    · exact (hs.ea he).2.2
  · rw [hT hw]
    simp
theorem Tm.waits (hs : Dir a s t) (h : Tm s now) : waitsB s = true → dueB s now = true := by
  intro hw
  rcases h with ⟨h1, h2, _⟩ | h
  · have h3 := hs.un
    have h4 := hs.u0
    unfold waitsB at hw
    rw [h2] at hw
    simp at hw
    omega
  · exact h
theorem ack_una (hs : Dir a s t) (now : Int) : (ackedS s ((t.inn.length : Int) + (if t.other then 1 else 0)) now).una = t.inn.length ∧ (ackedS s ((t.inn.length : Int) + (if t.other then 1 else 0)) now).endAcked = t.other ∧
    ((ackedS s ((t.inn.length : Int) + (if t.other then 1 else 0)) now).at_ = now ∨ ((ackedS s ((t.inn.length : Int) + (if t.other then 1 else 0)) now).at_ = s.at_ ∧ s.una = t.inn.length ∧ s.endAcked = t.other)) := by
  have k1 := hs.lo
  have k2 := hs.nx
  have k3 := hs.nn
  have hl := hs.len
  obtain ⟨n, hn⟩ : ∃ n : Int, (t.inn.length : Int) + (if t.other then 1 else 0) = n := ⟨_, rfl⟩
  rw [hn]
  unfold ackedS
  cases ho : t.other
  · have hn' : n = t.inn.length := by rw [← hn, ho]; simp
    have he : s.endAcked = false := by
      cases he : s.endAcked
      · rfl
      · have := (hs.ea he).1; rw [ho] at this; exact this.symm
    by_cases c : n ≤ s.una ∨ mostS s < n
    · rw [if_pos c]
      have hm : s.next ≤ mostS s := by unfold mostS; split <;> omega
      exact ⟨by omega, he, .inr ⟨rfl, by omega, he⟩⟩
    · rw [if_neg c, if_neg (by omega)]
      exact ⟨hn', he, .inl rfl⟩
  · obtain ⟨h1, h2⟩ := hs.oth ho
    have h3 := hs.es h2
    have hn' : n = t.inn.length + 1 := by rw [← hn, ho]; simp
    have hm : mostS s = s.next + 1 := by unfold mostS; rw [if_pos h2]
    rw [if_neg (by omega), if_pos (by omega)]
    exact ⟨by simp only []; omega, rfl, .inl rfl⟩
theorem ack_same (now : Int) (hu : s.una = t.inn.length) (ho : t.other = false) : ackedS s ((t.inn.length : Int) + (if t.other then 1 else 0)) now = s := by
  unfold ackedS
  rw [ho]
  simp only [Bool.false_eq_true, if_false]
  rw [if_pos (.inl (by omega))]
theorem dataQ_empty (s : En) (p : Nat) (hp : p ≤ s.out.length) (hu : (p : Int) < s.una + 4000) : (dataQ s s.out.length p).isEmpty = decide (p = s.out.length) := by
  cases h : s.out.length with
  | zero =>
    have : p = 0 := by omega
    subst this
    rfl
  | succ n =>
    rw [dataQ, h]
    by_cases c : p = n + 1
    · subst c
      rw [if_neg (by omega)]
      simp
    · rw [if_pos ⟨by omega, hu⟩]
      simp [c]
/-- How far an end comes in a round. -/
def farT (a : List Int) (u : Int) : Int := min (a.length : Int) (u + 4000)
/-- What an open end sends that begins where it is acknowledged: what it leaves of both. -/
structure Half (a : List Int) (s t s' t' : En) (t1 : En) (now : Int) : Prop where
  next : s'.next = farT a s.una
  es : s'.endSent = true ↔ farT a s.una = a.length
  una : s'.una = s.una
  ea : s'.endAcked = s.endAcked
  owes : s'.owes = false
  inn : s'.inn = s.inn
  oth : s'.other = s.other
  tinn : (t'.inn.length : Int) = farT a s.una
  toth : t'.other = true ↔ farT a s.una = a.length
  tuna : t'.una = t1.una
  tea : t'.endAcked = t1.endAcked
  tnext : t'.next = t.next
  tes : t'.endSent = t.endSent
  tat : t'.at_ = t1.at_
  tow : t'.owes = true ∨ (s.una = a.length ∧ s.endAcked = true ∧ t.owes = false)
  tow2 : s.una = a.length → s.endAcked = true → t.owes = false → t'.owes = false
theorem half_good (hs : Dir a s t) (ht : Dir b t s) (hN : a.length ≤ 30000) (h3 : s.st = 3) (h3' : t.st = 3) (hg : Good s now) :
    Half a s t (outS s now).2 (recvQ t (outQ s now) now) (if s.owes then ackedS t ((s.inn.length : Int) + (if s.other then 1 else 0)) now else t) now := by
  obtain ⟨t1, ht1, hR⟩ := recv_open (now := now) hs ht hN h3 h3'
  rw [← ht1]
  obtain ⟨_, at', hO, _⟩ := open_form s now h3 hs.cl
  obtain ⟨e1, e2, e3, e4⟩ := hs.end_ now
  obtain ⟨g1, g2⟩ := hg
  have hl := hs.len
  have k1 := hs.u0
  have k2 := hs.un
  have k3 := hs.nn
  have k4 := hs.lo
  have k5 := hs.hi
  have k6 := hs.nx
  rw [g1] at e1 e2 e3 e4 hR
  have eT : endQ s now = farT a s.una := by rw [e1]; unfold farQ farT; omega
  have hT1 : farT a s.una ≤ a.length ∧ s.una ≤ farT a s.una ∧ (t.inn.length : Int) ≤ farT a s.una := by unfold farT; omega
  obtain ⟨p, hp⟩ := Int.eq_ofNat_of_zero_le k1
  rw [hp, Int.toNat_natCast] at hR
  have hE := dataQ_empty s p (by omega) (by omega)
  rw [hE] at hR
  have hT2 : (a.length : Int) = farT a s.una ↔ s.una + 4000 ≥ a.length := by unfold farT; omega
  have hcase : (s.una = a.length → farT a s.una = a.length) := by unfold farT; omega
  rw [eT] at hR hO
  obtain ⟨T, hT⟩ := Int.eq_ofNat_of_zero_le (Int.le_trans k1 hT1.2.1)
  rw [hT] at hR hO hT1 hcase
  rw [Int.toNat_natCast] at hR
  have hG : gotN p t.inn.length T = T := by unfold gotN; rw [if_pos (by omega)]; omega
  rw [hG] at hR
  have hF : (finQ s now).isEmpty = (s.endAcked || !decide ((T : Int) = a.length)) := by
    unfold finQ
    rw [hs.cl, g2, eT, hT, hl]
    cases s.endAcked
    · by_cases c : (T : Int) = a.length
      · simp [c]
      · simp [c]
    · simp
  rw [hF] at hR
  have htk : (a.take T).length = T := by rw [List.length_take]; omega
  have k : t1.next = t.next ∧ t1.endSent = t.endSent := by
    rw [ht1]
    cases s.owes
    · exact ⟨rfl, rfl⟩
    · have k2 := ackedS_other t ((s.inn.length : Int) + (if s.other then 1 else 0)) now
      exact ⟨k2.2.1, k2.2.2.1⟩
  have hoth := hs.oth
  have hea := hs.ea
  rw [hO, hR]
  rw [g2, hl]
  refine ⟨hT.symm, ?_, rfl, rfl, rfl, rfl, rfl, by simp only []; rw [htk, hT], ?_, rfl, rfl, k.1, k.2, rfl, ?_, ?_⟩
  · rw [hT]
    simp only [Bool.or_eq_true, decide_eq_true_eq]
    constructor
    · rintro (h | h)
      · exact hcase (hea h).2.1
      · exact h
    · exact .inr
  · rw [hT]
    simp only [Bool.or_eq_true, Bool.and_eq_true, Bool.not_eq_true', Bool.or_eq_false_iff, decide_eq_true_eq, decide_eq_false_iff_not, Bool.not_eq_false', decide_eq_true_eq]
    constructor
    · rintro (h | h)
      · have := (hoth h).1; omega
      · omega
    · intro h
      cases he : s.endAcked
      · exact .inr ⟨⟨rfl, h⟩, by omega⟩
      · exact .inl (hea he).1
  · simp only [hl, Bool.or_eq_true, Bool.not_eq_true', decide_eq_false_iff_not, Bool.or_eq_false_iff, Bool.not_eq_false', decide_eq_true_eq]
    cases ho : t.owes
    · by_cases c : p = a.length
      · cases he : s.endAcked
        · exact .inl (.inr ⟨rfl, by omega⟩)
        · exact .inr ⟨by omega, rfl, rfl⟩
      · exact .inl (.inl (.inr c))
    · exact .inl (.inl (.inl rfl))
  · intro h1 h2 h3
    simp only [hl, h2, h3]
    have : p = a.length := by omega
    simp [this]
/-- What an open end sends, whatever it begins with: what it leaves of both but for what came. -/
theorem phase (hs : Dir a s t) (ht : Dir b t s) (hN : a.length ≤ 30000) (h3 : s.st = 3) (h3' : t.st = 3) :
    (recvQ t (outQ s now) now).una = (if s.owes then (s.inn.length : Int) else t.una) ∧ (recvQ t (outQ s now) now).endAcked = (if s.owes then s.other else t.endAcked) ∧ (recvQ t (outQ s now) now).next = t.next ∧ (recvQ t (outQ s now) now).endSent = t.endSent ∧
      (outS s now).2.inn = s.inn ∧ (outS s now).2.other = s.other ∧ (outS s now).2.owes = false ∧ (outS s now).2.una = s.una ∧ (outS s now).2.endAcked = s.endAcked ∧
      ((recvQ t (outQ s now) now).at_ = now ∨ ((recvQ t (outQ s now) now).at_ = t.at_ ∧ (s.owes = true → t.una = s.inn.length ∧ t.endAcked = s.other))) := by
  obtain ⟨t1, ht1, hR⟩ := recv_open (now := now) hs ht hN h3 h3'
  obtain ⟨_, at', hO, _⟩ := open_form s now h3 hs.cl
  rw [hR, hO]
  have k : t1.una = (if s.owes then (s.inn.length : Int) else t.una) ∧ t1.endAcked = (if s.owes then s.other else t.endAcked) ∧ t1.next = t.next ∧ t1.endSent = t.endSent ∧ (t1.at_ = now ∨ (t1.at_ = t.at_ ∧ (s.owes = true → t.una = s.inn.length ∧ t.endAcked = s.other))) := by
    rw [ht1]
    cases s.owes
    · exact ⟨rfl, rfl, rfl, rfl, .inr ⟨rfl, fun h => absurd h (by decide)⟩⟩
    · have k1 := ackedS_other t ((s.inn.length : Int) + (if s.other then 1 else 0)) now
      have k2 := ack_una ht now
      exact ⟨k2.1, k2.2.1, k1.2.1, k1.2.2.1, k2.2.2.elim .inl (fun h => .inr ⟨h.1, fun _ => h.2⟩)⟩
  exact ⟨k.1, k.2.1, k.2.2.1, k.2.2.2.1, rfl, rfl, rfl, rfl, rfl, k.2.2.2.2⟩
/-- What is sent too far ahead changes nothing of what came. -/
theorem not_good (hs : Dir a s t) (ht : Dir b t s) (hN : a.length ≤ 30000) (h3 : s.st = 3) (h3' : t.st = 3) (hu : s.una = t.inn.length) (hg : ¬ Good s now) :
    (recvQ t (outQ s now) now).inn.length = t.inn.length ∧ (recvQ t (outQ s now) now).other = t.other := by
  obtain ⟨t1, ht1, hR⟩ := recv_open (now := now) hs ht hN h3 h3'
  obtain ⟨e1, e2, e3, e4⟩ := hs.end_ now
  have hl := hs.len
  have k1 := hs.u0
  have k2 := hs.un
  have k3 := hs.nn
  have hw : waitsB s = true ∧ dueB s now = false := by
    cases hw : waitsB s
    · exact absurd (good_of hs (now := now) (fun h => by rw [hw] at h; exact absurd h (by decide))) hg
    · cases hd : dueB s now
      · exact ⟨rfl, rfl⟩
      · exact absurd (good_of hs (now := now) (fun _ => hd)) hg
  have hst : startQ s now = s.next := by unfold startQ; rw [hw.1, hw.2]; rfl
  have hes : es0 s now = s.endSent := by unfold es0; rw [hw.1, hw.2]; rfl
  rw [hR, hst]
  rw [hst] at e1
  obtain ⟨p, hp⟩ := Int.eq_ofNat_of_zero_le (show 0 ≤ s.next by omega)
  rw [hp] at e1 ⊢
  rw [Int.toNat_natCast]
  have hm : t.inn.length ≤ a.length := by omega
  by_cases c : t.inn.length < p
  · have hG : ∀ e, gotN p t.inn.length e = t.inn.length := fun e => by unfold gotN; rw [if_neg (by omega)]
    rw [hG]
    refine ⟨by simp only []; rw [List.length_take]; omega, ?_⟩
    have : decide (a.length = t.inn.length) = false := decide_eq_false (by omega)
    simp only []
    rw [this]
    simp
  · have hend : s.endSent = true := by
      have := hw.1
      unfold waitsB at this
      rw [Bool.or_eq_true, decide_eq_true_eq, Bool.and_eq_true] at this
      rcases this with h | h
      · omega
      · exact h.1
    have hpn : s.next = a.length := hs.es hend
    have hG : gotN p t.inn.length (endQ s now).toNat = t.inn.length := by
      rw [e1]
      unfold gotN farQ
      rw [if_pos (by omega)]
      omega
    have hF : finQ s now = [] := by
      unfold finQ
      rw [hes, hend]
      simp
    rw [hG, hF]
    refine ⟨by simp only []; rw [List.length_take]; omega, ?_⟩
    simp
/-- The way back is in step. -/
def Qd (d l : En) : Prop := ((d.inn.length : Int) = l.next ∧ d.other = l.endSent) ∨ (l.una = d.inn.length ∧ (d.other = true → l.endAcked = true))
/-- What came back is acknowledged, or will be. -/
def Rr (d l : En) : Prop := d.owes = true ∨ (l.una = d.inn.length ∧ l.endAcked = d.other)
/-- A round in which all comes. -/
def rnd (d l : En) (now : Int) : En × En :=
  (recvQ (outS d now).2 (outQ (recvQ l (outQ d now) now) now) now, (outS (recvQ l (outQ d now) now) now).2)
theorem rnd_pair (h : PairI a b d l) (hNa : a.length ≤ 30000) (hNb : b.length ≤ 30000) : PairI a b (outS d now).2 (recvQ l (outQ d now) now) ∧ PairI a b (rnd d l now).1 (rnd d l now).2 := by
  obtain ⟨h1, _, h3⟩ := h.out_d (now := now)
  have h4 := recv_l (now := now) h1 hNa (outQ d now) h3
  obtain ⟨h5, _, h7⟩ := h4.out_l (now := now)
  exact ⟨h4, recv_d (now := now) h5 hNb _ h7⟩
/-- Both open: a round in which all comes. -/
structure Rd (a b : List Int) (d l l1 : En) (d2 l2 : En) (now : Int) : Prop where
  p : PairI a b d2 l2
  ds : d2.st = 3
  ls : l2.st = 3
  una : d2.una = farT a d.una
  ea : d2.endAcked = true ↔ farT a d.una = a.length
  next : d2.next = farT a d.una
  es : d2.endSent = true ↔ farT a d.una = a.length
  linn : (l2.inn.length : Int) = farT a d.una
  loth : l2.other = true ↔ farT a d.una = a.length
  low : l2.owes = false
  l1u : l1.una = (if d.owes then (d.inn.length : Int) else l.una)
  l1e : l1.endAcked = (if d.owes then d.other else l.endAcked)
  lu : l2.una = l1.una
  le : l2.endAcked = l1.endAcked
  good : Good l1 now → (d2.inn.length : Int) = farT b l1.una ∧ (d2.other = true ↔ farT b l1.una = b.length) ∧ l2.next = farT b l1.una ∧ (l2.endSent = true ↔ farT b l1.una = b.length) ∧ (d2.owes = true ∨ (l1.una = b.length ∧ l1.endAcked = true)) ∧ (l1.una = b.length → l1.endAcked = true → d2.owes = false)
  bad : ¬ Good l1 now → Qd d2 l2
  qd : Qd d l → Good l1 now
theorem rnd_open (h : PairI a b d l) (hNa : a.length ≤ 30000) (hNb : b.length ≤ 30000) (hd : d.st = 3) (hT : Tm d now) (hTl : Tm l now) (hnl : ∀ x : En, x.at_ = l.at_ → dueB x now = dueB l now) : Rd a b d l (recvQ l (outQ d now) now) (rnd d l now).1 (rnd d l now).2 now := by
  have hl := h.sta.dl hd
  obtain ⟨hp1, hp2⟩ := rnd_pair (now := now) h hNa hNb
  have HA := half_good (now := now) h.da h.db hNa hd hl (good_of h.da (hT.waits h.da))
  have PA := phase (now := now) h.da h.db hNa hd hl
  have hd1 : (outS d now).2.st = 3 := (outS_out d now).2.2.2.2.trans hd
  have hl1 : (recvQ l (outQ d now) now).st = 3 := hp1.sta.dl hd1
  unfold rnd at hp2 ⊢
  generalize outS d now = OD at *
  obtain ⟨od, d1⟩ := OD
  simp only at hp1 hp2 HA PA hd1 ⊢
  generalize recvQ l (outQ d now) now = l1 at *
  have PB := phase (now := now) hp1.db hp1.da hNb hl1 hd1
  have hl2 : (outS l1 now).2.st = 3 := (outS_out l1 now).2.2.2.2.trans hl1
  have hd2 : (recvQ d1 (outQ l1 now) now).st = 3 := by
    rcases hp2.sta.ds with h9 | h9
    · exfalso
      have hq := (recv_open (now := now) hp1.db hp1.da hNb hl1 hd1)
      obtain ⟨t1, ht1, hR⟩ := hq
      rw [hR] at h9
      have : t1.st = d1.st := by
        rw [ht1]
        cases l1.owes
        · rfl
        · exact (ackedS_out _ _ _).2.2.2.2
      simp only [] at h9
      omega
    · exact h9
  have hg : Good l1 now → Half b l1 d1 (outS l1 now).2 (recvQ d1 (outQ l1 now) now) (if l1.owes then ackedS d1 ((l1.inn.length : Int) + (if l1.other then 1 else 0)) now else d1) now := fun g => half_good (now := now) hp1.db hp1.da hNb hl1 hd1 g
  have hng : l1.una = d1.inn.length → ¬ Good l1 now → (recvQ d1 (outQ l1 now) now).inn.length = d1.inn.length ∧ (recvQ d1 (outQ l1 now) now).other = d1.other := fun hu g => not_good (now := now) hp1.db hp1.da hNb hl1 hd1 hu g
  generalize (outS l1 now).2 = l2 at *
  generalize recvQ d1 (outQ l1 now) now = d2 at *
  have k1 := h.da.u0
  have k2 := h.da.un
  have k3 := h.da.nn
  have hfar : d.una = a.length → farT a d.una = a.length := by unfold farT; omega
  have hdu : d2.una = farT a d.una ∧ (d2.endAcked = true ↔ farT a d.una = a.length) := by
    rw [PB.1, PB.2.1]
    rcases HA.tow with h9 | ⟨h7, h8, h9⟩
    · rw [if_pos h9, if_pos h9]
      exact ⟨HA.tinn, HA.toth⟩
    · cases ho : l1.owes
      · simp only [Bool.false_eq_true, if_false]
        rw [HA.una, HA.ea, h8, hfar h7]
        exact ⟨h7, by simp⟩
      · simp only [if_true]
        exact ⟨HA.tinn, HA.toth⟩
  refine ⟨hp2, hd2, hl2, hdu.1, hdu.2, by rw [PB.2.2.1, HA.next], by rw [PB.2.2.2.1]; exact HA.es, by rw [PB.2.2.2.2.1]; exact HA.tinn, by rw [PB.2.2.2.2.2.1]; exact HA.toth, PB.2.2.2.2.2.2.1, PA.1, PA.2.1, PB.2.2.2.2.2.2.2.1, PB.2.2.2.2.2.2.2.2.1, ?_, ?_, ?_⟩
  · intro g
    have HB := hg g
    exact ⟨HB.tinn, HB.toth, HB.next, HB.es, HB.tow.elim .inl (fun h => .inr ⟨h.1, h.2.1⟩), fun h1 h2 => HB.tow2 h1 h2 HA.owes⟩
  · intro g
    -- it was acknowledged just now, or it was time
    have hu : l1.una = d1.inn.length ∧ l1.endAcked = d1.other := by
      cases ho : d.owes
      · exfalso
        apply g
        refine good_of hp1.db (fun hw => ?_)
        have e1 : l1.una = l.una := by rw [PA.1, ho]; rfl
        have e2 : l1.endAcked = l.endAcked := by rw [PA.2.1, ho]; rfl
        have e3 := PA.2.2.1
        have e4 := PA.2.2.2.1
        have hat : l1.at_ = l.at_ := by
          have := HA.tat
          rw [ho] at this
          exact this
        rw [hnl l1 hat]
        refine hTl.waits h.db ?_
        unfold waitsB at hw ⊢
        rw [← e1, ← e2, ← e3, ← e4]
        exact hw
      · rw [PA.1, PA.2.1, ho, HA.inn, HA.oth]
        exact ⟨rfl, rfl⟩
    have h9 := hng hu.1 g
    refine .inr ⟨by rw [PB.2.2.2.2.2.2.2.1, hu.1, h9.1], fun ho => ?_⟩
    rw [PB.2.2.2.2.2.2.2.2.1, hu.2, ← h9.2]
    exact ho
  · intro q
    refine good_of hp1.db (fun hw => ?_)
    have e3 := PA.2.2.1
    have e4 := PA.2.2.2.1
    have hat : l1.at_ = l.at_ → (waitsB l = true) → dueB l1 now = true := fun h1 h2 => by rw [hnl l1 h1]; exact hTl.waits h.db h2
    cases ho : d.owes
    · have e1 : l1.una = l.una := by rw [PA.1, ho]; rfl
      have e2 : l1.endAcked = l.endAcked := by rw [PA.2.1, ho]; rfl
      refine hat ?_ ?_
      · have := HA.tat
        rw [ho] at this
        exact this
      · unfold waitsB at hw ⊢
        rw [← e1, ← e2, ← e3, ← e4]
        exact hw
    · have e1 : l1.una = d.inn.length := by rw [PA.1, ho]; rfl
      have e2 : l1.endAcked = d.other := by rw [PA.2.1, ho]; rfl
      rcases q with ⟨q1, q2⟩ | ⟨q1, q2⟩
      · exfalso
        unfold waitsB at hw
        rw [e1, e2, e3, e4, q1, q2] at hw
        cases hh : l.endSent <;> simp [hh] at hw
      · rcases PA.2.2.2.2.2.2.2.2.2 with h9 | ⟨h9, h8⟩
        · cases hdo : d.other
          · -- nothing new was acknowledged
            have he : l.endAcked = false := by
              cases he : l.endAcked
              · rfl
              · have := (h.db.ea he).1; rw [hdo] at this; exact absurd this (by decide)
            refine hat ?_ ?_
            · have := HA.tat
              rw [ho] at this
              simp only [if_true] at this
              rw [ack_same (t := d) (s := l) now q1 hdo] at this
              exact this
            · unfold waitsB at hw ⊢
              rw [he, q1]
              rw [e1, e2, e3, e4, hdo] at hw
              exact hw
          · exfalso
            have h7 := (h.db.oth hdo)
            have h6 := h.db.es h7.2
            unfold waitsB at hw
            rw [e1, e2, e3, hdo] at hw
            simp at hw
            omega
        · have h7 := h8 ho
          refine hat h9 ?_
          unfold waitsB at hw ⊢
          rw [h7.1, h7.2, ← e1, ← e2, ← e3, ← e4]
          exact hw
end
end Go.Proofs.Ytoeipgbnjcgbjaa
/- Plain laws on two ends: the first round in which all comes; round by round; the end. -/
namespace Go.Proofs.Ytoeipgbnjcgbjaa
open Go.RowKit
set_option linter.unusedVariables false

section
variable {a b : List Int} {s t d l : En} {now : Int}
theorem due_at (now : Int) (s : En) : ∀ x : En, x.at_ = s.at_ → dueB x now = dueB s now := fun x hx => by unfold dueB; rw [hx]
theorem bool_iff {x y : Bool} {P : Prop} (h1 : x = true ↔ P) (h2 : y = true ↔ P) : x = y := by
  cases x <;> cases y
  · rfl
  · exact absurd (h1.2 (h2.1 rfl)) (by decide)
  · exact absurd (h2.2 (h1.1 rfl)) (by decide)
  · rfl
/-- The one that dials is not open yet: behind a round in which all comes both are open. -/
theorem rnd_dial (h : PairI a b d l) (hNa : a.length ≤ 30000) (hNb : b.length ≤ 30000) (hd : d.st = 1) (hT : Tm d now) (hTl : Tm l now) : (rnd d l now).1.st = 3 ∧ (rnd d l now).2.st = 3 ∧ Qd (rnd d l now).1 (rnd d l now).2 := by
  obtain ⟨hp1, hp2⟩ := rnd_pair (now := now) h hNa hNb
  obtain ⟨_, dd, at', hO, _⟩ := dial_form d now hd
  have hQ : outQ d now = [⟨1, d.id, 0, 0, []⟩] := by
    unfold outQ
    rw [if_pos hd, if_pos]
    rcases hT with ⟨_, _, h9⟩ | h9
    · rw [h9]; rfl
    · rw [h9]; simp
  have hL : recvQ l (outQ d now) now = { l with st := 3, owes := true } := by
    rw [hQ]
    show stepS l _ now = _
    rcases h.sta.ls with hl | hl
    · unfold stepS
      rw [if_neg (by simp only []; have := h.da.id; omega), if_neg (by simp only []; decide), if_neg (by omega), if_pos hl]
      unfold listenS
      rw [if_pos rfl]
    · rw [step_open hl _ h.da.id.symm (by simp only []; decide)]
      unfold openS
      rw [if_pos rfl, ← hl]
  obtain ⟨z1, z2, z3, z4⟩ := h.sta.d1 hd
  have hli : l.inn.length = 0 := by have := h.da.nx; omega
  have hlo : l.other = false := by
    cases ho : l.other
    · rfl
    · have := (h.da.oth ho).2; rw [z2] at this; exact absurd this (by decide)
  unfold rnd at hp2 ⊢
  rw [hL, hO] at hp1 hp2 ⊢
  simp only at hp1 hp2 ⊢
  obtain ⟨d1, hd1⟩ : ∃ d1 : En, { d with dialed := dd, at_ := at' } = d1 := ⟨_, rfl⟩
  have e1 : d1.st = 1 := by rw [← hd1]; exact hd
  have e2 : d1.una = d.una := by rw [← hd1]
  rw [hd1] at hp1 hp2 ⊢
  obtain ⟨l1, hl1⟩ : ∃ l1 : En, { l with st := 3, owes := true } = l1 := ⟨_, rfl⟩
  have f1 : l1.st = 3 := by rw [← hl1]
  have f2 : l1.owes = true := by rw [← hl1]
  have f3 : l1.inn = l.inn := by rw [← hl1]
  have f4 : l1.other = l.other := by rw [← hl1]
  have f5 : l1.at_ = l.at_ ∧ waitsB l1 = waitsB l := by rw [← hl1]; exact ⟨rfl, rfl⟩
  rw [hl1] at hp1 hp2 ⊢
  -- the acknowledgment opens
  obtain ⟨rest, hrest⟩ : ∃ rest, outQ l1 now = ⟨2, l1.id, 0, 0, []⟩ :: rest := by
    unfold outQ ackQ
    rw [if_neg (by omega), if_pos f1, if_pos f2, f3, f4, hli, hlo]
    exact ⟨_, rfl⟩
  have hid : d1.id = l1.id := hp1.db.id
  have hsw : recvQ d1 (outQ l1 now) now = recvQ { d1 with st := 3 } (outQ l1 now) now := by
    rw [hrest]
    show recvQ (stepS d1 _ now) rest now = recvQ (stepS { d1 with st := 3 } _ now) rest now
    have g1 : stepS d1 ⟨2, l1.id, 0, 0, []⟩ now = { d1 with st := 3 } := by
      unfold stepS
      rw [if_neg (by simp only []; omega), if_neg (by simp only []; decide), if_pos e1]
      unfold dialS
      rw [if_pos ⟨rfl, rfl⟩]
    have g2 : stepS { d1 with st := 3 } ⟨2, l1.id, 0, 0, []⟩ now = { d1 with st := 3 } := by
      rw [step_open (by rfl) _ (by simp only []; exact hid.symm) (by simp only []; decide)]
      unfold openS
      simp only
      rw [if_neg (by decide), if_pos trivial]
      unfold ackedS
      rw [if_pos (.inl (by simp only []; have := hp1.da.u0; omega))]
    rw [g1, g2]
  have hp3 : PairI a b { d1 with st := 3 } l1 :=
    ⟨hp1.da.send rfl rfl rfl rfl rfl hp1.da.un hp1.da.nn hp1.da.aln hp1.da.nx (fun h' => (hp1.da.oth h').2) hp1.da.es, hp1.db.recv rfl rfl rfl, ⟨.inr rfl, .inr f1, fun _ => f1, fun e => absurd e (by simp only []; decide), hp1.sta.l2⟩⟩
  have hg : Good l1 now := good_of hp3.db (fun hw => by rw [due_at now l l1 f5.1]; exact hTl.waits h.db (f5.2 ▸ hw))
  have HB := half_good (now := now) hp3.db hp3.da hNb f1 rfl hg
  rw [hsw] at hp2 ⊢
  have hl2 : (outS l1 now).2.st = 3 := (outS_out l1 now).2.2.2.2.trans f1
  refine ⟨?_, hl2, .inl ⟨HB.tinn.trans HB.next.symm, bool_iff HB.toth HB.es⟩⟩
  rcases hp2.sta.ds with h9 | h9
  · exfalso
    obtain ⟨t1, ht1, hR⟩ := recv_open (now := now) hp3.db hp3.da hNb f1 rfl
    rw [hR] at h9
    have : t1.st = 3 := by
      rw [ht1]
      cases l1.owes
      · rfl
      · exact (ackedS_out _ _ _).2.2.2.2
    simp only [] at h9
    omega
  · exact h9
/-- Behind j rounds in which all came. -/
structure Lv (a b : List Int) (j : Nat) (d l : En) : Prop where
  one : 1 ≤ j → d.st = 3 ∧ l.st = 3 ∧ Qd d l
  two : 2 ≤ j → Rr d l ∧ min (a.length : Int) (4000 * ((j : Int) - 1)) ≤ d.una ∧ (d.endAcked = true ↔ d.una = a.length) ∧ d.next = d.una ∧ (d.endSent = true ↔ d.una = a.length) ∧ (l.inn.length : Int) = d.una ∧ (l.other = true ↔ d.una = a.length) ∧ l.owes = false ∧
    min (b.length : Int) (4000 * ((j : Int) - 1)) ≤ d.inn.length ∧ (d.other = true ↔ (d.inn.length : Int) = b.length)
  three : 3 ≤ j → (b.length : Int) ≤ 4000 * ((j : Int) - 2) → l.una = b.length ∧ l.endAcked = true ∧ l.next = b.length ∧ d.owes = false
theorem Lv.step {j : Nat} (h : PairI a b d l) (hj : Lv a b j d l) (hNa : a.length ≤ 30000) (hNb : b.length ≤ 30000) (hT : Tm d now) (hTl : Tm l now) : Lv a b (j + 1) (rnd d l now).1 (rnd d l now).2 := by
  cases j with
  | zero =>
    rcases h.sta.ds with hd | hd
    · exact ⟨fun _ => rnd_dial h hNa hNb hd hT hTl, fun h => by omega, fun h => by omega⟩
    · have R := rnd_open h hNa hNb hd hT hTl (due_at now l)
      refine ⟨fun _ => ⟨R.ds, R.ls, ?_⟩, fun h => by omega, fun h => by omega⟩
      by_cases g : Good (recvQ l (outQ d now) now) now
      · obtain ⟨g1, g2, g3, g4, _⟩ := R.good g
        exact .inl ⟨g1.trans g3.symm, bool_iff g2 g4⟩
      · exact R.bad g
  | succ j =>
    obtain ⟨hd, hl, hq⟩ := hj.one (by omega)
    have R := rnd_open h hNa hNb hd hT hTl (due_at now l)
    obtain ⟨g1, g2, g3, g4, g5, g6⟩ := R.good (R.qd hq)
    have k1 := h.da.u0
    have k2 := h.da.un
    have k3 := h.da.nn
    have k4 := h.db.u0
    have k5 := h.db.nx
    have k6 := h.db.nn
    have hu1 : 0 ≤ (recvQ l (outQ d now) now).una ∧ (recvQ l (outQ d now) now).una ≤ b.length := by
      rw [R.l1u]
      have := h.db.un
      cases d.owes
      · simp only [Bool.false_eq_true, if_false]; omega
      · simp only [if_true]; omega
    have hfar : ∀ u : Int, u = b.length → farT b u = b.length := fun u hu => by unfold farT; omega
    refine ⟨fun _ => ⟨R.ds, R.ls, .inl ⟨g1.trans g3.symm, bool_iff g2 g4⟩⟩, fun _ => ⟨?_, ?_, ?_, ?_, ?_, ?_, ?_, R.low, ?_, ?_⟩, fun h3 hb => ?_⟩
    · rcases g5 with g5 | ⟨g5, g7⟩
      · exact .inl g5
      · refine .inr ⟨?_, ?_⟩
        · rw [R.lu, g1, hfar _ g5, g5]
        · rw [R.le, g7, g2.2 (hfar _ g5)]
    · rw [R.una]
      unfold farT
      rcases j with _ | j
      · omega
      · have := (hj.two (by omega)).2.1
        omega
    · rw [R.una]; exact R.ea
    · rw [R.next, R.una]
    · rw [R.una]; exact R.es
    · rw [R.una]; exact R.linn
    · rw [R.una]; exact R.loth
    · rw [g1]
      unfold farT
      rcases j with _ | j
      · omega
      · obtain ⟨h1, _, _, _, _, _, _, _, h2, _⟩ := hj.two (by omega)
        have hu : (recvQ l (outQ d now) now).una = d.inn.length := by
          rw [R.l1u]
          rcases h1 with h1 | h1
          · rw [h1]; rfl
          · split
            · rfl
            · exact h1.1
        omega
    · rw [g1]; exact g2
    · obtain ⟨h1, _, _, _, _, _, _, _, h2, h2'⟩ := hj.two (by omega)
      have hm : (d.inn.length : Int) = b.length := by omega
      have hu : (recvQ l (outQ d now) now).una = b.length ∧ (recvQ l (outQ d now) now).endAcked = true := by
        rw [R.l1u, R.l1e]
        have h7 := h2'.2 hm
        rcases h1 with h1 | h1
        · rw [h1]; exact ⟨hm, h7⟩
        · split
          · exact ⟨hm, h7⟩
          · exact ⟨h1.1.trans hm, h1.2.trans h7⟩
      exact ⟨R.lu.trans hu.1, R.le.trans hu.2, g3.trans (hfar _ hu.1), g6 hu.1 hu.2⟩
/-- All is done. -/
structure Fin2 (a b : List Int) (d l : En) : Prop where
  li : l.inn = a
  di : d.inn = b
  dst : d.st = 3
  lst : l.st = 3
  dea : d.endAcked = true
  lea : l.endAcked = true
  dot : d.other = true
  lot : l.other = true
  dow : d.owes = false
  low : l.owes = false
  dn : d.next = d.una ∧ d.next = d.out.length
  ln : l.next = l.una ∧ l.next = l.out.length
theorem Lv.fin {j : Nat} (h : PairI a b d l) (hj : Lv a b j d l) (h3 : 3 ≤ j) (hA : (a.length : Int) ≤ 4000 * ((j : Int) - 1)) (hB : (b.length : Int) ≤ 4000 * ((j : Int) - 2)) : Fin2 a b d l := by
  obtain ⟨o1, o2, _⟩ := hj.one (by omega)
  obtain ⟨_, t1, t2, t3, t4, t5, t6, t7, t8, t9⟩ := hj.two (by omega)
  obtain ⟨r1, r2, r3, r4⟩ := hj.three h3 hB
  have k1 := h.da.nn
  have k2 := h.db.nx
  have k3 := h.db.nn
  have k4 := h.da.un
  have hu : d.una = a.length := by omega
  have hm : (d.inn.length : Int) = b.length := by omega
  refine ⟨?_, ?_, o1, o2, t2.2 hu, r2, t9.2 hm, t6.2 hu, r4, t7, ⟨t3, by rw [t3, hu, h.da.len]⟩, ⟨r3.trans r1.symm, by rw [r3, h.db.len]⟩⟩
  · rw [h.da.inn, List.take_of_length_le (by omega)]
  · rw [h.db.inn, List.take_of_length_le (by omega)]
/-- Every datagram that an end sends is a good one. -/
theorem dataQ_good (s : En) (h : EnOk s) : ∀ (f p : Nat), p ≤ s.out.length → ∀ q ∈ dataQ s f p, goodSg q ∧ Bytes q.data := by
  intro f
  induction f with
  | zero => intro p _ q hq; cases hq
  | succ f ih =>
    intro p hp q hq
    rw [dataQ] at hq
    split at hq
    · rename_i c
      have hl := h.outl
      have hn : pieceN s p ≤ 400 ∧ pieceN s p ≤ s.out.length - p := ⟨Nat.min_le_left _ _, Nat.min_le_right _ _⟩
      rcases List.mem_cons.1 hq with rfl | hq
      · have hdl : ((s.out.drop p).take (pieceN s p)).length = pieceN s p := by rw [List.length_take, List.length_drop]; omega
        exact ⟨⟨show (1 : Int) ≤ 3 by decide, show (3 : Int) ≤ 5 by decide, h.id, ⟨by simp only []; omega, by simp only []; omega⟩, by simp only []; omega, by simp only []; omega⟩, fun x hx => h.outb x (List.mem_of_mem_drop (List.mem_of_mem_take hx))⟩
      · exact ih (p + pieceN s p) (by omega) q hq
    · cases hq
theorem good_plain (t id seq ack : Int) (ht : 1 ≤ t ∧ t ≤ 5) (hid : 0 ≤ id ∧ id < 4294967296) (hs : 0 ≤ seq ∧ seq < 4294967296) (ha : 0 ≤ ack ∧ ack < 4294967296) : goodSg ⟨t, id, seq, ack, []⟩ ∧ Bytes (⟨t, id, seq, ack, []⟩ : Sg).data :=
  ⟨⟨ht.1, ht.2, hid, hs, ha, by simp⟩, fun x h => by cases h⟩
theorem outQ_good (hs : Dir a s t) (h : EnOk s) (hN : a.length ≤ 30000) : ∀ q ∈ outQ s now, goodSg q ∧ Bytes q.data := by
  intro q hq
  obtain ⟨e1, e2, e3, e4⟩ := hs.end_ now
  have hl := hs.len
  have k1 := hs.u0
  unfold outQ at hq
  split at hq
  · split at hq
    · rw [List.mem_singleton.1 hq]
      exact good_plain _ _ _ _ (by decide) h.id (by decide) (by decide)
    · cases hq
  split at hq
  · rcases List.mem_append.1 hq with hq | hq
    · rcases List.mem_append.1 hq with hq | hq
      · unfold ackQ at hq
        split at hq
        · rw [List.mem_singleton.1 hq]
          have := h.innl
          exact good_plain _ _ _ _ (by decide) h.id (by decide) (by split <;> omega)
        · cases hq
      · exact dataQ_good s h _ _ (by omega) q hq
    · unfold finQ at hq
      split at hq
      · rename_i c
        simp only [Bool.and_eq_true, decide_eq_true_eq] at c
        rw [List.mem_singleton.1 hq]
        exact good_plain _ _ _ _ (by decide) h.id (by rw [c.2]; omega) (by decide)
      · cases hq
  · cases hq
theorem inS_seg (t : En) (q : Sg) (now : Int) (h : goodSg q ∧ Bytes q.data) : inS t (segL q) now = stepS t q now := by
  have := parse_seg q h.1 h.2
  unfold inS
  rw [if_pos this.1, this.2]
/-- The time of an end's last sending. -/
theorem outS_at (hs : Dir a s t) (hst : s.st = 1 ∨ s.st = 2 ∨ s.st = 3) (h : s.at_ ≤ now) : (outS s now).2.at_ ≤ now := by
  rcases hst with hst | hst | hst
  · obtain ⟨_, d, at', h2, h3⟩ := dial_form s now hst
    rw [h2]
    simp only []
    omega
  · rw [(none_form s now hst).2]; exact h
  · obtain ⟨_, at', h2, h3⟩ := open_form s now hst hs.cl
    rw [h2]
    simp only []
    omega
theorem ackedS_at (s : En) (n now : Int) (h : s.at_ ≤ now) : (ackedS s n now).at_ ≤ now := by
  unfold ackedS
  split
  · exact h
  · split <;> exact Int.le_refl _
theorem stepS_at (s : En) (q : Sg) (now : Int) (h : s.at_ ≤ now) : (stepS s q now).at_ ≤ now := by
  unfold stepS
  split
  · exact h
  split
  · exact h
  split
  · unfold dialS; split <;> exact h
  split
  · unfold listenS; split <;> exact h
  unfold openS
  split
  · exact h
  split
  · exact ackedS_at s _ now h
  split
  · unfold dataS; split <;> exact h
  split
  · split <;> exact h
  · exact h
theorem Tm.next (h : s.at_ ≤ now) (hn : now ≤ 1000000) : Tm s (now + 8) := by
  right
  unfold dueB
  simp only [Bool.and_eq_true, decide_eq_true_eq]
  omega
end
end Go.Proofs.Ytoeipgbnjcgbjaa
