/- StreamOrder, plain: what holds of both sides' lists behind each kind of step. -/
import Derived.Test.YtoeipgbnjcgbjaaOrdM
namespace Go.Proofs.Ytoeipgbnjcgbjaa
open Go.RowKit
set_option linter.unusedVariables false

theorem i64_and1 (n : Int) : bits .and .i64 n 1 = n % 2 := by
  have h127 : (BitVec.ofInt 64 1).toNat = 2 ^ 1 - 1 := by decide
  have key : (BitVec.ofInt 64 n &&& BitVec.ofInt 64 1).toNat = (n % ((2 ^ 64 : Nat) : Int)).toNat % 2 ^ 1 := by
    rw [BitVec.toNat_and, BitVec.toNat_ofInt, h127, Nat.and_two_pow_sub_one_eq_mod]
  show IntKind.i64.wrap ((BitVec.ofInt 64 n &&& BitVec.ofInt 64 1).toNat : Nat) = n % 2
  rw [key, IntKind.wrap_i64]
  omega
theorem i64_and15 (n : Int) : bits .and .i64 n 15 = n % 16 := by
  have h127 : (BitVec.ofInt 64 15).toNat = 2 ^ 4 - 1 := by decide
  have key : (BitVec.ofInt 64 n &&& BitVec.ofInt 64 15).toNat = (n % ((2 ^ 64 : Nat) : Int)).toNat % 2 ^ 4 := by
    rw [BitVec.toNat_and, BitVec.toNat_ofInt, h127, Nat.and_two_pow_sub_one_eq_mod]
  show IntKind.i64.wrap ((BitVec.ofInt 64 n &&& BitVec.ofInt 64 15).toNat : Nat) = n % 16
  rw [key, IntKind.wrap_i64]
  omega
theorem dataL_len (s : En) : ∀ (f p : Nat), (dataL s f p).1.length ≤ f := by
  intro f
  induction f with
  | zero => intro p; exact Nat.le_refl _
  | succ f ih =>
    intro p
    rw [dataL]
    split
    · simp only [List.length_cons]; have := ih (p + pieceN s p); omega
    · exact Nat.zero_le _
theorem outS_len (s : En) (now : Int) (h : EnOk s) : (outS s now).1.length ≤ 1048578 := by
  have h1 := h.outl
  unfold outS
  split
  · split <;> simp
  split
  · unfold sendsS
    simp only [List.length_append]
    have e1 := sends1_out s now
    have e2 := sends2_out (sends1 s now)
    have a1 : (sends2 (sends1 s now)).1.length ≤ 1 := by unfold sends2; split <;> simp
    have a2 : (sends3 (sends2 (sends1 s now)).2).1.length ≤ s.out.length := by
      have := dataL_len (sends2 (sends1 s now)).2 (sends2 (sends1 s now)).2.out.length (sends2 (sends1 s now)).2.next.toNat
      rw [e2.1, e1.1] at this
      unfold sends3
      rw [e2.1, e1.1]
      exact this
    have a3 : (sends4 (sends3 (sends2 (sends1 s now)).2).2).1.length ≤ 1 := by unfold sends4; split <;> simp
    omega
  · simp
theorem stepS_grow (s : En) (q : Sg) (now : Int) : s.inn <+: (stepS s q now).inn := by
  unfold stepS
  split
  · exact List.prefix_refl _
  split
  · exact List.prefix_refl _
  split
  · unfold dialS; split <;> exact List.prefix_refl _
  split
  · unfold listenS; split <;> exact List.prefix_refl _
  unfold openS
  split
  · exact List.prefix_refl _
  split
  · rw [(ackedS_out s q.ack now).2.1]; exact List.prefix_refl _
  split
  · unfold dataS; split
    · exact List.prefix_append _ _
    · exact List.prefix_refl _
  split
  · split <;> exact List.prefix_refl _
  · exact List.prefix_refl _
theorem inS_grow (s : En) (b : List Int) (now : Int) : s.inn <+: (inS s b now).inn := by
  unfold inS
  split
  · exact stepS_grow s _ now
  · exact List.prefix_refl _

/-- Amid a round: what came in may not have been read yet. -/
structure PlM (N : Nat) (a b : Sd) : Prop where
  t : a.tl = a.s.out
  r : a.rl ++ (readS a.s).1 = a.s.inn
  pre : a.s.inn <+: b.s.out
  sent : ∀ d ∈ a.way, SentBy b.s.out d
  wl : a.way.length ≤ 1048600 * N
  b : PlS N b a.s.out
section
variable {N : Nat} {a b : Sd}
theorem PlS.more {o : List Int} (h : PlS N a o) (x : List Int) : PlS (N + 1) a (o ++ x) :=
  ⟨h.t, h.r, h.rd, h.pre.trans (List.prefix_append _ _), fun d hd => (h.sent d hd).more x, by have := h.wl; omega⟩
theorem PlS.next {o : List Int} (h : PlS N a o) : PlS (N + 1) a o := ⟨h.t, h.r, h.rd, h.pre, h.sent, by have := h.wl; omega⟩
theorem PlS.read {o : List Int} (h : PlS N a o) : a.rl ++ (readS a.s).1 = a.s.inn := by
  have hx : (readS a.s).1 = a.s.inn.drop a.s.read.toNat := rfl
  rw [hx, h.rd, Int.toNat_natCast, List.drop_length, List.append_nil, h.r]
/-- Nothing that counts has changed. -/
theorem Pl.same (h : Pl N a b) {s' : En} {vo vi : Value} (h1 : s'.out = a.s.out) (h2 : s'.inn = a.s.inn) (h3 : s'.read = a.s.read) : PlM (N + 1) { a with s := s', vo := vo, vi := vi } b := by
  refine ⟨h.1.t.trans h1.symm, ?_, h2 ▸ h.1.pre, h.1.sent, by have := h.1.wl; show a.way.length ≤ _; omega, h1 ▸ h.2.next⟩
  have := h.1.read
  show a.rl ++ s'.inn.drop s'.read.toNat = s'.inn
  rw [h2, h3]
  exact this
theorem Pl.mid (h : Pl N a b) : PlM (N + 1) a b := h.same rfl rfl rfl
theorem Pl.wrote (h : Pl N a b) (xs : List Int) (hw : (writeS a.s xs).1 = 0) (vo vi vt : Value) : PlM (N + 1) { a with s := (writeS a.s xs).2, vo := vo, vi := vi, vt := vt, tl := a.tl ++ xs } b ∧ (writeS a.s xs).2.out = a.s.out ++ xs := by
  have key : (writeS a.s xs).2 = { a.s with out := a.s.out ++ xs } := by
    unfold writeS at hw ⊢
    split
    · rename_i h1; rw [if_pos h1] at hw; cases hw
    · rename_i h1
      rw [if_neg h1] at hw
      split
      · rename_i h2; rw [if_pos h2] at hw; cases hw
      · rename_i h2
        rw [if_neg h2] at hw
        split
        · rename_i h3; rw [if_pos h3] at hw; cases hw
        · rfl
  rw [key]
  refine ⟨⟨by show a.tl ++ xs = a.s.out ++ xs; rw [h.1.t], h.1.read, h.1.pre, h.1.sent, by have := h.1.wl; show a.way.length ≤ _; omega, h.2.more xs⟩, rfl⟩
theorem Pl.notWrote (h : Pl N a b) (xs : List Int) (hw : (writeS a.s xs).1 ≠ 0) (vo vi : Value) : PlM (N + 1) { a with s := (writeS a.s xs).2, vo := vo, vi := vi } b := by
  have key : (writeS a.s xs).2 = a.s := by
    unfold writeS at hw ⊢
    split
    · rfl
    · rename_i h1
      rw [if_neg h1] at hw
      split
      · rfl
      · rename_i h2
        rw [if_neg h2] at hw
        split
        · rfl
        · rename_i h3; rw [if_neg h3] at hw; exact absurd rfl hw
  rw [key]
  exact h.same rfl rfl rfl
theorem closeS_out (s : En) : (closeS s).2.out = s.out ∧ (closeS s).2.inn = s.inn ∧ (closeS s).2.read = s.read := by unfold closeS; split <;> exact ⟨rfl, rfl, rfl⟩
theorem Pl.out (h : Pl N a b) (now : Int) (hok : EnOk a.s) (hn : (Lit.int .i64 now).wf = true) (vo vi vw : Value) :
    PlM (N + 1) { a with s := (outS a.s now).2, vo := vo, vi := vi } { b with vw := vw, way := b.way ++ (outS a.s now).1 } := by
  have ho := outS_out a.s now
  have h1 := h.same (s' := (outS a.s now).2) (vo := vo) (vi := vi) ho.1 ho.2.1 ho.2.2.1
  refine ⟨h1.t, h1.r, h1.pre, h1.sent, h1.wl, ⟨h1.b.t, h1.b.r, h1.b.rd, h1.b.pre, ?_, ?_⟩⟩
  · intro d hd
    rcases List.mem_append.1 hd with hd | hd
    · exact h1.b.sent d hd
    · have := outS_sent a.s now hok hn d hd
      show SentBy (outS a.s now).2.out d
      rwa [ho.1]
  · have := h.2.wl
    have := outS_len a.s now hok
    show (b.way ++ (outS a.s now).1).length ≤ _
    rw [List.length_append]
    omega
theorem Pl.took (h : Pl N a b) (d : List Int) (hd : d ∈ a.way) (now : Int) (vo vi : Value) : PlM (N + 1) { a with s := inS a.s d now, vo := vo, vi := vi } b := by
  have hi := inS_out a.s d now
  refine ⟨h.1.t.trans hi.1.symm, ?_, inS_prefix a.s d now b.s.out (h.1.sent d hd) h.1.pre, h.1.sent, by have := h.1.wl; show a.way.length ≤ _; omega, hi.1 ▸ h.2.next⟩
  show a.rl ++ (inS a.s d now).inn.drop (inS a.s d now).read.toNat = (inS a.s d now).inn
  rw [hi.2.1, h.1.rd, Int.toNat_natCast, h.1.r]
  obtain ⟨t, ht⟩ := inS_grow a.s d now
  rw [← ht, List.drop_left]
theorem PlM.cut (h : PlM N a b) (m : Nat) (vw : Value) : PlM N { a with vw := vw, way := a.way.take m ++ a.way.drop (m + 1) } b := by
  refine ⟨h.t, h.r, h.pre, fun d hd => h.sent d ?_, ?_, h.b⟩
  · rcases List.mem_append.1 hd with hd | hd
    · exact List.mem_of_mem_take hd
    · exact List.mem_of_mem_drop hd
  · have := h.wl
    show (a.way.take m ++ a.way.drop (m + 1)).length ≤ _
    rw [List.length_append, List.length_take, List.length_drop]
    omega
theorem Pl.twice (h : Pl N a b) (d : List Int) (hd : d ∈ a.way) (vw : Value) : PlM (N + 1) { a with vw := vw, way := a.way ++ [d] } b := by
  have h1 := h.mid
  refine ⟨h1.t, h1.r, h1.pre, fun x hx => ?_, ?_, h1.b⟩
  · rcases List.mem_append.1 hx with hx | hx
    · exact h1.sent x hx
    · rw [List.mem_singleton.1 hx]; exact h1.sent d hd
  · have := h.1.wl
    show (a.way ++ [d]).length ≤ _
    rw [List.length_append]
    simp only [List.length_singleton]
    omega
/-- Behind the reading. -/
theorem PlM.read (h : PlM N a b) (vo vi vr : Value) : Pl N { a with s := (readS a.s).2, vo := vo, vi := vi, vr := vr, rl := a.rl ++ (readS a.s).1 } b :=
  ⟨⟨h.t, h.r, rfl, h.pre, h.sent, h.wl⟩, h.b⟩
/-- What is compared: the beginning of what was written. -/
theorem Pl.asked (h : Pl N a b) : a.rl.length ≤ b.tl.length ∧ b.tl.take a.rl.length = a.rl := by
  have h1 := h.1.pre
  rw [← h.1.r, ← h.2.t] at h1
  exact ⟨h1.length_le, (List.prefix_iff_eq_take.1 h1).symm⟩
theorem OrdRel.of {tE tW tT : TypeId} {W w : World} {q : Bk} {n k j : Nat} {f : Nat → Nat} {now : Int} (hN : N ≤ n) (h5 : N ≤ 150) (h0 : 0 ≤ now) (h1 : now ≤ 15 * N) (hM : Mem tE tW tT W.heap.size W w f k j q a b) (hP : Pl N a b) : OrdRel tE tW tT W q n (.int .i64 now) (.int .i64 N) w := by
  rcases hM.kj with ⟨rfl, rfl⟩ | ⟨rfl, rfl⟩
  · exact ⟨N, now, f, a, b, rfl, rfl, hN, h5, h0, h1, hM, hP⟩
  · exact ⟨N, now, f, b, a, rfl, rfl, hN, h5, h0, h1, hM.swap, hP.swap⟩
/-- The sides, as the round sees them: k's first. -/
theorem roles {tE tW tT : TypeId} {W w : World} {q : Bk} {k : Nat} {f : Nat → Nat} (hk : k ≤ 1) (hM : Mem tE tW tT W.heap.size W w f 0 1 q a b) (hP : Pl N a b) : ∃ j a' b', Mem tE tW tT W.heap.size W w f k j q a' b' ∧ Pl N a' b' := by
  have : k = 0 ∨ k = 1 := by omega
  rcases this with rfl | rfl
  · exact ⟨1, a, b, hM, hP⟩
  · exact ⟨0, b, a, hM.swap, hP.swap⟩
end
/-- The round's own operation, copied. -/
def opF (kd who ix : Int) (v : Value) (i : Nat) : Value := if i = 0 then .int .i64 kd else if i = 1 then .int .i64 who else if i = 2 then .int .i64 ix else v
theorem opF_cells (kd who ix : Int) (v : Value) : ∀ i, i < (#[.int .i64 kd, .int .i64 who, .int .i64 ix, v] : Array Value).size → (#[.int .i64 kd, .int .i64 who, .int .i64 ix, v] : Array Value)[i]? = some (opF kd who ix v i) := by
  intro i hi
  have hi : i < 4 := hi
  have : i = 0 ∨ i = 1 ∨ i = 2 ∨ i = 3 := by omega
  rcases this with rfl | rfl | rfl | rfl <;> rfl
/-- What the walk carries within a round. -/
structure St (tE tW tT tO : TypeId) (W w : World) (q : Bk) (ob k j : Nat) (a b : Sd) (F : Nat → Value) : Prop where
  m : ∃ f, Mem tE tW tT W.heap.size W w f k j q a b ∧ f ob = 5
  c : Cel w ob tO 4 F
section
variable {tE tW tT tO : TypeId} {W w w' : World} {q : Bk} {ob k j : Nat} {a b a' b' : Sd} {F : Nat → Value}
theorem St.below (h : St tE tW tT tO W w q ob k j a b F) (hb : Below w.heap.size w w') : St tE tW tT tO W w' q ob k j a b F := by
  obtain ⟨⟨f, hM, h5⟩, hc⟩ := h
  exact ⟨⟨f, hM.below hb, h5⟩, hc.below hb hc.blk⟩
theorem St.next (h : St tE tW tT tO W w q ob k j a b F) (hn : ∀ f, Mem tE tW tT W.heap.size W w f k j q a b → ∃ f', Mem tE tW tT W.heap.size W w' f' k j q a' b' ∧ Keep w f w' f') : St tE tW tT tO W w' q ob k j a' b' F := by
  obtain ⟨⟨f, hM, h5⟩, hc⟩ := h
  obtain ⟨f', hM', hK⟩ := hn f hM
  obtain ⟨h1, h2⟩ := hK ob tO 4 F hc h5
  exact ⟨⟨f', hM', h2⟩, h1⟩
theorem St.new {cs : Array Value} {f : Nat → Nat} (h : Mem tE tW tT W.heap.size W w f k j q a b) (hcs : cs.size = 4) (hF : ∀ i, i < cs.size → cs[i]? = some (F i)) : St tE tW tT tO W (w.alloc (.cells cs tO)) q w.heap.size k j a b F := by
  have hb : Below w.heap.size w (w.alloc (.cells cs tO)) := (Below.refl _ _).alloc (Nat.le_refl _) _
  have h1 := h.below hb
  have hsz := h.size
  have hold : ∀ x, x < w.heap.size → relab f w.heap.size 5 x = f x := fun x hx => relab_old hx
  have hz := h.blk
  have hc : Chg (fun _ => False) w (w.alloc (.cells cs tO)) := Chg.of_below hb
  refine ⟨⟨relab f w.heap.size 5, ⟨h.sa.move hc (fun _ _ h => h.elim) hold, h.sb.move hc (fun _ _ h => h.elim) hold, h1.ce, h1.cw, h1.ct, h1.cr, (hold _ hz.1).trans h.fe, (hold _ hz.2.1).trans h.fw, (hold _ hz.2.2.1).trans h.ft, (hold _ hz.2.2.2).trans h.fr, ?_, h1.bel, h.kj⟩, relab_new (Nat.le_refl _)⟩, ?_⟩
  · intro x hx
    by_cases hlt : x < w.heap.size
    · exact h.low x (by rwa [hold x hlt] at hx)
    · omega
  · have := Cel.new w tO cs F hF
    rwa [hcs] at this
theorem St.cW (h : St tE tW tT tO W w q ob k j a b F) : w.cell? ⟨q.wb, k, none⟩ = some a.vw := by obtain ⟨⟨f, hM, _⟩, _⟩ := h; exact hM.cellW
theorem St.cWj (h : St tE tW tT tO W w q ob k j a b F) : w.cell? ⟨q.wb, j, none⟩ = some b.vw := by obtain ⟨⟨f, hM, _⟩, _⟩ := h; exact hM.swap.cellW
theorem St.cE (h : St tE tW tT tO W w q ob k j a b F) : w.cell? ⟨q.eb, k, none⟩ = some (.pointer (some ⟨a.g, 0, none⟩)) := by obtain ⟨⟨f, hM, _⟩, _⟩ := h; exact hM.cellE
theorem St.cT (h : St tE tW tT tO W w q ob k j a b F) : w.cell? ⟨q.tb, k, none⟩ = some a.vt := by obtain ⟨⟨f, hM, _⟩, _⟩ := h; exact hM.cellT
theorem St.cTj (h : St tE tW tT tO W w q ob k j a b F) : w.cell? ⟨q.tb, j, none⟩ = some b.vt := by obtain ⟨⟨f, hM, _⟩, _⟩ := h; exact hM.swap.cellT
theorem St.cR (h : St tE tW tT tO W w q ob k j a b F) : w.cell? ⟨q.rb, k, none⟩ = some a.vr := by obtain ⟨⟨f, hM, _⟩, _⟩ := h; exact hM.cellR
theorem St.cO (h : St tE tW tT tO W w q ob k j a b F) (i : Nat) (hi : i < 4) : w.cell? ⟨ob, i, none⟩ = some (F i) := h.c.cell i hi
theorem St.wo (h : St tE tW tT tO W w q ob k j a b F) : ∃ A c, a.vw = .slice A a.way.length c := by
  obtain ⟨⟨f, hM, _⟩, _⟩ := h
  obtain ⟨vs, ho, _⟩ := hM.sa.wo
  exact ho.shape
theorem St.drew (h : St tE tW tT tO W w q ob k j a b F) (n : Nat) : St tE tW tT tO W (w.drewN n) q ob k j a b F := h.below (Below.drewN (Below.refl _ _) n)
theorem St.kj (h : St tE tW tT tO W w q ob k j a b F) : (k = 0 ∧ j = 1) ∨ (k = 1 ∧ j = 0) := by obtain ⟨⟨f, hM, _⟩, _⟩ := h; exact hM.kj
theorem St.mem (h : St tE tW tT tO W w q ob k j a b F) : ∃ f, Mem tE tW tT W.heap.size W w f k j q a b := ⟨h.m.choose, h.m.choose_spec.1⟩
end
end Go.Proofs.Ytoeipgbnjcgbjaa
