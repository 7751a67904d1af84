/- (*stream.End).say; lists of datagrams in memory. -/
import Derived.Test.YtoeipgbnjcgbjaaEnd1
namespace Go.Proofs.Ytoeipgbnjcgbjaa
open Go.RowKit
set_option linter.unusedVariables false

set_option maxRecDepth 100000 in
set_option maxHeartbeats 1000000 in
theorem say_any (g : Nat) (s : En) (vo vi : Value) (q : Sg) (A : Option Addr) (c : Nat) (w : World) (h : EnAt g w s vo vi) (hid : 0 ≤ s.id ∧ s.id < 4294967296) (hI : Ints .u8 w A q.data) (hb : Bytes q.data) (hc : q.data.length ≤ c) (hsz : c ≤ 9223372036854775807) :
    Calls Try.prog 56 #[.pointer (some ⟨g, 0, none⟩), segV q A c] w (SegPost w { q with id := s.id }) := by
  have c0 := h.c0
  have hg := h.blk
  obtain ⟨t, id, seq, ack, data⟩ := q
  simp only [segV] at hI hb hc ⊢
  have hw : IntKind.i64.wrap s.id = s.id := IntWalk.i64_in _ (by omega)
  have hx : (w.alloc (.cells #[.int .i64 t, .int .i64 id, .int .i64 seq, .int .i64 ack, .slice A data.length c] 24)).cell? ⟨g, 0, none⟩ = some (.int .u32 s.id) := (World.cell?_alloc_lt w _ ⟨g, 0, none⟩ hg).trans c0
  clear h hid
  generalize s.id = sid at *
  go_enter Try.func56, Try.ntmps56
  go_wp2_with fail
  have hbel : Below w.heap.size w (w.alloc (.cells #[.int .i64 t, .int .i64 sid, .int .i64 seq, .int .i64 ack, .slice A data.length c] 24)) := (Below.refl _ _).alloc (Nat.le_refl _) _
  refine (segment_any ⟨t, sid, seq, ack, data⟩ A c _ (hI.below hbel) hb hc hsz).mono ?_
  rintro e w2 ⟨A2, rfl, ho2, hb2⟩
  go_wp2
  go_ret
  exact ⟨A2, rfl, ho2.base_ (by simp), hbel.trans (hb2.mono (by simp))⟩

theorem OwnS.ne_own {w : World} {base base' : Nat} {e e' : TypeId} {size size' n n' : Nat} {v v' : Value} {xs xs' : List Value} (h : OwnS w base e size v n xs) (h' : OwnS w base' e' size' v' n' xs') (hne : e ≠ e') : ∀ k, v.ownBlock = some k → v'.ownBlock ≠ some k := by
  intro k hk hk'
  rcases h.2 with ⟨rfl, _⟩ | ⟨g, off, cap, cur, rfl, _, ⟨fr, hh, _⟩, _⟩
  · simp [Value.ownBlock] at hk
  · rcases h'.2 with ⟨rfl, _⟩ | ⟨g', off', cap', cur', rfl, _, ⟨fr', hh', _⟩, _⟩
    · simp [Value.ownBlock] at hk'
    · simp [Value.ownBlock] at hk hk'
      subst hk; subst hk'
      rw [hh] at hh'
      injection hh' with hh'
      injection hh' with _ h2
      exact hne h2
/-- The slice v of byte slices reads as the datagrams ls, all of them in blocks from B on. -/
def OutsAt (B : Nat) (w : World) (v : Value) (ls : List (List Int)) : Prop :=
  ∃ vs : List Value, OwnS w B 22 1 v ls.length vs ∧ ∀ i, i < ls.length → ∃ A, vs[i]? = some (.slice A (ls.getD i []).length (ls.getD i []).length) ∧ OwnS w B 5 1 (.slice A (ls.getD i []).length (ls.getD i []).length) (ls.getD i []).length ((ls.getD i []).map (Value.int .u8))
section
variable {B : Nat} {w w' : World} {v : Value} {ls : List (List Int)}
theorem OutsAt.nil (B : Nat) (w : World) : OutsAt B w (.slice none 0 0) [] := ⟨[], OwnS.nil _ _ _ _, fun i h => by simp at h⟩
theorem OutsAt.chg {S : Nat → Prop} (h : OutsAt B w v ls) (hc : Chg S w w') (hS : ∀ k, B ≤ k → ¬ S k) : OutsAt B w' v ls := by
  obtain ⟨vs, ho, hi⟩ := h
  refine ⟨vs, ho.chg hc (fun k hk => hS k (ho.lt k hk).1), fun i hl => ?_⟩
  obtain ⟨A, h1, h2⟩ := hi i hl
  exact ⟨A, h1, h2.chg hc (fun k hk => hS k (h2.lt k hk).1)⟩
theorem OutsAt.below (h : OutsAt B w v ls) (hb : Below w.heap.size w w') : OutsAt B w' v ls := h.chg (S := fun _ => False) (Chg.of_below hb) (fun _ _ h => h)
theorem OutsAt.base_ {B' : Nat} (h : OutsAt B w v ls) (hb : B' ≤ B) : OutsAt B' w v ls := by
  obtain ⟨vs, ho, hi⟩ := h
  refine ⟨vs, ho.base_ hb, fun i hl => ?_⟩
  obtain ⟨A, h1, h2⟩ := hi i hl
  exact ⟨A, h1, h2.base_ hb⟩
theorem OutsAt.shape (h : OutsAt B w v ls) : ∃ A c, v = .slice A ls.length c := by
  obtain ⟨vs, ho, _⟩ := h
  exact ho.shape
theorem OutsAt.clip {A : Option Addr} {n c : Nat} (h : OutsAt B w (.slice A n c) ls) (hn : ls.length = n) : OutsAt B w (.slice A n n) ls := by
  subst hn
  obtain ⟨vs, ho, hi⟩ := h
  exact ⟨vs, ho.clip, hi⟩
end
theorem Try.info_bs : (Try.prog.info? 22).map (fun i => (i.zero, i.size, i.bytes)) = some (some (.slice none 0 0), 1, 24) := by kernel_rfl
/-- append of one datagram: the new element lies in a block of its own. -/
theorem wpList_outs {ops : Array Oper} {rest : List Oper} {o : Oper} {a : Act} {Q : Exit → Act → World → Prop} {B : Nat} {w : World} {v : Value} {ls : List (List Int)} {A : Option Addr} {x : List Int} (hgd : o.guard = none) (s y : Operand)
    (ho : o.op = .call { callee := .builtin .append, args := #[s, y], argTypes := #[36, 36] })
    (hs : a.eval s = v) (hy : a.eval y = .slice (some ⟨w.heap.size, 0, none⟩) 1 1) (hO : OutsAt B w v ls) (hx : OwnS w B 5 1 (.slice A x.length x.length) x.length (x.map (Value.int .u8))) (hB : B ≤ w.heap.size) (hl : ls.length ≤ 2000000)
    (h : ∀ A2 c2 w', OutsAt B w' (.slice A2 (ls.length + 1) c2) (ls ++ [x]) → Chg (fun k => B ≤ k) w w' → wpList Try.prog ops Q rest (a.put o.dst (.slice A2 (ls.length + 1) c2)) w') :
    wpList Try.prog ops Q (o :: rest) a (w.alloc (.cells #[.slice A x.length x.length] 22)) := by
  obtain ⟨i0, hi, hz0, hz1, hz2⟩ := info_parts Try.info_bs
  obtain ⟨vs, hov, hiv⟩ := hO
  refine wpList_append_S hgd s y 36 36 ho i0 (.slice none 0 0) 24 (.slice 22) Try.underlying36 Try.underlying36 (fun _ h => by cases h) hi hz0 hz1 hz2 rfl hs hy (hov.alloc _) (Src.one_new (u := .slice A x.length x.length) rfl) (by unfold maxLen; omega) (by omega) (by simp; omega) ?_
  intro A2 c2 w2 ho2 hg2 hw2
  have hc : Chg (fun k => v.ownBlock = some k) (w.alloc (.cells #[.slice A x.length x.length] 22)) w2 := Chg.of_grown hg2 (fun k hk => hk)
  have hlen := hov.1
  rw [Nat.mul_one] at hlen
  refine h A2 c2 w2 ⟨vs ++ [.slice A x.length x.length], by rw [List.length_append]; exact ho2, fun i hi => ?_⟩ ?_
  · rw [List.length_append] at hi
    simp only [List.length_singleton] at hi
    by_cases e : i < ls.length
    · obtain ⟨A', h1, h2⟩ := hiv i e
      have hg : (ls ++ [x]).getD i [] = ls.getD i [] := by simp [List.getD_eq_getElem?_getD, List.getElem?_append_left e]
      rw [hg, List.getElem?_append_left (by omega)]
      exact ⟨A', h1, (h2.alloc _).chg hc (fun k hk hk' => (h2.ne_own hov (by decide)) k hk hk')⟩
    · obtain rfl : i = ls.length := by omega
      have hg : (ls ++ [x]).getD ls.length [] = x := by simp [List.getD_eq_getElem?_getD]
      rw [hg, List.getElem?_append_right (by omega), hlen]
      exact ⟨A, by simp, (hx.alloc _).chg hc (fun k hk hk' => (hx.ne_own hov (by decide)) k hk hk')⟩
  · exact (Chg.of_below ((Below.refl _ _).alloc (Nat.le_refl _) _)).trans hc (fun k _ hk => (hov.lt k hk).1)
/-- The same at a step of a region that draws. -/
theorem step_outs {ops : Array Oper} {o : Oper} {a : Act} {K : Act → World → Prop} {Q : Exit → Act → World → Prop} {E : Prop} {B : Nat} {w : World} {v : Value} {ls : List (List Int)} {A : Option Addr} {x : List Int} (hgd : o.guard = none) (s y : Operand)
    (ho : o.op = .call { callee := .builtin .append, args := #[s, y], argTypes := #[36, 36] })
    (hs : a.eval s = v) (hy : a.eval y = .slice (some ⟨w.heap.size, 0, none⟩) 1 1) (hO : OutsAt B w v ls) (hx : OwnS w B 5 1 (.slice A x.length x.length) x.length (x.map (Value.int .u8))) (hB : B ≤ w.heap.size) (hl : ls.length ≤ 2000000)
    (h : ∀ A2 c2 w', OutsAt B w' (.slice A2 (ls.length + 1) c2) (ls ++ [x]) → Chg (fun k => B ≤ k) w w' → K (a.put o.dst (.slice A2 (ls.length + 1) c2)) w') :
    if Region.wanted o (yielded ops a.tmps) = true then Oper.wp Try.prog o a (w.alloc (.cells #[.slice A x.length x.length] 22)) K Q else E := by
  obtain ⟨i0, hi, hz0, hz1, hz2⟩ := info_parts Try.info_bs
  obtain ⟨vs, hov, hiv⟩ := hO
  refine step_append_S hgd s y 36 36 ho i0 (.slice none 0 0) 24 (.slice 22) Try.underlying36 Try.underlying36 (fun _ h => by cases h) hi hz0 hz1 hz2 rfl hs hy (hov.alloc _) (Src.one_new (u := .slice A x.length x.length) rfl) (by unfold maxLen; omega) (by omega) (by simp; omega) ?_
  intro A2 c2 w2 ho2 hg2 hw2
  have hc : Chg (fun k => v.ownBlock = some k) (w.alloc (.cells #[.slice A x.length x.length] 22)) w2 := Chg.of_grown hg2 (fun k hk => hk)
  have hlen := hov.1
  rw [Nat.mul_one] at hlen
  refine h A2 c2 w2 ⟨vs ++ [.slice A x.length x.length], by rw [List.length_append]; exact ho2, fun i hi => ?_⟩ ?_
  · rw [List.length_append] at hi
    simp only [List.length_singleton] at hi
    by_cases e : i < ls.length
    · obtain ⟨A', h1, h2⟩ := hiv i e
      have hg : (ls ++ [x]).getD i [] = ls.getD i [] := by simp [List.getD_eq_getElem?_getD, List.getElem?_append_left e]
      rw [hg, List.getElem?_append_left (by omega)]
      exact ⟨A', h1, (h2.alloc _).chg hc (fun k hk hk' => (h2.ne_own hov (by decide)) k hk hk')⟩
    · obtain rfl : i = ls.length := by omega
      have hg : (ls ++ [x]).getD ls.length [] = x := by simp [List.getD_eq_getElem?_getD]
      rw [hg, List.getElem?_append_right (by omega), hlen]
      exact ⟨A, by simp, (hx.alloc _).chg hc (fun k hk hk' => (hx.ne_own hov (by decide)) k hk hk')⟩
  · exact (Chg.of_below ((Below.refl _ _).alloc (Nat.le_refl _) _)).trans hc (fun k _ hk => (hov.lt k hk).1)
end Go.Proofs.Ytoeipgbnjcgbjaa
