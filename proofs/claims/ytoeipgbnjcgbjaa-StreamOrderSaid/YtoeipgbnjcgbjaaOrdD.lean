/- StreamOrder: what holds between the operations of the regions that draw their order. -/
import Derived.Test.YtoeipgbnjcgbjaaOrdC
import Derived.Test.YtoeipgbnjcgbjaaPh
namespace Go.Proofs.Ytoeipgbnjcgbjaa
open Go.RowKit
set_option linter.unusedVariables false

section
variable {P : Program} {w : World}
theorem Src.owns {base : Nat} {e : TypeId} {n c : Nat} {A : Option Addr} {us : List Value} (h : OwnS w base e 1 (.slice A n c) n us) (h1 : ∀ u ∈ us, u.oneCell' = true) : Src P w 1 (.slice A n c) n us := by
  refine Src.vals (by rw [h.1]) h1 (fun hl => ?_)
  obtain ⟨g, off, c', hv, _, _, hc⟩ := h.cells hl
  injection hv with hA
  refine ⟨⟨g, off, none⟩, hA, fun j u hj => ?_⟩
  rw [Addr.add_lit, hc j (List.getElem?_eq_some_iff.1 hj).1, hj]
end
theorem OwnS.take1 {w : World} {base n : Nat} {e : TypeId} {xs : List Value} {A : Option Addr} {c k : Nat} (h : OwnS w base e 1 (.slice A n c) n xs) (hk : k ≤ n) (h0 : 0 < n) : OwnS w base e 1 (.slice A k c) k (xs.take k) := by
  have hl := h.1
  refine ⟨by rw [List.length_take, hl]; omega, ?_⟩
  rcases h.2 with ⟨hv, hn⟩ | ⟨g, off, cap, cur, hv, hb, hgg, hn, hm, hs, ht⟩
  · omega
  · injection hv with hA _ hc
    subst hA; subst hc
    refine .inr ⟨g, off, c, cur, rfl, hb, hgg, by omega, hm, hs, ?_⟩
    rw [← ht, List.take_take]
    congr 1
    omega
theorem OwnS.place {w : World} {base n : Nat} {e : TypeId} {xs : List Value} {v : Value} (h : OwnS w base e 1 v n xs) (h0 : 0 < n) : ∃ g o c, v = .slice (some ⟨g, o, none⟩) n c ∧ n ≤ c ∧ c ≤ maxLen ∧ g < w.heap.size ∧ ∀ j, j < xs.length → w.cell? ⟨g, o + j, none⟩ = xs[j]? := by
  obtain ⟨g, o, c, hv, _, hg, hc⟩ := h.cells (by have := h.1; omega)
  rcases h.2 with ⟨_, hn⟩ | ⟨g', off, cap, cur, hv', _, _, hn, hm, _⟩
  · omega
  · rw [hv] at hv'
    injection hv' with _ _ hcc
    exact ⟨g, o, c, hv, by omega, by omega, hg, hc⟩
theorem SentBy.ok {out d : List Int} (h : SentBy out d) : Bytes d ∧ d.length ≤ 419 := by
  obtain ⟨q, h1, h2, rfl, _⟩ := h
  exact ⟨segL_ok q h2, by have h3 := segL_len q; have h4 : (q.data.take 400).length ≤ 400 := List.length_take_le _ _; omega⟩
/-- A store of what an append leaves: between the operations. -/
def IApp (S0 C : World → Prop) (S1 : Value → World → Prop) (t : Addr) : List Value → World → Prop
  | [], w => S0 w
  | [v], w => C w ∧ S1 v (w.setCell t v)
  | _, w => ∃ v, S1 v w
/-- Write: between the operations. -/
def I19 (tE tW tT tO : TypeId) (W : World) (q : Bk) (ob k j : Nat) (a b : Sd) (F : Nat → Value) (s' : En) : List Value → World → Prop
  | [], w => St tE tW tT tO W w q ob k j a b F
  | _, w => ∃ vo', St tE tW tT tO W w q ob k j { a with s := s', vo := vo', vi := a.vi } b F
/-- What was read grows by what Read tells. -/
def I37 (tE tW tT tO : TypeId) (W : World) (q : Bk) (ob k j : Nat) (a b : Sd) (F : Nat → Value) (s' : En) (x : List Int) : List Value → World → Prop
  | [], w => St tE tW tT tO W w q ob k j a b F
  | [v], w => ∃ A, v = .slice A x.length x.length ∧ OwnS w 0 5 1 (.slice A x.length x.length) x.length (x.map (Value.int .u8)) ∧ St tE tW tT tO W w q ob k j { a with s := s', vo := a.vo, vi := a.vi } b F
  | [_, v], w => (∃ f, Cel w q.rb tT 2 f) ∧ St tE tW tT tO W (w.setCell ⟨q.rb, k, none⟩ v) q ob k j { a with s := s', vo := a.vo, vi := a.vi, vr := v, rl := a.rl ++ x } b F
  | _, w => ∃ vr, St tE tW tT tO W w q ob k j { a with s := s', vo := a.vo, vi := a.vi, vr := vr, rl := a.rl ++ x } b F
theorem I37.cell {tE tW tT tO : TypeId} {W w : World} {q : Bk} {ob k j : Nat} {a b : Sd} {F : Nat → Value} {s' : En} {x : List Int} {us : Nat → Value} {p1 p2 p3 m : Nat} (hm : m ≤ 1) (h : I37 tE tW tT tO W q ob k j a b F s' x (List.map us (List.take m [p1, p2, p3])) w) : w.cell? ⟨q.rb, k, none⟩ = some a.vr := by
  match m, hm with
  | 0, _ => exact St.cR h
  | 1, _ =>
    obtain ⟨A, _, _, h⟩ := h
    exact h.cR
/-- A row is cut in two about one place: between the operations. -/
def I34 (w0 : World) (L m : Nat) (vs : List Value) (C : World → Prop) (S1 : Value → World → Prop) (t : Addr) : List Value → World → Prop
  | [], w => Below w0.heap.size w0 w
  | [v], w => Below w0.heap.size w0 w ∧ ∃ g, v = .slice (some ⟨g, 0, none⟩) 0 0 ∧ OwnS w w0.heap.size 22 1 v 0 []
  | [_, v], w => Below w0.heap.size w0 w ∧ OwnS w w0.heap.size 22 1 v m (vs.take m)
  | [_, _, v], w => C w ∧ S1 v (w.setCell t v)
  | _, w => ∃ v, S1 v w
theorem OwnS.none_new {w : World} {base : Nat} {e : TypeId} (hb : base ≤ w.heap.size) : OwnS (w.alloc (.cells #[] e)) base e 1 (.slice (some ⟨w.heap.size, 0, none⟩) 0 0) 0 [] :=
  ⟨rfl, .inr ⟨w.heap.size, 0, 0, #[], rfl, hb, ⟨(0, 0), heap_alloc_new w _, .inl (Nat.le_refl _)⟩, Nat.le_refl _, Nat.zero_le _, Nat.le_refl _, rfl⟩⟩
theorem grown_below {w0 w w' : World} {v : Value} (hb : Below w0.heap.size w0 w) (hg : w.grownBy w' v.ownBlock) (hv : ∀ k, v.ownBlock = some k → w0.heap.size ≤ k) : Below w0.heap.size w0 w' :=
  hb.trans ((Chg.of_grown (S := fun k => v.ownBlock = some k) hg (fun _ h => h)).below hb.size (fun k hk hs => by have := hv k hs; omega))
theorem way_cel {tE tW tT : TypeId} {B : Nat} {W w w' : World} {f : Nat → Nat} {k j : Nat} {q : Bk} {a b : Sd} {o : Obj} {v : Value} (hM : Mem tE tW tT B W w f k j q a b) (hv : a.vw = v) (hg : (w.alloc o).grownBy w' v.ownBlock) : ∃ F, Cel w' q.wb tW 2 F := by
  subst hv
  refine ⟨_, (hM.cw.alloc o).grown hg (fun e => by have h1 := hM.sa.fw _ e; have h2 := hM.fw; omega)⟩
theorem St.cutRow {tE tW tT tO : TypeId} {W w : World} {q : Bk} {ob k j : Nat} {a b : Sd} {F : Nat → Value} (h : St tE tW tT tO W w q ob k j a b F) {m : Nat} (hm : m < a.way.length) :
    ∃ vs g o c, a.vw = .slice (some ⟨g, o, none⟩) a.way.length c ∧ a.way.length ≤ c ∧ c ≤ maxLen ∧ OwnS w 0 22 1 (.slice (some ⟨g, o, none⟩) a.way.length c) a.way.length vs ∧ (∀ u ∈ vs, u.oneCell' = true) ∧ q.wb < w.heap.size ∧ (∃ f, Cel w q.wb tW 2 f) ∧
      ∀ v w' n, OwnS w' w.heap.size 22 1 v n (vs.take m ++ vs.drop (m + 1)) → n = (a.way.take m ++ a.way.drop (m + 1)).length → Below w.heap.size w w' →
        St tE tW tT tO W (w'.setCell ⟨q.wb, k, none⟩ v) q ob k j { a with vw := v, way := a.way.take m ++ a.way.drop (m + 1) } b F := by
  obtain ⟨f, vs', hM, _, ho', hE⟩ := h.wayOf
  obtain ⟨vs, A, hvm, _, ho, _, hcu⟩ := h.twice hm
  obtain ⟨g, o, c, hv, h1, h2, hg, hc⟩ := ho.place (by omega)
  have hvs : ∀ u ∈ vs, u.oneCell' = true := by
    have : vs = vs' := by
      apply List.ext_getElem?
      intro i
      obtain ⟨g', o', c', hv', _, _, _, hc'⟩ := ho'.place (by omega)
      rw [hv] at hv'
      injection hv' with hA
      injection hA with hA
      injection hA with hA1 hA2
      subst hA1; subst hA2
      rcases Nat.lt_or_ge i vs.length with hi | hi
      · rw [← hc i hi, hc' i (by rw [ho'.1, ← ho.1]; exact hi)]
      · rw [List.getElem?_eq_none hi, List.getElem?_eq_none (by rw [ho'.1, ← ho.1]; exact hi)]
    rw [this]; exact hE.one_
  refine ⟨vs, g, o, c, hv, h1, h2, hv ▸ ho, hvs, hM.blk.2.1, ⟨_, hM.cw⟩, ?_⟩
  intro v w' n hO hn hb
  exact hcu v w w' n (Below.refl _ _) (hO.base_ (Nat.zero_le _)) hn hb (fun x hx => (hO.lt x hx).1)
theorem I34.below {w0 w : World} {L m : Nat} {vs : List Value} {C : World → Prop} {S1 : Value → World → Prop} {t : Addr} {us : Nat → Value} {p1 p2 p3 p4 x : Nat} (hm : x ≤ 2) (h : I34 w0 L m vs C S1 t (List.map us (List.take x [p1, p2, p3, p4])) w) : Below w0.heap.size w0 w := by
  match x, hm with
  | 0, _ => exact h
  | 1, _ => exact h.1
  | 2, _ => exact h.1
/-- The way grows by what Out tells: between the operations. -/
def I24 (tE tW tT tO : TypeId) (W : World) (q : Bk) (ob k j : Nat) (a b : Sd) (F : Nat → Value) (s' : En) (ls : List (List Int)) : List Value → World → Prop
  | [], w => St tE tW tT tO W w q ob k j a b F
  | [v], w => ∃ A, v = .slice A ls.length ls.length ∧ StO tE tW tT tO W w q ob k j { a with s := s', vo := a.vo, vi := a.vi } b F (.slice A ls.length ls.length) ls
  | [_, v], w => (∃ f, Cel w q.wb tW 2 f) ∧ St tE tW tT tO W (w.setCell ⟨q.wb, j, none⟩ v) q ob k j { a with s := s', vo := a.vo, vi := a.vi } { b with vw := v, way := b.way ++ ls } F
  | _, w => ∃ vw, St tE tW tT tO W w q ob k j { a with s := s', vo := a.vo, vi := a.vi } { b with vw := vw, way := b.way ++ ls } F
theorem I24.cell {tE tW tT tO : TypeId} {W w : World} {q : Bk} {ob k j : Nat} {a b : Sd} {F : Nat → Value} {s' : En} {ls : List (List Int)} {us : Nat → Value} {x y z m : Nat} (hm : m ≤ 1) (h : I24 tE tW tT tO W q ob k j a b F s' ls (List.map us (List.take m [x, y, z])) w) : w.cell? ⟨q.wb, j, none⟩ = some b.vw := by
  match m, hm with
  | 0, _ => exact St.cWj h
  | 1, _ =>
    obtain ⟨A, _, h⟩ := h
    obtain ⟨⟨f, vs, us, hM, _⟩, _⟩ := h
    exact hM.swap.cellW
end Go.Proofs.Ytoeipgbnjcgbjaa
