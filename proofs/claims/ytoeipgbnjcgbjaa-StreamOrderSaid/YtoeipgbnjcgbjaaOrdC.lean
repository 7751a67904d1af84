/- StreamOrder: what each call on an end leaves of all that the walk holds. -/
import Derived.Test.YtoeipgbnjcgbjaaOrdP
namespace Go.Proofs.Ytoeipgbnjcgbjaa
open Go.RowKit
set_option linter.unusedVariables false

section
variable {tE tW tT tO : TypeId} {W w w' : World} {q : Bk} {ob k j : Nat} {a b : Sd} {F : Nat → Value}
theorem St.end_ (h : St tE tW tT tO W w q ob k j a b F) : EnAt a.g w a.s a.vo a.vi ∧ EnOk a.s ∧ EnFin a.s := by
  obtain ⟨⟨f, hM, _⟩, _⟩ := h
  exact ⟨hM.sa.e, hM.sa.ok, hM.sa.fin⟩
theorem St.low (h : St tE tW tT tO W w q ob k j a b F) : Below W.heap.size W w := by
  obtain ⟨⟨f, hM, _⟩, _⟩ := h
  exact hM.bel
theorem St.step {S : Nat → Prop} {s' : En} {vo' vi' : Value} (h : St tE tW tT tO W w q ob k j a b F) (hE : EnAt a.g w' s' vo' vi') (hok : EnOk s') (hfin : EnFin s') (hC : Chg S w w') (hS : ∀ x, x < w.heap.size → S x → Fp a.g a.vo a.vi x) (hFo : Fresh w a.vo vo') (hFi : Fresh w a.vi vi') :
    St tE tW tT tO W w' q ob k j { a with s := s', vo := vo', vi := vi' } b F :=
  h.next fun f hM => hM.step hE hok hfin hC hS hFo hFi
theorem St.write {xs : List Int} {e : Ending} (h : St tE tW tT tO W w q ob k j a b F) (hb : Bytes xs) (hp : WrPost a.g a.s a.vo a.vi xs w e w') :
    ∃ vo', e = .returned (.int .i64 (writeS a.s xs).1) ∧ St tE tW tT tO W w' q ob k j { a with s := (writeS a.s xs).2, vo := vo', vi := a.vi } b F := by
  obtain ⟨vo', he, hE, hC, hF⟩ := hp
  obtain ⟨_, hok, hfin⟩ := h.end_
  exact ⟨vo', he, h.step hE (writeS_ok _ _ hok hb) (writeS_fin _ _ hfin) hC (fun x _ hx => hx.elim .inl (fun hx => .inr (.inl hx))) hF (Fresh.refl _ _)⟩
theorem St.close (h : St tE tW tT tO W w q ob k j a b F) (hE : EnAt a.g w' (closeS a.s).2 a.vo a.vi) (hC : Chg (fun x => x = a.g) w w') :
    St tE tW tT tO W w' q ob k j { a with s := (closeS a.s).2, vo := a.vo, vi := a.vi } b F := by
  obtain ⟨_, hok, hfin⟩ := h.end_
  exact h.step hE (closeS_ok _ hok) (closeS_fin _ hfin) hC (fun x _ hx => .inl hx) (Fresh.refl _ _) (Fresh.refl _ _)
theorem St.take {d : List Int} {now : Int} {e : Ending} (h : St tE tW tT tO W w q ob k j a b F) (hd : Bytes d) (hn : (Lit.int .i64 now).wf = true) (hp : TakePost a.g (inS a.s d now) a.vo a.vi w e w') :
    e = .returned (.tuple #[]) ∧ ∃ vi', St tE tW tT tO W w' q ob k j { a with s := inS a.s d now, vo := a.vo, vi := vi' } b F := by
  obtain ⟨he, vi', hE, hC, hF⟩ := hp
  obtain ⟨_, hok, hfin⟩ := h.end_
  exact ⟨he, vi', h.step hE (inS_ok _ _ _ hok hd hn hfin) (inS_fin _ _ _ hfin hok) hC (fun x _ hx => hx.elim .inl (fun hx => .inr (.inr hx))) (Fresh.refl _ _) hF⟩
theorem St.read {e : Ending} (h : St tE tW tT tO W w q ob k j a b F) (hp : RdPost a.g a.s a.vo a.vi w e w') :
    ∃ A, e = .returned (.slice A (readS a.s).1.length (readS a.s).1.length) ∧ OwnS w' w.heap.size 5 1 (.slice A (readS a.s).1.length (readS a.s).1.length) (readS a.s).1.length ((readS a.s).1.map (Value.int .u8)) ∧ St tE tW tT tO W w' q ob k j { a with s := (readS a.s).2, vo := a.vo, vi := a.vi } b F := by
  obtain ⟨A, he, ho, hE, hC⟩ := hp
  obtain ⟨_, hok, hfin⟩ := h.end_
  exact ⟨A, he, ho, h.step hE (readS_ok _ hok) ⟨hfin.1, hfin.2⟩ hC (fun x _ hx => .inl hx) (Fresh.refl _ _) (Fresh.refl _ _)⟩
/-- Out: what is told is new memory, labelled as datagrams. -/
theorem Mem.told {s' : En} {B : Nat} {f : Nat → Nat} (h : Mem tE tW tT B W w f k j q a b) (hE : EnAt a.g w' s' a.vo a.vi) (hok : EnOk s') (hfin : EnFin s') (hC : Chg (fun x => x = a.g) w w') :
    Mem tE tW tT B W w' (relab f w.heap.size 50) k j q { a with s := s', vo := a.vo, vi := a.vi } b ∧ Keep w f w' (relab f w.heap.size 50) := by
  have hl : ∀ x, x < w.heap.size → x = a.g → f x = 10 + k := fun x hx hs => h.sa.fe x (.inl hs)
  have hkj := h.kj
  have hold : ∀ x, x < w.heap.size → relab f w.heap.size 50 x = f x := fun x hx => relab_old hx
  have hb := h.sb.move (f' := relab f w.heap.size 50) hC (fun x hx hs => by have := hl x hx hs; omega) hold
  have hz := h.blk
  obtain ⟨vs, ho, hv⟩ := h.sa.wo
  have key : ∀ {l : Nat} {x : Nat}, x < w.heap.size → f x = l → l ≠ 10 + k → ¬ (x = a.g) := fun hx hf hne hs => hne ((hf.symm).trans (hl _ hx hs))
  refine ⟨⟨⟨hE, hok, hfin, ?_, ?_, ⟨vs, ?_, ?_⟩, ?_, ?_, ?_, ?_⟩, hb, h.ce.chg hC (key hz.1 h.fe (by omega)), h.cw.chg hC (key hz.2.1 h.fw (by omega)), h.ct.chg hC (key hz.2.2.1 h.ft (by omega)), h.cr.chg hC (key hz.2.2.2 h.fr (by omega)), (hold _ hz.1).trans h.fe, (hold _ hz.2.1).trans h.fw, (hold _ hz.2.2.1).trans h.ft, (hold _ hz.2.2.2).trans h.fr, ?_, ?_, h.kj⟩, ?_⟩
  · exact h.sa.t.chg hC (fun x hx => key (h.sa.t.lt x hx).2 (h.sa.ft x hx) (by omega))
  · exact h.sa.r.chg hC (fun x hx => key (h.sa.r.lt x hx).2 (h.sa.fr x hx) (by omega))
  · exact ho.chg hC (fun x hx => key (ho.lt x hx).2 (h.sa.fw x hx) (by omega))
  · exact hv.imp fun u d hd => hd.move hC (fun x hx hs => by have := hl x hx hs; omega) hold
  · exact fun x hx => (hold x (h.sa.e.fp_lt x hx)).trans (h.sa.fe x hx)
  · exact fun x hx => (hold x (h.sa.t.lt x hx).2).trans (h.sa.ft x hx)
  · exact fun x hx => (hold x (h.sa.r.lt x hx).2).trans (h.sa.fr x hx)
  · exact fun x hx => (hold x (ho.lt x hx).2).trans (h.sa.fw x hx)
  · intro x hx
    by_cases hlt : x < w.heap.size
    · exact h.low x (by rwa [hold x hlt] at hx)
    · have := h.size; omega
  · exact h.bel.trans (hC.below h.size (fun x hx hs => by have h1 := h.size; have := hl x (by omega) hs; have := h.low x (by omega); omega))
  · intro x T n F hc hf
    exact ⟨hc.chg hC (key hc.blk hf (by omega)), (hold x hc.blk).trans hf⟩
end
/-- All that the walk holds, and the rows that are put together next: the way to the one side, and new datagrams. -/
structure StO (tE tW tT tO : TypeId) (W w : World) (q : Bk) (ob k j : Nat) (a b : Sd) (F : Nat → Value) (v : Value) (ls : List (List Int)) : Prop where
  m : ∃ f vs us, Mem tE tW tT W.heap.size W w f k j q a b ∧ f ob = 5 ∧ OwnS w 0 22 1 b.vw b.way.length vs ∧ Els w f vs b.way ∧ OwnS w 0 22 1 v ls.length us ∧ Els w f us ls
  c : Cel w ob tO 4 F
section
variable {tE tW tT tO : TypeId} {W w w' : World} {q : Bk} {ob k j : Nat} {a b : Sd} {F : Nat → Value}
theorem Els.of_outs {v : Value} {ls : List (List Int)} {f : Nat → Nat} {B : Nat} (h : OutsAt B w v ls) (hf : ∀ x, B ≤ x → f x = 50) : ∃ us, OwnS w 0 22 1 v ls.length us ∧ Els w f us ls := by
  obtain ⟨us, ho, hi⟩ := h
  refine ⟨us, ho.base_ (Nat.zero_le _), Els.of_get (by have := ho.1; omega) ?_⟩
  intro i hl
  obtain ⟨A, h1, h2⟩ := hi i hl
  exact ⟨_, h1, A, rfl, h2.base_ (Nat.zero_le _), fun x hx => hf x (h2.lt x hx).1⟩
theorem St.out {now : Int} {e : Ending} (h : St tE tW tT tO W w q ob k j a b F) (hn : (Lit.int .i64 now).wf = true) (hp : OutPost a.g a.s a.vo a.vi now w e w') :
    ∃ A, e = .returned (.slice A (outS a.s now).1.length (outS a.s now).1.length) ∧ StO tE tW tT tO W w' q ob k j { a with s := (outS a.s now).2, vo := a.vo, vi := a.vi } b F (.slice A (outS a.s now).1.length (outS a.s now).1.length) (outS a.s now).1 := by
  obtain ⟨A, he, hO, hE, hC⟩ := hp
  obtain ⟨⟨f, hM, h5⟩, hc⟩ := h
  obtain ⟨hM', hK⟩ := hM.told hE (outS_ok _ _ hM.sa.ok hn) (outS_fin _ _ hM.sa.fin hM.sa.ok hn) hC
  obtain ⟨h1, h2⟩ := hK ob tO 4 F hc h5
  obtain ⟨us, hu, hv⟩ := Els.of_outs hO (f := relab f w.heap.size 50) (fun x hx => relab_new hx)
  obtain ⟨vs, ho, hw⟩ := hM'.sb.wo
  exact ⟨A, he, ⟨_, vs, us, hM', h2, ho, hw, hu, hv⟩, h1⟩
theorem fresh_of {v v' : Value} (hv : v'.ownBlock = v.ownBlock ∨ v'.ownBlock = some w.heap.size) : Fresh w v v' :=
  hv.elim .inl (fun h => .inr fun k hk => by rw [h] at hk; injection hk with hk; omega)
/-- What was written has grown. -/
theorem St.rowT {v' : Value} {xs : List Int} {n : Nat} (h : St tE tW tT tO W w q ob k j a b F) (ho : OwnS w' 0 5 1 v' n (a.tl.map (Value.int .u8) ++ xs.map (Value.int .u8))) (hn : n = a.tl.length + xs.length) (hg : w.grownBy w' a.vt.ownBlock) (hv : v'.ownBlock = a.vt.ownBlock ∨ v'.ownBlock = some w.heap.size) :
    St tE tW tT tO W (w'.setCell ⟨q.tb, k, none⟩ v') q ob k j { a with vt := v', tl := a.tl ++ xs } b F := by
  subst hn
  exact h.next fun f hM => hM.rowT (Chg.of_grown hg fun _ h => h) (by rw [List.length_append, List.map_append]; exact ho) (fresh_of hv)
/-- What was read has grown. -/
theorem St.rowR {v' : Value} {xs : List Int} {n : Nat} (h : St tE tW tT tO W w q ob k j a b F) (ho : OwnS w' 0 5 1 v' n (a.rl.map (Value.int .u8) ++ xs.map (Value.int .u8))) (hn : n = a.rl.length + xs.length) (hg : w.grownBy w' a.vr.ownBlock) (hv : v'.ownBlock = a.vr.ownBlock ∨ v'.ownBlock = some w.heap.size) :
    St tE tW tT tO W (w'.setCell ⟨q.rb, k, none⟩ v') q ob k j { a with vr := v', rl := a.rl ++ xs } b F := by
  subst hn
  exact h.next fun f hM => hM.rowR (Chg.of_grown hg fun _ h => h) (by rw [List.length_append, List.map_append]; exact ho) (fresh_of hv)
theorem Els.grown {f : Nat → Nat} {v v' : Value} {us : List Value} {ds : List (List Int)} {l : Nat} (h : Els w f us ds) (hg : w.grownBy w' v.ownBlock) (hv : ∀ x, v.ownBlock = some x → f x ≠ 50) : Els w' (relab2 f w.heap.size v' l) us ds :=
  h.imp fun u d hd => hd.move (Chg.of_grown (S := fun x => v.ownBlock = some x) hg fun _ h => h) (fun x _ hs => hv x hs) (fun x hx => if_pos hx)
/-- The way to the other side has grown by what Out told. -/
theorem StO.join {v v' : Value} {ls : List (List Int)} (h : StO tE tW tT tO W w q ob k j a b F v ls) :
    ∃ vs us, OwnS w 0 22 1 b.vw b.way.length vs ∧ OwnS w 0 22 1 v ls.length us ∧ (∀ u ∈ us, u.oneCell' = true) ∧
      ∀ v' w' n, OwnS w' 0 22 1 v' n (vs ++ us) → n = b.way.length + ls.length → w.grownBy w' b.vw.ownBlock → (v'.ownBlock = b.vw.ownBlock ∨ v'.ownBlock = some w.heap.size) →
        St tE tW tT tO W (w'.setCell ⟨q.wb, j, none⟩ v') q ob k j a { b with vw := v', way := b.way ++ ls } F := by
  obtain ⟨⟨f, vs, us, hM, h5, ho, hw, hu, hl⟩, hc⟩ := h
  refine ⟨vs, us, ho, hu, hl.one_, ?_⟩
  intro v' w' n hown hn hg hv
  subst hn
  have hkj := hM.kj
  have hl50 : ∀ x, b.vw.ownBlock = some x → f x ≠ 50 := fun x hx => by have := hM.sb.fw x hx; omega
  obtain ⟨f', hM', hK⟩ := hM.swap.rowW (v' := v') (vs' := vs ++ us) (way' := b.way ++ ls) (Chg.of_grown hg fun _ h => h) (by rw [List.length_append]; exact hown) (fresh_of hv) ((hw.grown hg hl50).append (hl.grown hg hl50))
  obtain ⟨h1, h2⟩ := hK ob tO 4 F hc h5
  exact ⟨⟨f', hM'.swap, h2⟩, h1⟩
/-- One more of a way's own datagrams is put behind it. -/
theorem St.wayOf (h : St tE tW tT tO W w q ob k j a b F) : ∃ f vs, Mem tE tW tT W.heap.size W w f k j q a b ∧ f ob = 5 ∧ OwnS w 0 22 1 a.vw a.way.length vs ∧ Els w f vs a.way := by
  obtain ⟨⟨f, hM, h5⟩, hc⟩ := h
  obtain ⟨vs, ho, hw⟩ := hM.sa.wo
  exact ⟨f, vs, hM, h5, ho, hw⟩
theorem St.twice {m : Nat} (h : St tE tW tT tO W w q ob k j a b F) (hm : m < a.way.length) :
    ∃ vs A, vs[m]? = some (.slice A (a.way.getD m []).length (a.way.getD m []).length) ∧ OwnS w 0 5 1 (.slice A (a.way.getD m []).length (a.way.getD m []).length) (a.way.getD m []).length ((a.way.getD m []).map (Value.int .u8)) ∧ OwnS w 0 22 1 a.vw a.way.length vs ∧
      (∀ v' w1 w' n, Below w.heap.size w w1 → OwnS w' 0 22 1 v' n (vs ++ [.slice A (a.way.getD m []).length (a.way.getD m []).length]) → n = a.way.length + 1 → w1.grownBy w' a.vw.ownBlock → (v'.ownBlock = a.vw.ownBlock ∨ v'.ownBlock = some w1.heap.size) →
        St tE tW tT tO W (w'.setCell ⟨q.wb, k, none⟩ v') q ob k j { a with vw := v', way := a.way ++ [a.way.getD m []] } b F) ∧
      (∀ v' w1 w' n, Below w.heap.size w w1 → OwnS w' 0 22 1 v' n (vs.take m ++ vs.drop (m + 1)) → n = (a.way.take m ++ a.way.drop (m + 1)).length → Below w1.heap.size w1 w' → (∀ x, v'.ownBlock = some x → w1.heap.size ≤ x) →
        St tE tW tT tO W (w'.setCell ⟨q.wb, k, none⟩ v') q ob k j { a with vw := v', way := a.way.take m ++ a.way.drop (m + 1) } b F) := by
  obtain ⟨f, vs, hM, h5, ho, hw⟩ := h.wayOf
  have hc := h.c
  obtain ⟨u, hu, A, rfl, hA, h50⟩ := hw.get m hm
  have hkj := hM.kj
  have hl50 : ∀ x, a.vw.ownBlock = some x → f x ≠ 50 := fun x hx => by have := hM.sa.fw x hx; omega
  refine ⟨vs, A, hu, hA, ho, ?_, ?_⟩
  · intro v' w1 w' n hb hown hn hg hv
    subst hn
    have hM1 := hM.below hb
    have hw1 : Els w1 f vs a.way := hw.imp fun u d hd => hd.move (Chg.of_below (S := fun _ => False) hb) (fun _ _ h => h.elim) (fun _ _ => rfl)
    have h1 : Els w1 f [.slice A (a.way.getD m []).length (a.way.getD m []).length] [a.way.getD m []] := Els.one ⟨A, rfl, hA.chg (Chg.of_below (S := fun _ => False) hb) (fun _ _ h => h), h50⟩
    obtain ⟨f', hM', hK⟩ := hM1.rowW (v' := v') (way' := a.way ++ [a.way.getD m []]) (Chg.of_grown hg fun _ h => h) (by rw [List.length_append]; exact hown) (fresh_of hv) ((hw1.grown hg hl50).append (h1.grown hg hl50))
    obtain ⟨h1, h2⟩ := hK ob tO 4 F (hc.below hb hc.blk) h5
    exact ⟨⟨f', hM', h2⟩, h1⟩
  · intro v' w1 w' n hb hown hn hg hv
    subst hn
    have hM1 := hM.below hb
    have hw1 : Els w' (relab2 f w1.heap.size v' (40 + k)) vs a.way := hw.imp fun u d hd => (hd.move (Chg.of_below (S := fun _ => False) hb) (f' := f) (fun _ _ h => h.elim) (fun _ _ => rfl)).move (Chg.of_below (S := fun _ => False) hg) (fun _ _ h => h.elim) (fun x hx => if_pos hx)
    obtain ⟨f', hM', hK⟩ := hM1.rowW (v' := v') (way' := a.way.take m ++ a.way.drop (m + 1)) ((Chg.of_below (S := fun _ => False) hg).mono fun _ _ h => h.elim) hown (.inr hv) ((hw1.take m).append (hw1.drop (m + 1)))
    obtain ⟨h1, h2⟩ := hK ob tO 4 F (hc.below hb hc.blk) h5
    exact ⟨⟨f', hM', h2⟩, h1⟩
theorem pair_at {α : Type} (k : Nat) (x y : α) : pairF k x y k = x := if_pos rfl
/-- The cells that are stored into next, behind an append. -/
theorem St.celT (h : St tE tW tT tO W w q ob k j a b F) (hg : w.grownBy w' a.vt.ownBlock) : ∃ f, Cel w' q.tb tT 2 f ∧ f k = a.vt ∧ k < 2 := by
  obtain ⟨⟨f, hM, _⟩, _⟩ := h
  have hkj := hM.kj
  exact ⟨_, hM.ct.grown hg (fun e => by have h1 := hM.sa.ft _ e; have h2 := hM.ft; omega), pair_at _ _ _, by omega⟩
theorem St.celR (h : St tE tW tT tO W w q ob k j a b F) (hg : w.grownBy w' a.vr.ownBlock) : ∃ f, Cel w' q.rb tT 2 f ∧ f k = a.vr ∧ k < 2 := by
  obtain ⟨⟨f, hM, _⟩, _⟩ := h
  have hkj := hM.kj
  exact ⟨_, hM.cr.grown hg (fun e => by have h1 := hM.sa.fr _ e; have h2 := hM.fr; omega), pair_at _ _ _, by omega⟩
theorem St.celW (h : St tE tW tT tO W w q ob k j a b F) (hg : w.grownBy w' a.vw.ownBlock) : ∃ f, Cel w' q.wb tW 2 f ∧ f k = a.vw ∧ k < 2 := by
  obtain ⟨⟨f, hM, _⟩, _⟩ := h
  have hkj := hM.kj
  exact ⟨_, hM.cw.grown hg (fun e => by have h1 := hM.sa.fw _ e; have h2 := hM.fw; omega), pair_at _ _ _, by omega⟩
theorem StO.celW {v : Value} {ls : List (List Int)} (h : StO tE tW tT tO W w q ob k j a b F v ls) (hg : w.grownBy w' b.vw.ownBlock) : ∃ f, Cel w' q.wb tW 2 f ∧ f j = b.vw ∧ j < 2 := by
  obtain ⟨⟨f, vs, us, hM, _⟩, _⟩ := h
  have hkj := hM.kj
  exact ⟨_, hM.swap.cw.grown hg (fun e => by have h1 := hM.sb.fw _ e; have h2 := hM.fw; omega), pair_at _ _ _, by omega⟩
theorem St.rows (h : St tE tW tT tO W w q ob k j a b F) : OwnS w 0 5 1 a.vt a.tl.length (a.tl.map (Value.int .u8)) ∧ OwnS w 0 5 1 a.vr a.rl.length (a.rl.map (Value.int .u8)) ∧ OwnS w 0 5 1 b.vt b.tl.length (b.tl.map (Value.int .u8)) := by
  obtain ⟨⟨f, hM, _⟩, _⟩ := h
  exact ⟨hM.sa.t, hM.sa.r, hM.sb.t⟩
theorem St.drw (h : St tE tW tT tO W w q ob k j a b F) : St tE tW tT tO W w.drew q ob k j a b F := h.below (Below.refl _ _).drew
end
end Go.Proofs.Ytoeipgbnjcgbjaa
