/- Two ends, the datagrams on the way to each, what was written and read: how they lie in memory in StreamOrder, and what each statement leaves of them. -/
import Derived.Test.YtoeipgbnjcgbjaaTwo
import Derived.Test.YtoeipgbnjcgbjaaStrM
namespace Go.Proofs.Ytoeipgbnjcgbjaa
open Go.RowKit
set_option linter.unusedVariables false

def DgAt (w : World) (f : Nat → Nat) (u : Value) (d : List Int) : Prop :=
  ∃ A, u = .slice A d.length d.length ∧ OwnS w 0 5 1 (.slice A d.length d.length) d.length (d.map (Value.int .u8)) ∧ ∀ b, (Value.slice A d.length d.length).ownBlock = some b → f b = 50
def Els (w : World) (f : Nat → Nat) : List Value → List (List Int) → Prop
  | [], [] => True
  | u :: us, d :: ds => DgAt w f u d ∧ Els w f us ds
  | _, _ => False
section
variable {w w' : World} {f f' : Nat → Nat}
theorem Els.len : ∀ {us : List Value} {ds : List (List Int)}, Els w f us ds → us.length = ds.length
  | [], [], _ => rfl
  | u :: us, d :: ds, h => by simp [Els.len h.2]
  | [], d :: ds, h => h.elim
  | u :: us, [], h => h.elim
theorem Els.append : ∀ {us us' : List Value} {ds ds' : List (List Int)}, Els w f us ds → Els w f us' ds' → Els w f (us ++ us') (ds ++ ds')
  | [], _, [], _, _, h' => h'
  | u :: us, _, d :: ds, _, h, h' => ⟨h.1, Els.append h.2 h'⟩
  | [], _, d :: ds, _, h, _ => h.elim
  | u :: us, _, [], _, h, _ => h.elim
theorem Els.imp (hi : ∀ u d, DgAt w f u d → DgAt w' f' u d) : ∀ {us : List Value} {ds : List (List Int)}, Els w f us ds → Els w' f' us ds
  | [], [], _ => trivial
  | u :: us, d :: ds, h => ⟨hi _ _ h.1, Els.imp hi h.2⟩
  | [], d :: ds, h => h.elim
  | u :: us, [], h => h.elim
theorem Els.take : ∀ (n : Nat) {us : List Value} {ds : List (List Int)}, Els w f us ds → Els w f (us.take n) (ds.take n)
  | 0, _, _, _ => by simp [Els]
  | n + 1, [], [], _ => by simp [Els]
  | n + 1, u :: us, d :: ds, h => ⟨h.1, Els.take n h.2⟩
  | n + 1, [], d :: ds, h => h.elim
  | n + 1, u :: us, [], h => h.elim
theorem Els.drop : ∀ (n : Nat) {us : List Value} {ds : List (List Int)}, Els w f us ds → Els w f (us.drop n) (ds.drop n)
  | 0, _, _, h => by simpa using h
  | n + 1, [], [], _ => by simp [Els]
  | n + 1, u :: us, d :: ds, h => by simpa using Els.drop n h.2
  | n + 1, [], d :: ds, h => h.elim
  | n + 1, u :: us, [], h => h.elim
theorem Els.get : ∀ (n : Nat) {us : List Value} {ds : List (List Int)}, Els w f us ds → n < ds.length → ∃ u, us[n]? = some u ∧ DgAt w f u (ds.getD n [])
  | 0, u :: us, d :: ds, h, _ => ⟨u, rfl, h.1⟩
  | n + 1, u :: us, d :: ds, h, hn => by simpa using Els.get n h.2 (by simpa using hn)
  | 0, [], [], _, hn => by simp at hn
  | n + 1, [], [], _, hn => by simp at hn
  | 0, [], d :: ds, h, _ => h.elim
  | n + 1, [], d :: ds, h, _ => h.elim
  | 0, u :: us, [], h, _ => h.elim
  | n + 1, u :: us, [], h, _ => h.elim
theorem Els.of_get : ∀ {us : List Value} {ds : List (List Int)}, us.length = ds.length → (∀ i, i < ds.length → ∃ u, us[i]? = some u ∧ DgAt w f u (ds.getD i [])) → Els w f us ds
  | [], [], _, _ => trivial
  | u :: us, d :: ds, hl, h => by
    refine ⟨?_, Els.of_get (by simpa using hl) (fun i hi => ?_)⟩
    · obtain ⟨u', h1, h2⟩ := h 0 (by simp)
      simp at h1
      subst h1
      simpa using h2
    · obtain ⟨u', h1, h2⟩ := h (i + 1) (by simpa using hi)
      exact ⟨u', by simpa using h1, by simpa using h2⟩
  | [], d :: ds, hl, _ => by simp at hl
  | u :: us, [], hl, _ => by simp at hl
theorem Els.one {u : Value} {d : List Int} (h : DgAt w f u d) : Els w f [u] [d] := ⟨h, trivial⟩
theorem DgAt.lt {u : Value} {d : List Int} (h : DgAt w f u d) : ∀ b, u.ownBlock = some b → b < w.heap.size := by
  obtain ⟨A, rfl, h2, h3⟩ := h
  exact fun b hb => (h2.lt b hb).2
theorem DgAt.move {S : Nat → Prop} {u : Value} {d : List Int} (h : DgAt w f u d) (hc : Chg S w w') (hS : ∀ b, b < w.heap.size → S b → f b ≠ 50) (hf : ∀ b, b < w.heap.size → f' b = f b) : DgAt w' f' u d := by
  obtain ⟨A, rfl, h2, h3⟩ := h
  exact ⟨A, rfl, h2.chg hc (fun b hb hs => hS b (h2.lt b hb).2 hs (h3 b hb)), fun b hb => (hf b (h2.lt b hb).2).trans (h3 b hb)⟩
theorem DgAt.one {u : Value} {d : List Int} (h : DgAt w f u d) : u.oneCell' = true := by
  obtain ⟨A, rfl, _⟩ := h
  rfl
theorem Els.one_ : ∀ {us : List Value} {ds : List (List Int)}, Els w f us ds → ∀ u ∈ us, u.oneCell' = true
  | [], [], _, _, h => by cases h
  | u :: us, d :: ds, h, v, hv => by
    rcases List.mem_cons.1 hv with rfl | hv
    · exact h.1.one
    · exact Els.one_ h.2 v hv
  | [], d :: ds, h, _, _ => h.elim
  | u :: us, [], h, _, _ => h.elim
end

/-- One side: its end, what it wrote and read, the datagrams on the way to it. -/
structure Sd where
  g : Nat
  s : En
  vo : Value
  vi : Value
  vt : Value
  tl : List Int
  vr : Value
  rl : List Int
  vw : Value
  way : List (List Int)
structure SideAt (w : World) (f : Nat → Nat) (i : Nat) (d : Sd) : Prop where
  e : EnAt d.g w d.s d.vo d.vi
  ok : EnOk d.s
  fin : EnFin d.s
  t : OwnS w 0 5 1 d.vt d.tl.length (d.tl.map (Value.int .u8))
  r : OwnS w 0 5 1 d.vr d.rl.length (d.rl.map (Value.int .u8))
  wo : ∃ vs, OwnS w 0 22 1 d.vw d.way.length vs ∧ Els w f vs d.way
  fe : ∀ b, Fp d.g d.vo d.vi b → f b = 10 + i
  ft : ∀ b, d.vt.ownBlock = some b → f b = 20 + i
  fr : ∀ b, d.vr.ownBlock = some b → f b = 30 + i
  fw : ∀ b, d.vw.ownBlock = some b → f b = 40 + i
structure Bk where
  eb : Nat
  wb : Nat
  tb : Nat
  rb : Nat
def pairF {α : Type} (k : Nat) (x y : α) (i : Nat) : α := if i = k then x else y
def ptrOf (d : Sd) : Value := .pointer (some ⟨d.g, 0, none⟩)
structure Mem (tE tW tT : TypeId) (B : Nat) (W w : World) (f : Nat → Nat) (k j : Nat) (q : Bk) (a b : Sd) : Prop where
  sa : SideAt w f k a
  sb : SideAt w f j b
  ce : Cel w q.eb tE 2 (pairF k (ptrOf a) (ptrOf b))
  cw : Cel w q.wb tW 2 (pairF k a.vw b.vw)
  ct : Cel w q.tb tT 2 (pairF k a.vt b.vt)
  cr : Cel w q.rb tT 2 (pairF k a.vr b.vr)
  fe : f q.eb = 1
  fw : f q.wb = 2
  ft : f q.tb = 3
  fr : f q.rb = 4
  low : ∀ x, f x ≠ 0 → B ≤ x
  bel : Below B W w
  kj : (k = 0 ∧ j = 1) ∨ (k = 1 ∧ j = 0)
/-- A block that the walk holds beside: the round's own operation. -/
def Keep (w : World) (f : Nat → Nat) (w' : World) (f' : Nat → Nat) : Prop := ∀ x T n F, Cel w x T n F → f x = 5 → Cel w' x T n F ∧ f' x = 5
theorem Keep.trans {w w1 w2 : World} {f f1 f2 : Nat → Nat} (h : Keep w f w1 f1) (h' : Keep w1 f1 w2 f2) : Keep w f w2 f2 := fun x T n F hc hf => by
  obtain ⟨h1, h2⟩ := h x T n F hc hf
  exact h' x T n F h1 h2
section
variable {tE tW tT : TypeId} {B : Nat} {W w w' : World} {f f' : Nat → Nat} {k j i : Nat} {q : Bk} {a b d : Sd}
theorem pair_swap {α : Type} {x y : α} (h : (k = 0 ∧ j = 1) ∨ (k = 1 ∧ j = 0)) : ∀ i, i < 2 → pairF k x y i = pairF j y x i := by
  intro i hi
  unfold pairF
  rcases h with ⟨rfl, rfl⟩ | ⟨rfl, rfl⟩ <;> (have : i = 0 ∨ i = 1 := by omega) <;> rcases this with rfl | rfl <;> rfl
theorem Mem.swap (h : Mem tE tW tT B W w f k j q a b) : Mem tE tW tT B W w f j k q b a :=
  ⟨h.sb, h.sa, h.ce.congr (pair_swap h.kj), h.cw.congr (pair_swap h.kj), h.ct.congr (pair_swap h.kj), h.cr.congr (pair_swap h.kj), h.fe, h.fw, h.ft, h.fr, h.low, h.bel, by have := h.kj; omega⟩
theorem SideAt.move {S : Nat → Prop} (h : SideAt w f i d) (hc : Chg S w w') (hS : ∀ b, b < w.heap.size → S b → f b ≠ 10 + i ∧ f b ≠ 20 + i ∧ f b ≠ 30 + i ∧ f b ≠ 40 + i ∧ f b ≠ 50) (hf : ∀ b, b < w.heap.size → f' b = f b) : SideAt w' f' i d := by
  obtain ⟨vs, ho, hE⟩ := h.wo
  refine ⟨h.e.chg hc (fun b hb hs => (hS b (h.e.fp_lt b hb) hs).1 (h.fe b hb)), h.ok, h.fin, h.t.chg hc (fun b hb hs => (hS b (h.t.lt b hb).2 hs).2.1 (h.ft b hb)), h.r.chg hc (fun b hb hs => (hS b (h.r.lt b hb).2 hs).2.2.1 (h.fr b hb)),
    ⟨vs, ho.chg hc (fun b hb hs => (hS b (ho.lt b hb).2 hs).2.2.2.1 (h.fw b hb)), hE.imp fun u d hd => hd.move hc (fun b hb hs => (hS b hb hs).2.2.2.2) hf⟩, ?_, ?_, ?_, ?_⟩
  · exact fun b hb => (hf b (h.e.fp_lt b hb)).trans (h.fe b hb)
  · exact fun b hb => (hf b (h.t.lt b hb).2).trans (h.ft b hb)
  · exact fun b hb => (hf b (h.r.lt b hb).2).trans (h.fr b hb)
  · exact fun b hb => (hf b (ho.lt b hb).2).trans (h.fw b hb)
theorem Mem.cellE (h : Mem tE tW tT B W w f k j q a b) : w.cell? ⟨q.eb, k, none⟩ = some (.pointer (some ⟨a.g, 0, none⟩)) := by
  have := h.ce.cell k (by have := h.kj; omega)
  rwa [pairF, if_pos rfl] at this
theorem Mem.cellW (h : Mem tE tW tT B W w f k j q a b) : w.cell? ⟨q.wb, k, none⟩ = some a.vw := by
  have := h.cw.cell k (by have := h.kj; omega)
  rwa [pairF, if_pos rfl] at this
theorem Mem.cellT (h : Mem tE tW tT B W w f k j q a b) : w.cell? ⟨q.tb, k, none⟩ = some a.vt := by
  have := h.ct.cell k (by have := h.kj; omega)
  rwa [pairF, if_pos rfl] at this
theorem Mem.cellR (h : Mem tE tW tT B W w f k j q a b) : w.cell? ⟨q.rb, k, none⟩ = some a.vr := by
  have := h.cr.cell k (by have := h.kj; omega)
  rwa [pairF, if_pos rfl] at this
theorem Mem.blk (h : Mem tE tW tT B W w f k j q a b) : q.eb < w.heap.size ∧ q.wb < w.heap.size ∧ q.tb < w.heap.size ∧ q.rb < w.heap.size := ⟨h.ce.blk, h.cw.blk, h.ct.blk, h.cr.blk⟩
theorem Mem.size (h : Mem tE tW tT B W w f k j q a b) : B ≤ w.heap.size := Nat.le_of_lt (Nat.lt_of_le_of_lt (h.low q.eb (by rw [h.fe]; decide)) h.ce.blk)
/-- What makes memory alone leaves all. -/
theorem Mem.below (h : Mem tE tW tT B W w f k j q a b) (hb : Below w.heap.size w w') : Mem tE tW tT B W w' f k j q a b := by
  have hc : Chg (fun _ => False) w w' := Chg.of_below hb
  exact ⟨h.sa.move hc (fun _ _ h => h.elim) (fun _ _ => rfl), h.sb.move hc (fun _ _ h => h.elim) (fun _ _ => rfl), h.ce.chg hc id, h.cw.chg hc id, h.ct.chg hc id, h.cr.chg hc id, h.fe, h.fw, h.ft, h.fr, h.low, h.bel.trans (hb.mono h.size), h.kj⟩
theorem Keep.below (hb : Below w.heap.size w w') : Keep w f w' f := fun x T n F hc hf => ⟨hc.below hb hc.blk, hf⟩
/-- The labels, with one label for what is new. -/
def relab (f : Nat → Nat) (H l : Nat) (x : Nat) : Nat := if x < H then f x else l
theorem relab_old {H l x : Nat} (h : x < H) : relab f H l x = f x := if_pos h
theorem relab_new {H l x : Nat} (h : H ≤ x) : relab f H l x = l := if_neg (by omega)
/-- What a call on the one end leaves. -/
theorem Mem.step {S : Nat → Prop} {s' : En} {vo' vi' : Value} (h : Mem tE tW tT B W w f k j q a b) (hE : EnAt a.g w' s' vo' vi') (hok : EnOk s') (hfin : EnFin s') (hC : Chg S w w') (hS : ∀ x, x < w.heap.size → S x → Fp a.g a.vo a.vi x) (hFo : Fresh w a.vo vo') (hFi : Fresh w a.vi vi') :
    ∃ f', Mem tE tW tT B W w' f' k j q { a with s := s', vo := vo', vi := vi' } b ∧ Keep w f w' f' := by
  have hl : ∀ x, x < w.heap.size → S x → f x = 10 + k := fun x hx hs => h.sa.fe x (hS x hx hs)
  have hkj := h.kj
  have hold : ∀ x, x < w.heap.size → relab f w.heap.size (10 + k) x = f x := fun x hx => relab_old hx
  have hb := h.sb.move (f' := relab f w.heap.size (10 + k)) hC (fun x hx hs => by have := hl x hx hs; omega) hold
  have hz := h.blk
  obtain ⟨vs, ho, hv⟩ := h.sa.wo
  have key : ∀ {l : Nat} {x : Nat}, x < w.heap.size → f x = l → l ≠ 10 + k → ¬ S x := fun hx hf hne hs => hne ((hf.symm).trans (hl _ hx hs))
  refine ⟨relab f w.heap.size (10 + k), ⟨⟨hE, hok, hfin, ?_, ?_, ⟨vs, ?_, ?_⟩, ?_, ?_, ?_, ?_⟩, hb, h.ce.chg hC (key hz.1 h.fe (by omega)), h.cw.chg hC (key hz.2.1 h.fw (by omega)), h.ct.chg hC (key hz.2.2.1 h.ft (by omega)), h.cr.chg hC (key hz.2.2.2 h.fr (by omega)), (hold _ hz.1).trans h.fe, (hold _ hz.2.1).trans h.fw, (hold _ hz.2.2.1).trans h.ft, (hold _ hz.2.2.2).trans h.fr, ?_, ?_, hkj⟩, ?_⟩
  · exact h.sa.t.chg hC (fun x hx => key (h.sa.t.lt x hx).2 (h.sa.ft x hx) (by omega))
  · exact h.sa.r.chg hC (fun x hx => key (h.sa.r.lt x hx).2 (h.sa.fr x hx) (by omega))
  · exact ho.chg hC (fun x hx => key (ho.lt x hx).2 (h.sa.fw x hx) (by omega))
  · exact hv.imp fun u d hd => hd.move hC (fun x hx hs => by have := hl x hx hs; omega) hold
  · have fresh : ∀ {v v' : Value}, Fresh w v v' → (∀ x, v.ownBlock = some x → Fp a.g a.vo a.vi x) → ∀ x, v'.ownBlock = some x → relab f w.heap.size (10 + k) x = 10 + k := by
      intro v v' hF hv x hx
      rcases hF with hF | hF
      · have h1 := hv x (by rw [← hF]; exact hx)
        rw [hold x (h.sa.e.fp_lt x h1)]
        exact h.sa.fe x h1
      · exact relab_new (hF x hx)
    rintro x (rfl | hx | hx)
    · show relab f w.heap.size (10 + k) a.g = _
      rw [hold _ h.sa.e.blk]; exact h.sa.fe _ (.inl rfl)
    · exact fresh hFo (fun x hx => .inr (.inl hx)) x hx
    · exact fresh hFi (fun x hx => .inr (.inr hx)) x hx
  · exact fun x hx => (hold x (h.sa.t.lt x hx).2).trans (h.sa.ft x hx)
  · exact fun x hx => (hold x (h.sa.r.lt x hx).2).trans (h.sa.fr x hx)
  · exact fun x hx => (hold x (ho.lt x hx).2).trans (h.sa.fw x hx)
  · intro x hx
    by_cases hlt : x < w.heap.size
    · exact h.low x (by rwa [hold x hlt] at hx)
    · have := h.size; omega
  · exact h.bel.trans (hC.below h.size (fun x hx hs => by have h1 := h.size; have := hl x (by omega) hs; have := h.low x (by omega); omega))
  · intro x T n F hc hf
    exact ⟨hc.chg hC (key hc.blk hf (by omega)), (hold x hc.blk).trans hf⟩
/-- A row has grown (or is new), and its value was stored into the cell of the one side: what was written. -/
theorem Mem.rowT {v' : Value} {tl' : List Int} (h : Mem tE tW tT B W w f k j q a b) (hC : Chg (fun x => a.vt.ownBlock = some x) w w') (ho : OwnS w' 0 5 1 v' tl'.length (tl'.map (Value.int .u8))) (hF : Fresh w a.vt v') :
    ∃ f', Mem tE tW tT B W (w'.setCell ⟨q.tb, k, none⟩ v') f' k j q { a with vt := v', tl := tl' } b ∧ Keep w f (w'.setCell ⟨q.tb, k, none⟩ v') f' := by
  have hkj := h.kj
  have hz := h.blk
  have hC2 : Chg (fun x => a.vt.ownBlock = some x ∨ x = q.tb) w (w'.setCell ⟨q.tb, k, none⟩ v') := (hC.mono (fun x _ hx => .inl hx)).setCell (.inl (.inr rfl)) v'
  have hl : ∀ x, x < w.heap.size → (a.vt.ownBlock = some x ∨ x = q.tb) → f x = 20 + k ∨ f x = 3 := by
    rintro x hx (h1 | rfl)
    · exact .inl (h.sa.ft x h1)
    · exact .inr h.ft
  have hold : ∀ x, x < w.heap.size → relab f w.heap.size (20 + k) x = f x := fun x hx => relab_old hx
  have hb := h.sb.move (f' := relab f w.heap.size (20 + k)) hC2 (fun x hx hs => by have := hl x hx hs; omega) hold
  have hft : ∀ x, v'.ownBlock = some x → relab f w.heap.size (20 + k) x = 20 + k := by
    intro x hx
    rcases hF with hF | hF
    · rw [hF] at hx
      rw [hold x (h.sa.t.lt x hx).2]; exact h.sa.ft x hx
    · exact relab_new (hF x hx)
  obtain ⟨vs, how, hv⟩ := h.sa.wo
  have key : ∀ {l : Nat} {x : Nat}, x < w.heap.size → f x = l → l ≠ 20 + k → l ≠ 3 → ¬ (a.vt.ownBlock = some x ∨ x = q.tb) := fun hx hf h1 h2 hs => by have := hl _ hx hs; omega
  refine ⟨relab f w.heap.size (20 + k), ⟨⟨h.sa.e.chg hC2 (fun x hx => key (h.sa.e.fp_lt x hx) (h.sa.fe x hx) (by omega) (by omega)), h.sa.ok, h.sa.fin, ?_, ?_, ⟨vs, ?_, ?_⟩, ?_, hft, ?_, ?_⟩, hb, h.ce.chg hC2 (key hz.1 h.fe (by omega) (by omega)), h.cw.chg hC2 (key hz.2.1 h.fw (by omega) (by omega)), ?_, h.cr.chg hC2 (key hz.2.2.2 h.fr (by omega) (by omega)), (hold _ hz.1).trans h.fe, (hold _ hz.2.1).trans h.fw, (hold _ hz.2.2.1).trans h.ft, (hold _ hz.2.2.2).trans h.fr, ?_, ?_, hkj⟩, ?_⟩
  · refine ho.setFar (fun he => ?_) _
    have h1 := hft _ he
    rw [hold _ hz.2.2.1, h.ft] at h1
    omega
  · exact h.sa.r.chg hC2 (fun x hx => key (h.sa.r.lt x hx).2 (h.sa.fr x hx) (by omega) (by omega))
  · exact how.chg hC2 (fun x hx => key (how.lt x hx).2 (h.sa.fw x hx) (by omega) (by omega))
  · exact hv.imp fun u d hd => hd.move hC2 (fun x hx hs => by have := hl x hx hs; omega) hold
  · exact fun x hx => (hold x (h.sa.e.fp_lt x hx)).trans (h.sa.fe x hx)
  · exact fun x hx => (hold x (h.sa.r.lt x hx).2).trans (h.sa.fr x hx)
  · exact fun x hx => (hold x (how.lt x hx).2).trans (h.sa.fw x hx)
  · have h1 := (h.ct.chg hC (fun hs => by have h2 := h.sa.ft _ hs; rw [h.ft] at h2; omega)).set k v'
    refine h1.congr fun i _ => ?_
    unfold pairF
    by_cases e : i = k
    · rw [if_pos e, if_pos e]
    · rw [if_neg e, if_neg e, if_neg e]
  · intro x hx
    by_cases hlt : x < w.heap.size
    · exact h.low x (by rwa [hold x hlt] at hx)
    · have := h.size; omega
  · exact h.bel.trans (hC2.below h.size (fun x hx hs => by have h1 := h.size; have := hl x (by omega) hs; have := h.low x (by omega); omega))
  · intro x T n F hc hf
    exact ⟨hc.chg hC2 (key hc.blk hf (by omega) (by omega)), (hold x hc.blk).trans hf⟩
/-- The like of what was read. -/
theorem Mem.rowR {v' : Value} {rl' : List Int} (h : Mem tE tW tT B W w f k j q a b) (hC : Chg (fun x => a.vr.ownBlock = some x) w w') (ho : OwnS w' 0 5 1 v' rl'.length (rl'.map (Value.int .u8))) (hF : Fresh w a.vr v') :
    ∃ f', Mem tE tW tT B W (w'.setCell ⟨q.rb, k, none⟩ v') f' k j q { a with vr := v', rl := rl' } b ∧ Keep w f (w'.setCell ⟨q.rb, k, none⟩ v') f' := by
  have hkj := h.kj
  have hz := h.blk
  have hC2 : Chg (fun x => a.vr.ownBlock = some x ∨ x = q.rb) w (w'.setCell ⟨q.rb, k, none⟩ v') := (hC.mono (fun x _ hx => .inl hx)).setCell (.inl (.inr rfl)) v'
  have hl : ∀ x, x < w.heap.size → (a.vr.ownBlock = some x ∨ x = q.rb) → f x = 30 + k ∨ f x = 4 := by
    rintro x hx (h1 | rfl)
    · exact .inl (h.sa.fr x h1)
    · exact .inr h.fr
  have hold : ∀ x, x < w.heap.size → relab f w.heap.size (30 + k) x = f x := fun x hx => relab_old hx
  have hb := h.sb.move (f' := relab f w.heap.size (30 + k)) hC2 (fun x hx hs => by have := hl x hx hs; omega) hold
  have hft : ∀ x, v'.ownBlock = some x → relab f w.heap.size (30 + k) x = 30 + k := by
    intro x hx
    rcases hF with hF | hF
    · rw [hF] at hx
      rw [hold x (h.sa.r.lt x hx).2]; exact h.sa.fr x hx
    · exact relab_new (hF x hx)
  obtain ⟨vs, how, hv⟩ := h.sa.wo
  have key : ∀ {l : Nat} {x : Nat}, x < w.heap.size → f x = l → l ≠ 30 + k → l ≠ 4 → ¬ (a.vr.ownBlock = some x ∨ x = q.rb) := fun hx hf h1 h2 hs => by have := hl _ hx hs; omega
  refine ⟨relab f w.heap.size (30 + k), ⟨⟨h.sa.e.chg hC2 (fun x hx => key (h.sa.e.fp_lt x hx) (h.sa.fe x hx) (by omega) (by omega)), h.sa.ok, h.sa.fin, ?_, ?_, ⟨vs, ?_, ?_⟩, ?_, ?_, hft, ?_⟩, hb, h.ce.chg hC2 (key hz.1 h.fe (by omega) (by omega)), h.cw.chg hC2 (key hz.2.1 h.fw (by omega) (by omega)), h.ct.chg hC2 (key hz.2.2.1 h.ft (by omega) (by omega)), ?_, (hold _ hz.1).trans h.fe, (hold _ hz.2.1).trans h.fw, (hold _ hz.2.2.1).trans h.ft, (hold _ hz.2.2.2).trans h.fr, ?_, ?_, hkj⟩, ?_⟩
  · exact h.sa.t.chg hC2 (fun x hx => key (h.sa.t.lt x hx).2 (h.sa.ft x hx) (by omega) (by omega))
  · refine ho.setFar (fun he => ?_) _
    have h1 := hft _ he
    rw [hold _ hz.2.2.2, h.fr] at h1
    omega
  · exact how.chg hC2 (fun x hx => key (how.lt x hx).2 (h.sa.fw x hx) (by omega) (by omega))
  · exact hv.imp fun u d hd => hd.move hC2 (fun x hx hs => by have := hl x hx hs; omega) hold
  · exact fun x hx => (hold x (h.sa.e.fp_lt x hx)).trans (h.sa.fe x hx)
  · exact fun x hx => (hold x (h.sa.t.lt x hx).2).trans (h.sa.ft x hx)
  · exact fun x hx => (hold x (how.lt x hx).2).trans (h.sa.fw x hx)
  · have h1 := (h.cr.chg hC (fun hs => by have h2 := h.sa.fr _ hs; rw [h.fr] at h2; omega)).set k v'
    refine h1.congr fun i _ => ?_
    unfold pairF
    by_cases e : i = k
    · rw [if_pos e, if_pos e]
    · rw [if_neg e, if_neg e, if_neg e]
  · intro x hx
    by_cases hlt : x < w.heap.size
    · exact h.low x (by rwa [hold x hlt] at hx)
    · have := h.size; omega
  · exact h.bel.trans (hC2.below h.size (fun x hx hs => by have h1 := h.size; have := hl x (by omega) hs; have := h.low x (by omega); omega))
  · intro x T n F hc hf
    exact ⟨hc.chg hC2 (key hc.blk hf (by omega) (by omega)), (hold x hc.blk).trans hf⟩
/-- The datagrams on the way: the new row's label is the side's, what is new besides is a datagram's. -/
def relab2 (f : Nat → Nat) (H : Nat) (v : Value) (l : Nat) (x : Nat) : Nat := if x < H then f x else if v.ownBlock = some x then l else 50
theorem Mem.rowW {v' : Value} {vs' : List Value} {way' : List (List Int)} (h : Mem tE tW tT B W w f k j q a b) (hC : Chg (fun x => a.vw.ownBlock = some x) w w') (ho : OwnS w' 0 22 1 v' way'.length vs') (hF : Fresh w a.vw v') (hE : Els w' (relab2 f w.heap.size v' (40 + k)) vs' way') :
    ∃ f', Mem tE tW tT B W (w'.setCell ⟨q.wb, k, none⟩ v') f' k j q { a with vw := v', way := way' } b ∧ Keep w f (w'.setCell ⟨q.wb, k, none⟩ v') f' := by
  have hkj := h.kj
  have hz := h.blk
  have hC2 : Chg (fun x => a.vw.ownBlock = some x ∨ x = q.wb) w (w'.setCell ⟨q.wb, k, none⟩ v') := (hC.mono (fun x _ hx => .inl hx)).setCell (.inl (.inr rfl)) v'
  have hl : ∀ x, x < w.heap.size → (a.vw.ownBlock = some x ∨ x = q.wb) → f x = 40 + k ∨ f x = 2 := by
    rintro x hx (h1 | rfl)
    · exact .inl (h.sa.fw x h1)
    · exact .inr h.fw
  have hold : ∀ x, x < w.heap.size → relab2 f w.heap.size v' (40 + k) x = f x := fun x hx => if_pos hx
  have hb := h.sb.move (f' := relab2 f w.heap.size v' (40 + k)) hC2 (fun x hx hs => by have := hl x hx hs; omega) hold
  have hft : ∀ x, v'.ownBlock = some x → relab2 f w.heap.size v' (40 + k) x = 40 + k := by
    intro x hx
    obtain ⟨vs, how, hv⟩ := h.sa.wo
    rcases hF with hF | hF
    · have hx' := hx
      rw [hF] at hx'
      rw [hold x (how.lt x hx').2]; exact h.sa.fw x hx'
    · have := hF x hx
      unfold relab2
      rw [if_neg (by omega), if_pos hx]
  obtain ⟨vs, how, hv⟩ := h.sa.wo
  have key : ∀ {l : Nat} {x : Nat}, x < w.heap.size → f x = l → l ≠ 40 + k → l ≠ 2 → ¬ (a.vw.ownBlock = some x ∨ x = q.wb) := fun hx hf h1 h2 hs => by have := hl _ hx hs; omega
  have hfar : v'.ownBlock ≠ some q.wb := by
    intro he
    have h1 := hft _ he
    rw [hold _ hz.2.1, h.fw] at h1
    omega
  refine ⟨relab2 f w.heap.size v' (40 + k), ⟨⟨h.sa.e.chg hC2 (fun x hx => key (h.sa.e.fp_lt x hx) (h.sa.fe x hx) (by omega) (by omega)), h.sa.ok, h.sa.fin, ?_, ?_, ⟨vs', ho.setFar hfar _, ?_⟩, ?_, ?_, ?_, hft⟩, hb, h.ce.chg hC2 (key hz.1 h.fe (by omega) (by omega)), ?_, h.ct.chg hC2 (key hz.2.2.1 h.ft (by omega) (by omega)), h.cr.chg hC2 (key hz.2.2.2 h.fr (by omega) (by omega)), (hold _ hz.1).trans h.fe, (hold _ hz.2.1).trans h.fw, (hold _ hz.2.2.1).trans h.ft, (hold _ hz.2.2.2).trans h.fr, ?_, ?_, hkj⟩, ?_⟩
  · exact h.sa.t.chg hC2 (fun x hx => key (h.sa.t.lt x hx).2 (h.sa.ft x hx) (by omega) (by omega))
  · exact h.sa.r.chg hC2 (fun x hx => key (h.sa.r.lt x hx).2 (h.sa.fr x hx) (by omega) (by omega))
  · refine hE.imp fun u d hd => hd.move ((Chg.refl (fun x => x = q.wb) w').setCell (.inl rfl) _) (fun x hx hs => ?_) (fun _ _ => rfl)
    subst hs
    rw [hold _ hz.2.1, h.fw]
    decide
  · exact fun x hx => (hold x (h.sa.e.fp_lt x hx)).trans (h.sa.fe x hx)
  · exact fun x hx => (hold x (h.sa.t.lt x hx).2).trans (h.sa.ft x hx)
  · exact fun x hx => (hold x (h.sa.r.lt x hx).2).trans (h.sa.fr x hx)
  · have h1 := (h.cw.chg hC (fun hs => by have h2 := h.sa.fw _ hs; rw [h.fw] at h2; omega)).set k v'
    refine h1.congr fun i _ => ?_
    unfold pairF
    by_cases e : i = k
    · rw [if_pos e, if_pos e]
    · rw [if_neg e, if_neg e, if_neg e]
  · intro x hx
    by_cases hlt : x < w.heap.size
    · exact h.low x (by rwa [hold x hlt] at hx)
    · have := h.size; omega
  · exact h.bel.trans (hC2.below h.size (fun x hx hs => by have h1 := h.size; have := hl x (by omega) hs; have := h.low x (by omega); omega))
  · intro x T n F hc hf
    exact ⟨hc.chg hC2 (key hc.blk hf (by omega) (by omega)), (hold x hc.blk).trans hf⟩
end
/-- At the loop's head: two new ends, nothing written, read or sent. -/
def sd0 (g : Nat) (st : Int) : Sd := ⟨g, newEnd 3 st, .slice none 0 0, .slice none 0 0, .slice none 0 0, [], .slice none 0 0, [], .slice none 0 0, []⟩
def f0 (g0 g1 H : Nat) (x : Nat) : Nat := if x = g0 then 10 else if x = g1 then 11 else if x = H then 1 else if x = H + 1 then 2 else if x = H + 2 then 3 else if x = H + 3 then 4 else 0
theorem f0_1 {g0 g1 H : Nat} (h0 : g0 < H) (h1 : g1 < H) : f0 g0 g1 H H = 1 := by unfold f0; rw [if_neg (by omega), if_neg (by omega), if_pos rfl]
theorem f0_2 {g0 g1 H : Nat} (h0 : g0 < H) (h1 : g1 < H) : f0 g0 g1 H (H + 1) = 2 := by unfold f0; rw [if_neg (by omega), if_neg (by omega), if_neg (by omega), if_pos rfl]
theorem f0_3 {g0 g1 H : Nat} (h0 : g0 < H) (h1 : g1 < H) : f0 g0 g1 H (H + 1 + 1) = 3 := by unfold f0; rw [if_neg (by omega), if_neg (by omega), if_neg (by omega), if_neg (by omega), if_pos rfl]
theorem f0_4 {g0 g1 H : Nat} (h0 : g0 < H) (h1 : g1 < H) : f0 g0 g1 H (H + 1 + 1 + 1) = 4 := by unfold f0; rw [if_neg (by omega), if_neg (by omega), if_neg (by omega), if_neg (by omega), if_neg (by omega), if_pos rfl]
theorem f0_low {g0 g1 H x : Nat} (h0 : g0 < H) (h1 : g0 < g1) (hx : x < g0) : f0 g0 g1 H x = 0 := by unfold f0; rw [if_neg (by omega), if_neg (by omega), if_neg (by omega), if_neg (by omega), if_neg (by omega), if_neg (by omega)]
theorem side0 {w : World} {f : Nat → Nat} {i g : Nat} {st : Int} (hst : 1 ≤ st ∧ st ≤ 4) (h : EnAt g w (newEnd 3 st) (.slice none 0 0) (.slice none 0 0)) (hf : f g = 10 + i) : SideAt w f i (sd0 g st) := by
  refine ⟨h, newEnd_ok 3 st hst, newEnd_fin 3 st, OwnS.nil _ _ _ _, OwnS.nil _ _ _ _, ⟨[], OwnS.nil _ _ _ _, trivial⟩, ?_, ?_, ?_, ?_⟩
  · rintro x (rfl | hx | hx)
    · exact hf
    · cases hx
    · cases hx
  · intro x hx; cases hx
  · intro x hx; cases hx
  · intro x hx; cases hx
theorem pair_cells (x y : Value) : ∀ i, i < (#[x, y] : Array Value).size → (#[x, y] : Array Value)[i]? = some (pairF 0 x y i) := by
  intro i hi
  have hi : i < 2 := hi
  have : i = 0 ∨ i = 1 := by omega
  rcases this with rfl | rfl <;> rfl
theorem Mem.init {tE tW tT : TypeId} {W w1 w2 : World} {e1 e2 : Ending} (h1 : EnNew W (newEnd 3 1) e1 w1) (h2 : EnNew w1 (newEnd 3 2) e2 w2) (X Y : Value) (hX : X = .pointer (some ⟨W.heap.size, 0, none⟩)) (hY : Y = .pointer (some ⟨w1.heap.size, 0, none⟩)) :
    Mem tE tW tT W.heap.size W ((((w2.alloc (.cells #[X, Y] tE)).alloc (.cells #[.slice none 0 0, .slice none 0 0] tW)).alloc (.cells #[.slice none 0 0, .slice none 0 0] tT)).alloc (.cells #[.slice none 0 0, .slice none 0 0] tT))
      (f0 W.heap.size w1.heap.size w2.heap.size) 0 1 ⟨w2.heap.size, w2.heap.size + 1, w2.heap.size + 1 + 1, w2.heap.size + 1 + 1 + 1⟩ (sd0 W.heap.size 1) (sd0 w1.heap.size 2) := by
  subst hX
  subst hY
  obtain ⟨h2T, hb⟩ := Two.new h1 h2
  have g1 := h2T.e1.blk
  have g2 := h2T.e2.blk
  obtain ⟨_, hA, hbb1⟩ := h1
  have g3 := hA.blk
  have hba : Below w2.heap.size w2 ((((w2.alloc (.cells #[.pointer (some ⟨W.heap.size, 0, none⟩), .pointer (some ⟨w1.heap.size, 0, none⟩)] tE)).alloc (.cells #[.slice none 0 0, .slice none 0 0] tW)).alloc (.cells #[.slice none 0 0, .slice none 0 0] tT)).alloc (.cells #[.slice none 0 0, .slice none 0 0] tT)) :=
    ((((Below.refl _ _).alloc (Nat.le_refl _) _).alloc (by simp) _).alloc (by simp; omega) _).alloc (by simp; omega) _
  refine ⟨side0 (by decide) (h2T.e1.below hba) (if_pos rfl), side0 (by decide) (h2T.e2.below hba) ?_, ?_, ?_, ?_, ?_, ?_, ?_, ?_, ?_, ?_, ?_, .inl ⟨rfl, rfl⟩⟩
  · unfold f0; rw [if_neg (by omega), if_pos rfl]
  · exact (((Cel.new w2 tE _ _ (pair_cells _ _)).alloc _).alloc _).alloc _
  · have := ((Cel.new (w2.alloc (.cells #[.pointer (some ⟨W.heap.size, 0, none⟩), .pointer (some ⟨w1.heap.size, 0, none⟩)] tE)) tW _ _ (pair_cells (.slice none 0 0) (.slice none 0 0))).alloc (.cells #[.slice none 0 0, .slice none 0 0] tT)).alloc (.cells #[.slice none 0 0, .slice none 0 0] tT)
    rwa [show (w2.alloc (.cells #[.pointer (some ⟨W.heap.size, 0, none⟩), .pointer (some ⟨w1.heap.size, 0, none⟩)] tE)).heap.size = w2.heap.size + 1 by simp] at this
  · have := (Cel.new ((w2.alloc (.cells #[.pointer (some ⟨W.heap.size, 0, none⟩), .pointer (some ⟨w1.heap.size, 0, none⟩)] tE)).alloc (.cells #[.slice none 0 0, .slice none 0 0] tW)) tT _ _ (pair_cells (.slice none 0 0) (.slice none 0 0))).alloc (.cells #[.slice none 0 0, .slice none 0 0] tT)
    rwa [show ((w2.alloc (.cells #[.pointer (some ⟨W.heap.size, 0, none⟩), .pointer (some ⟨w1.heap.size, 0, none⟩)] tE)).alloc (.cells #[.slice none 0 0, .slice none 0 0] tW)).heap.size = w2.heap.size + 1 + 1 by simp] at this
  · have := Cel.new (((w2.alloc (.cells #[.pointer (some ⟨W.heap.size, 0, none⟩), .pointer (some ⟨w1.heap.size, 0, none⟩)] tE)).alloc (.cells #[.slice none 0 0, .slice none 0 0] tW)).alloc (.cells #[.slice none 0 0, .slice none 0 0] tT)) tT _ _ (pair_cells (.slice none 0 0) (.slice none 0 0))
    rwa [show (((w2.alloc (.cells #[.pointer (some ⟨W.heap.size, 0, none⟩), .pointer (some ⟨w1.heap.size, 0, none⟩)] tE)).alloc (.cells #[.slice none 0 0, .slice none 0 0] tW)).alloc (.cells #[.slice none 0 0, .slice none 0 0] tT)).heap.size = w2.heap.size + 1 + 1 + 1 by simp] at this
  · exact f0_1 g1 g2
  · exact f0_2 g1 g2
  · exact f0_3 g1 g2
  · exact f0_4 g1 g2
  · intro x hx
    rcases Nat.lt_or_ge x W.heap.size with h1 | h1
    · exact absurd (f0_low g1 g3 h1) hx
    · exact h1
  · exact hb.trans (hba.mono (by omega))
/-- What holds of one side's lists between rounds; o: what the other end was given to send. -/
structure PlS (N : Nat) (a : Sd) (o : List Int) : Prop where
  t : a.tl = a.s.out
  r : a.rl = a.s.inn
  rd : a.s.read = a.s.inn.length
  pre : a.s.inn <+: o
  sent : ∀ d ∈ a.way, SentBy o d
  wl : a.way.length ≤ 1048600 * N
def Pl (N : Nat) (a b : Sd) : Prop := PlS N a b.s.out ∧ PlS N b a.s.out
theorem Pl.swap {N : Nat} {a b : Sd} (h : Pl N a b) : Pl N b a := ⟨h.2, h.1⟩
theorem Pl.zero (g0 g1 : Nat) : Pl 0 (sd0 g0 1) (sd0 g1 2) := ⟨⟨rfl, rfl, rfl, List.nil_prefix, fun d h => (by cases h), Nat.zero_le _⟩, ⟨rfl, rfl, rfl, List.nil_prefix, fun d h => (by cases h), Nat.zero_le _⟩⟩
def OrdRel (tE tW tT : TypeId) (W : World) (q : Bk) (n : Nat) (nw i : Value) (w : World) : Prop :=
  ∃ (N : Nat) (now : Int) (f : Nat → Nat) (a b : Sd), i = .int .i64 N ∧ nw = .int .i64 now ∧ N ≤ n ∧ N ≤ 150 ∧ 0 ≤ now ∧ now ≤ 15 * N ∧ Mem tE tW tT W.heap.size W w f 0 1 q a b ∧ Pl N a b
end Go.Proofs.Ytoeipgbnjcgbjaa
