/- Coins in memory, with the rows of their ids. -/
import Derived.Test.YtdmggpngmlhboaaSrtI
import Derived.Test.YtdmggpngmlhboaaHufM
import Derived.Test.YtdmggpngmlhboaaCatInt
import Derived.Test.YtdmggpngmlhboaaCatCoin
namespace Go.Proofs.Ytdmggpngmlhboaa
open Go.RowKit
set_option linter.unusedVariables false

def idsV (l : List Nat) : List Value := l.map fun (x : Nat) => Value.int .i64 (x : Int)
/-- A coin of memory is a coin: its worth, and the row of its ids. -/
structure CoinAt (W : World) (B : Nat) (e : El) (c : Huf.Coin) : Prop where
  w : e.w = c.1
  n : e.n = c.2.length
  own : OwnS W B 3 1 (.slice e.A e.n e.c) e.n (idsV c.2)
def CoinsAt (w : World) (B : Nat) : List El → List Huf.Coin → Prop
  | [], [] => True
  | e :: L, c :: C => CoinAt w B e c ∧ CoinsAt w B L C
  | _, _ => False
theorem CoinsAt.imp {w w' : World} {B B' : Nat} (h : ∀ e c, CoinAt w B e c → CoinAt w' B' e c) : ∀ {L : List El} {C : List Huf.Coin}, CoinsAt w B L C → CoinsAt w' B' L C
  | [], [], _ => trivial
  | _ :: _, _ :: _, hc => ⟨h _ _ hc.1, CoinsAt.imp h hc.2⟩
  | [], _ :: _, hc => hc.elim
  | _ :: _, [], hc => hc.elim
theorem CoinsAt.length {w : World} {B : Nat} : ∀ {L : List El} {C : List Huf.Coin}, CoinsAt w B L C → L.length = C.length
  | [], [], _ => rfl
  | _ :: L, _ :: C, hc => by rw [List.length_cons, List.length_cons, CoinsAt.length hc.2]
  | [], _ :: _, hc => hc.elim
  | _ :: _, [], hc => hc.elim
theorem CoinsAt.get {w : World} {B : Nat} : ∀ {L : List El} {C : List Huf.Coin}, CoinsAt w B L C → ∀ (i : Nat) (c : Huf.Coin), C[i]? = some c → ∃ e, L[i]? = some e ∧ CoinAt w B e c
  | [], [], _, i, c, h => by simp at h
  | e :: L, c' :: C, hc, 0, c, h => by simp at h; subst h; exact ⟨e, rfl, hc.1⟩
  | e :: L, c' :: C, hc, i + 1, c, h => by
    obtain ⟨e', h1, h2⟩ := CoinsAt.get hc.2 i c (by simpa using h)
    exact ⟨e', by simpa using h1, h2⟩
  | [], _ :: _, hc, _, _, _ => hc.elim
  | _ :: _, [], hc, _, _, _ => hc.elim
theorem CoinsAt.append {w : World} {B : Nat} : ∀ {L : List El} {C : List Huf.Coin} {L' : List El} {C' : List Huf.Coin}, CoinsAt w B L C → CoinsAt w B L' C' → CoinsAt w B (L ++ L') (C ++ C')
  | [], [], _, _, _, h => h
  | _ :: _, _ :: _, _, _, hc, h => ⟨hc.1, CoinsAt.append hc.2 h⟩
  | [], _ :: _, _, _, hc, _ => hc.elim
  | _ :: _, [], _, _, hc, _ => hc.elim
/-- A row of ids and a row of coins do not share a block. -/
theorem OwnS.types {w : World} {b1 b2 n1 n2 s1 s2 : Nat} {t1 t2 : TypeId} {v1 v2 : Value} {x1 x2 : List Value} (h1 : OwnS w b1 t1 s1 v1 n1 x1) (h2 : OwnS w b2 t2 s2 v2 n2 x2) (ht : t1 ≠ t2) : ∀ k, v1.ownBlock = some k → v2.ownBlock ≠ some k := by
  intro k hk hk2
  rcases h1.2 with ⟨rfl, _⟩ | ⟨g, off, cap, cur, rfl, _, ⟨fr, hh, _⟩, _⟩
  · simp [Value.ownBlock] at hk
  rcases h2.2 with ⟨rfl, _⟩ | ⟨g', off', cap', cur', rfl, _, ⟨fr', hh', _⟩, _⟩
  · simp [Value.ownBlock] at hk2
  simp [Value.ownBlock] at hk hk2
  subst hk
  subst hk2
  rw [hh] at hh'
  injection hh' with hh'
  injection hh' with _ h3
  exact ht h3
theorem CoinAt.below {w w' : World} {B : Nat} {e : El} {c : Huf.Coin} (h : CoinAt w B e c) (hb : Below w.heap.size w w') : CoinAt w' B e c :=
  ⟨h.w, h.n, h.own.chg (S := fun _ => False) (Chg.of_below hb) (fun _ _ h => h)⟩
theorem CoinAt.base {w : World} {B B' : Nat} {e : El} {c : Huf.Coin} (h : CoinAt w B e c) (hB : B' ≤ B) : CoinAt w B' e c := ⟨h.w, h.n, h.own.base_ hB⟩
/-- What is changed in rows of coins leaves the coins' ids. -/
theorem CoinAt.chg {w w' : World} {B : Nat} {e : El} {c : Huf.Coin} {S : Nat → Prop} (h : CoinAt w B e c) (hc : Chg S w w') (hS : ∀ k, S k → ∃ b n s v x, OwnS w b 76 s v n x ∧ v.ownBlock = some k) : CoinAt w' B e c :=
  ⟨h.w, h.n, h.own.chg hc (fun k hk hs => by
    obtain ⟨b, n, s, v, x, ho, hv⟩ := hS k hs
    exact OwnS.types h.own ho (show 3 ≠ 76 by decide) k hk hv)⟩
theorem idsV_one (l : List Nat) : ∀ u ∈ idsV l, u.oneCell' = true := by
  intro u hu
  obtain ⟨x, _, rfl⟩ := List.mem_map.1 hu
  rfl
theorem idsV_append (a b : List Nat) : idsV (a ++ b) = idsV a ++ idsV b := by unfold idsV; exact List.map_append
theorem Src.own1 {P : Program} {w : World} {base : Nat} {e : TypeId} {n c : Nat} {A : Option Addr} {us : List Value} (h : OwnS w base e 1 (.slice A n c) n us) (h1 : ∀ u ∈ us, u.oneCell' = true) : Src P w 1 (.slice A n c) n us := by
  refine Src.vals (by rw [h.1]) h1 (fun hl => ?_)
  obtain ⟨g, off, c', hv, _, _, hc⟩ := h.cells hl
  injection hv with hA
  refine ⟨⟨g, off, none⟩, hA, fun j u hj => ?_⟩
  rw [Addr.add_lit, hc j (List.getElem?_eq_some_iff.1 hj).1, hj]
theorem CoinAt.src {w : World} {B : Nat} {e : El} {c : Huf.Coin} (h : CoinAt w B e c) : SrcAll_Int w (.slice e.A e.n e.c) e.n (idsV c.2) :=
  ⟨⟨_, _, rfl⟩, fun w' hb => Src.own1 (h.below hb).own (idsV_one _)⟩
/-- One coin that is to be appended, in a block of its own. -/
theorem Src.coin {P : Program} {w : World} (e : El) : Src P (w.alloc (.cells #[.int .i64 e.w, .slice e.A e.n e.c] 76)) 2 (.slice (some ⟨w.heap.size, 0, none⟩) 1 1) 1 (encE e) :=
  Src.vals rfl (by intro u hu; unfold encE at hu; rcases List.mem_cons.1 hu with rfl | hu <;> first | rfl | (rw [List.mem_singleton.1 hu]; rfl)) (fun _ => ⟨_, rfl, by exact World.news_of_block (heap_alloc_new w _)⟩)
/-- What packages has put behind one another, with one more. -/
def FPk (W : World) (B0 k : Nat) (P : List El) (Cp : List Huf.Coin) (c' : Huf.Coin) (v : Value) (w : World) : Prop :=
  ∃ e', OwnS w B0 76 2 v (k + 1) ((P ++ [e']).flatMap encE) ∧ CoinAt w B0 e' c' ∧ CoinsAt w B0 P Cp ∧ Below B0 W w
theorem FPk.mk {W w1 w9 : World} {B0 b0 k n c : Nat} {P : List El} {Cp : List Huf.Coin} {A : Option Addr} {ids : List Nat} {s : Int} {vo v9 : Value} (ho : OwnS w1 B0 76 2 vo k (P.flatMap encE)) (hi : OwnS w1 b0 3 1 (.slice A n c) n (idsV ids)) (hn : n = ids.length) (hP : CoinsAt w1 B0 P Cp) (hg : w1.grownBy w9 vo.ownBlock)
    (h9 : OwnS w9 B0 76 2 v9 (k + 1) (P.flatMap encE ++ encE ⟨s, A, n, c⟩)) (hB : Below B0 W w1) (hb : B0 ≤ b0) (hz : B0 ≤ w1.heap.size) : FPk W B0 k P Cp (s, ids) v9 w9 := by
  have hc : Chg (fun k => vo.ownBlock = some k) w1 w9 := Chg.of_grown hg (fun _ h => h)
  have hS : ∀ k, vo.ownBlock = some k → ∃ b n s v x, OwnS w1 b 76 s v n x ∧ v.ownBlock = some k := fun k hk => ⟨_, _, _, _, _, ho, hk⟩
  refine ⟨⟨s, A, n, c⟩, by rw [List.flatMap_append]; simpa using h9, CoinAt.chg ⟨rfl, hn, hi.base_ hb⟩ hc hS, hP.imp fun e c h => h.chg hc hS, hB.trans (hc.below hz (fun k hk hs => by have := (ho.lt k hs).1; omega))⟩
/-- Between the operations of one more package. -/
def IPk (w0 : World) (e1 e2 : El) (ids : List Nat) (F : Value → World → Prop) : List Value → World → Prop
  | [], w => Below w0.heap.size w0 w
  | [v], w => Below w0.heap.size w0 w ∧ ∃ bb, v = .slice (some ⟨bb, 0, none⟩) 2 2 ∧ bb < w.heap.size ∧ w.cell? ⟨bb, 0, none⟩ = some (.slice e1.A e1.n e1.c) ∧ w.cell? ⟨bb, 1, none⟩ = some (.slice e2.A e2.n e2.c)
  | [_, v], w => Below w0.heap.size w0 w ∧ ∃ A c, v = .slice A ids.length c ∧ OwnS w w0.heap.size 3 1 (.slice A ids.length c) ids.length (idsV ids)
  | [_, _, x], w => Below w0.heap.size w0 w ∧ ∃ A c, x = .agg #[.int .i64 (e1.w + e2.w), .slice A ids.length c] ∧ OwnS w w0.heap.size 3 1 (.slice A ids.length c) ids.length (idsV ids)
  | [_, _, _, u], w => Below w0.heap.size w0 w ∧ ∃ A c, OwnS w w0.heap.size 3 1 (.slice A ids.length c) ids.length (idsV ids) ∧ (∃ bb, u = .slice (some ⟨bb, 0, none⟩) 1 1) ∧ Src Try.prog w 2 u 1 (encE ⟨e1.w + e2.w, A, ids.length, c⟩)
  | [_, _, _, _, v], w => F v w
  | [_, _, _, _, v, x], w => x = v ∧ F v w
  | _, _ => True
theorem IPk.below {w0 w : World} {e1 e2 : El} {ids : List Nat} {F : Value → World → Prop} {us : Nat → Value} {p1 p2 p3 p4 p5 p6 m : Nat} (hm : m ≤ 4) (h : IPk w0 e1 e2 ids F (List.map us (List.take m [p1, p2, p3, p4, p5, p6])) w) : Below w0.heap.size w0 w := by
  match m, hm with
  | 0, _ => exact h
  | 1, _ => exact h.1
  | 2, _ => exact h.1
  | 3, _ => exact h.1
  | 4, _ => exact h.1
theorem SRow.e0 {w : World} {g off cap i : Nat} {L : List El} {x : El} (h : SRow w 76 2 encE g off cap L) (hi : L[i]? = some x) : w.cell? ⟨g, off + i * 2, none⟩ = some (.int .i64 x.w) := h.cell (c := 0) hi (by decide)
theorem SRow.e1 {w : World} {g off cap i : Nat} {L : List El} {x : El} (h : SRow w 76 2 encE g off cap L) (hi : L[i]? = some x) : w.cell? ⟨g, off + i * 2 + 1, none⟩ = some (.slice x.A x.n x.c) := h.cell (c := 1) hi (by decide)
theorem pk_get : ∀ (C : List Huf.Coin) (k : Nat) (c1 c2 : Huf.Coin), C[2 * k]? = some c1 → C[2 * k + 1]? = some c2 → (Huf.pk C)[k]? = some (c1.1 + c2.1, c1.2 ++ c2.2)
  | [], k, c1, c2, h, _ => by simp at h
  | [_], 0, c1, c2, _, h => by simp at h
  | [_], k + 1, c1, c2, h, _ => by simp [Nat.mul_add] at h
  | a :: b :: C, 0, c1, c2, h1, h2 => by simp at h1 h2; subst h1; subst h2; simp [Huf.pk]
  | a :: b :: C, k + 1, c1, c2, h1, h2 => by
    rw [Huf.pk, List.getElem?_cons_succ]
    rw [show 2 * (k + 1) = 2 * k + 1 + 1 by omega, List.getElem?_cons_succ, List.getElem?_cons_succ] at h1
    rw [show 2 * (k + 1) + 1 = 2 * k + 1 + 1 + 1 by omega, List.getElem?_cons_succ, List.getElem?_cons_succ] at h2
    exact pk_get C k c1 c2 h1 h2
end Go.Proofs.Ytdmggpngmlhboaa
