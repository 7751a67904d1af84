/- The document's coins in memory: how often each symbol is in them. -/
import Derived.Test.YtdmggpngmlhboaaHufL
namespace Go.Proofs.Ytdmggpngmlhboaa
open Go.RowKit
set_option linter.unusedVariables false

theorem Try.info_RCoin : (Try.prog.info? 84).map (fun i => (i.zero, i.size, i.bytes)) = some (some (Value.agg #[.int .i64 0, .slice none 0 0]), 2, 32) := by kernel_rfl
/-- A coin of memory is a coin: its worth, and how often each symbol is in it. -/
structure CoinR (m : Nat) (W : World) (B : Nat) (e : El) (c : Huf.Coin) : Prop where
  w : e.w = c.1
  n : e.n = m
  own : OwnS W B 3 1 (.slice e.A e.n e.c) e.n ((cntL m c.2).map (Value.int .i64))
def CoinsR (m : Nat) (w : World) (B : Nat) : List El → List Huf.Coin → Prop
  | [], [] => True
  | e :: L, c :: C => CoinR m w B e c ∧ CoinsR m w B L C
  | _, _ => False
section
variable {m : Nat} {w w' : World} {B B' : Nat}
theorem CoinsR.imp (h : ∀ e c, CoinR m w B e c → CoinR m w' B' e c) : ∀ {L : List El} {C : List Huf.Coin}, CoinsR m w B L C → CoinsR m w' B' L C
  | [], [], _ => trivial
  | _ :: _, _ :: _, hc => ⟨h _ _ hc.1, CoinsR.imp h hc.2⟩
  | [], _ :: _, hc => hc.elim
  | _ :: _, [], hc => hc.elim
theorem CoinsR.length : ∀ {L : List El} {C : List Huf.Coin}, CoinsR m w B L C → L.length = C.length
  | [], [], _ => rfl
  | _ :: L, _ :: C, hc => by rw [List.length_cons, List.length_cons, CoinsR.length hc.2]
  | [], _ :: _, hc => hc.elim
  | _ :: _, [], hc => hc.elim
theorem CoinsR.get : ∀ {L : List El} {C : List Huf.Coin}, CoinsR m w B L C → ∀ (i : Nat) (c : Huf.Coin), C[i]? = some c → ∃ e, L[i]? = some e ∧ CoinR m w B e c
  | [], [], _, i, c, h => by simp at h
  | e :: L, c' :: C, hc, 0, c, h => by simp at h; subst h; exact ⟨e, rfl, hc.1⟩
  | e :: L, c' :: C, hc, i + 1, c, h => by
    obtain ⟨e', h1, h2⟩ := CoinsR.get hc.2 i c (by simpa using h)
    exact ⟨e', by simpa using h1, h2⟩
  | [], _ :: _, hc, _, _, _ => hc.elim
  | _ :: _, [], hc, _, _, _ => hc.elim
theorem CoinsR.append : ∀ {L : List El} {C : List Huf.Coin} {L' : List El} {C' : List Huf.Coin}, CoinsR m w B L C → CoinsR m w B L' C' → CoinsR m w B (L ++ L') (C ++ C')
  | [], [], _, _, _, h => h
  | _ :: _, _ :: _, _, _, hc, h => ⟨hc.1, CoinsR.append hc.2 h⟩
  | [], _ :: _, _, _, hc, _ => hc.elim
  | _ :: _, [], _, _, hc, _ => hc.elim
theorem ltE_atR {e e' : El} {c c' : Huf.Coin} (h : CoinR m w B e c) (h' : CoinR m w B e' c') : ltE e e' = Huf.ltC c c' := by
  unfold ltE Huf.ltC
  rw [h.w, h'.w]
theorem CoinsR.ins {e : El} {c : Huf.Coin} (h : CoinR m w B e c) : ∀ {L : List El} {C : List Huf.Coin}, CoinsR m w B L C → CoinsR m w B (Srt.ins ltE e L) (Srt.ins Huf.ltC c C)
  | [], [], _ => ⟨h, trivial⟩
  | e' :: L, c' :: C, hc => by
    unfold Srt.ins
    rw [ltE_atR h hc.1]
    split
    · exact ⟨h, hc⟩
    · exact ⟨hc.1, CoinsR.ins h hc.2⟩
  | [], _ :: _, hc => hc.elim
  | _ :: _, [], hc => hc.elim
theorem CoinsR.isortA : ∀ {L : List El} {C : List Huf.Coin} {M : List El} {D : List Huf.Coin}, CoinsR m w B L C → CoinsR m w B M D → CoinsR m w B (Srt.isortA ltE M L) (Srt.isortA Huf.ltC D C)
  | [], [], _, _, _, h => h
  | e :: L, c :: C, M, D, hc, h => show CoinsR m w B (Srt.isortA ltE (Srt.ins ltE e M) L) (Srt.isortA Huf.ltC (Srt.ins Huf.ltC c D) C) from CoinsR.isortA hc.2 (CoinsR.ins hc.1 h)
  | [], _ :: _, _, _, hc, _ => hc.elim
  | _ :: _, [], _, _, hc, _ => hc.elim
theorem CoinsR.isort {L : List El} {C : List Huf.Coin} (h : CoinsR m w B L C) : CoinsR m w B (Srt.isort ltE L) (Srt.isort Huf.ltC C) := CoinsR.isortA h trivial
theorem CoinR.below {e : El} {c : Huf.Coin} (h : CoinR m w B e c) (hb : Below w.heap.size w w') : CoinR m w' B e c :=
  ⟨h.w, h.n, h.own.chg (S := fun _ => False) (Chg.of_below hb) (fun _ _ h => h)⟩
theorem CoinsR.below {L : List El} {C : List Huf.Coin} (h : CoinsR m w B L C) (hb : Below w.heap.size w w') : CoinsR m w' B L C := h.imp fun _ _ h => h.below hb
theorem CoinR.base {e : El} {c : Huf.Coin} (h : CoinR m w B e c) (hB : B' ≤ B) : CoinR m w B' e c := ⟨h.w, h.n, h.own.base_ hB⟩
theorem CoinR.chg {e : El} {c : Huf.Coin} {S : Nat → Prop} (h : CoinR m w B e c) (hc : Chg S w w') (hS : ∀ k, S k → ∃ b n s v x, OwnS w b 84 s v n x ∧ v.ownBlock = some k) : CoinR m w' B e c :=
  ⟨h.w, h.n, h.own.chg hc (fun k hk hs => by
    obtain ⟨b, n, s, v, x, ho, hv⟩ := hS k hs
    exact OwnS.types h.own ho (show 3 ≠ 84 by decide) k hk hv)⟩
theorem CoinsR.okAll {L : List El} {C : List Huf.Coin} (h : CoinsR m w B L C) (hC : ∀ c ∈ C, 0 ≤ c.1 ∧ c.1 ≤ 1152921504606846976) : ∀ e ∈ L, okE e := by
  intro e he
  obtain ⟨i, hi⟩ := List.mem_iff_getElem?.1 he
  have hil : i < C.length := by rw [← h.length]; exact (List.getElem?_eq_some_iff.1 hi).1
  obtain ⟨e', he', hce⟩ := h.get i _ (List.getElem?_eq_getElem hil)
  rw [hi] at he'
  injection he' with he'
  subst he'
  have := hC _ (List.getElem_mem hil)
  exact ⟨by rw [hce.w]; exact this.1, by rw [hce.w]; exact this.2⟩
end
/-- One coin that is to be appended, in a block of its own. -/
theorem Src.coinR {P : Program} {w : World} (e : El) : Src P (w.alloc (.cells #[.int .i64 e.w, .slice e.A e.n e.c] 84)) 2 (.slice (some ⟨w.heap.size, 0, none⟩) 1 1) 1 (encE e) :=
  Src.vals rfl (by intro u hu; unfold encE at hu; rcases List.mem_cons.1 hu with rfl | hu <;> first | rfl | (rw [List.mem_singleton.1 hu]; rfl)) (fun _ => ⟨_, rfl, by exact World.news_of_block (heap_alloc_new w _)⟩)
theorem Src.rowR {P : Program} {w : World} {base n c : Nat} {A : Option Addr} {L : List El} (h : OwnS w base 84 2 (.slice A n c) n (L.flatMap encE)) : Src P w 2 (.slice A n c) n (L.flatMap encE) := by
  refine Src.vals h.1 ?_ (fun hl => ?_)
  · intro u hu
    obtain ⟨x, _, hx⟩ := List.mem_flatMap.1 hu
    unfold encE at hx
    rcases List.mem_cons.1 hx with rfl | hx
    · rfl
    · rw [List.mem_singleton.1 hx]; rfl
  · obtain ⟨g, off, c', hv, _, _, hc⟩ := h.cells hl
    injection hv with hA
    refine ⟨⟨g, off, none⟩, hA, fun j u hj => ?_⟩
    rw [Addr.add_lit, hc j (List.getElem?_eq_some_iff.1 hj).1, hj]
/-- A row as a place in memory. -/
theorem SRow.of_ownR {T : TypeId} {w : World} {base n : Nat} {v : Value} {L : List El} (h : OwnS w base T 2 v n (L.flatMap encE)) (h0 : 0 < n) : ∃ g off c, v = .slice (some ⟨g, off, none⟩) n c ∧ L.length = n ∧ base ≤ g ∧ SRow w T 2 encE g off c L := by
  have hl : L.length = n := by
    have h1 := h.1
    rw [flat_length encE_len] at h1
    omega
  rcases h.2 with ⟨_, hn⟩ | ⟨g, off, cap, cur, rfl, hb, _⟩
  · omega
  · refine ⟨g, off, cap, rfl, hl, hb, ⟨?_, encE_len⟩⟩
    have := h.base_ (Nat.zero_le _)
    rw [hl]
    exact this
theorem SRow.r0 {T : TypeId} {w : World} {g off cap i : Nat} {L : List El} {x : El} (h : SRow w T 2 encE g off cap L) (hi : L[i]? = some x) : w.cell? ⟨g, off + i * 2, none⟩ = some (.int .i64 x.w) := h.cell (c := 0) hi (by decide)
theorem SRow.r1 {T : TypeId} {w : World} {g off cap i : Nat} {L : List El} {x : El} (h : SRow w T 2 encE g off cap L) (hi : L[i]? = some x) : w.cell? ⟨g, off + i * 2 + 1, none⟩ = some (.slice x.A x.n x.c) := h.cell (c := 1) hi (by decide)
theorem SRow.own_ {T : TypeId} {w : World} {g off cap B n : Nat} {L : List El} (h : SRow w T 2 encE g off cap L) (hB : B ≤ g) (hn : L.length = n) : OwnS w B T 2 (.slice (some ⟨g, off, none⟩) n cap) n (L.flatMap encE) := by
  subst hn
  refine ⟨h.own.1, ?_⟩
  rcases h.own.2 with ⟨hv, _⟩ | ⟨g', off', cap', cur, hv, _, hr⟩
  · cases hv
  · injection hv with hA _ hc
    injection hA with hA
    injection hA with h1 h2
    subst h1; subst h2; subst hc
    exact .inr ⟨g, off, cap, cur, rfl, hB, hr⟩
/-- What the document has put behind one another, with one more. -/
def FRc (m : Nat) (W : World) (B0 k : Nat) (P : List El) (Cp : List Huf.Coin) (c' : Huf.Coin) (v : Value) (w : World) : Prop :=
  ∃ e', OwnS w B0 84 2 v (k + 1) ((P ++ [e']).flatMap encE) ∧ CoinR m w B0 e' c' ∧ CoinsR m w B0 P Cp ∧ Below B0 W w
theorem FRc.mk {m : Nat} {W w1 w9 : World} {B0 b0 k n c : Nat} {P : List El} {Cp : List Huf.Coin} {A : Option Addr} {ids : List Nat} {s : Int} {vo v9 : Value} (ho : OwnS w1 B0 84 2 vo k (P.flatMap encE)) (hi : OwnS w1 b0 3 1 (.slice A n c) n ((cntL m ids).map (Value.int .i64))) (hn : n = m) (hP : CoinsR m w1 B0 P Cp) (hg : w1.grownBy w9 vo.ownBlock)
    (h9 : OwnS w9 B0 84 2 v9 (k + 1) (P.flatMap encE ++ encE ⟨s, A, n, c⟩)) (hB : Below B0 W w1) (hb : B0 ≤ b0) (hz : B0 ≤ w1.heap.size) : FRc m W B0 k P Cp (s, ids) v9 w9 := by
  have hc : Chg (fun k => vo.ownBlock = some k) w1 w9 := Chg.of_grown hg (fun _ h => h)
  have hS : ∀ k, vo.ownBlock = some k → ∃ b n s v x, OwnS w1 b 84 s v n x ∧ v.ownBlock = some k := fun k hk => ⟨_, _, _, _, _, ho, hk⟩
  refine ⟨⟨s, A, n, c⟩, by rw [List.flatMap_append]; simpa using h9, CoinR.chg ⟨rfl, hn, hi.base_ hb⟩ hc hS, hP.imp fun e c h => h.chg hc hS, hB.trans (hc.below hz (fun k hk hs => by have := (ho.lt k hs).1; omega))⟩
/-- The first j of the one, the others of the other. -/
def mixL (A B : List Int) (j : Nat) : List Int := A.take j ++ B.drop j
theorem mixL_length {A B : List Int} (h : A.length = B.length) (j : Nat) : (mixL A B j).length = A.length := by unfold mixL; rw [List.length_append, List.length_take, List.length_drop]; omega
theorem mixL_at {A B : List Int} {j : Nat} (h : A.length = B.length) (hj : j < A.length) : (mixL A B j)[j]? = B[j]? := by
  unfold mixL
  rw [List.getElem?_append_right (by rw [List.length_take]; omega), List.length_take, List.getElem?_drop]
  congr 1; omega
theorem mixL_set {A B : List Int} {j : Nat} {v : Int} (h : A.length = B.length) (hj : A[j]? = some v) : (mixL A B j).set j v = mixL A B (j + 1) := by
  have hl := (List.getElem?_eq_some_iff.1 hj).1
  unfold mixL
  rw [List.set_append_right _ _ (by rw [List.length_take]; omega), List.length_take, show j - min j A.length = 0 by omega, List.take_succ_eq_append_getElem hl, List.append_assoc]
  congr 1
  rw [List.drop_eq_getElem_cons (by omega), List.set_cons_zero, (List.getElem?_eq_some_iff.1 hj).2]; rfl
theorem mixL_zero (A B : List Int) : mixL A B 0 = B := by simp [mixL]
theorem mixL_all {A B : List Int} (h : A.length = B.length) : mixL A B A.length = A := by unfold mixL; rw [List.take_length, h, List.drop_length, List.append_nil]
theorem cntL_add {m j : Nat} (S T : List Nat) (h : j < m) : (cntL m (S ++ T))[j]? = some (((S.count j : Nat) : Int) + ((T.count j : Nat) : Int)) := by
  rw [cntL_get _ h, List.count_append]; simp
theorem cntL_one {m i : Nat} (h : i < m) : (List.replicate m (0 : Int)).set i 1 = cntL m [i] := by
  have := cntL_set m [] i
  rw [cntL_nil] at this
  simpa using this
/-- What the document holds of the row behind the k-th turn. -/
def lvlR (L : List Huf.Coin) : Nat → List Huf.Coin
  | 0 => []
  | k + 1 => Huf.pk (Huf.row L k)
theorem lvlR_row (B : List Huf.Coin) (k : Nat) : Srt.isort Huf.ltC (B ++ lvlR (Srt.isort Huf.ltC B) k) = Huf.row (Srt.isort Huf.ltC B) k := by
  cases k with
  | zero => rw [lvlR, List.append_nil]; rfl
  | succ k =>
    have hs := Srt.isort_sorted Huf.swo B
    rw [lvlR, Srt.isort_append Huf.swo, isort_of_sorted Huf.swo _ (Huf.pk_sorted _ (Huf.row_sorted hs k))]; rfl
theorem lvlR_length (L : List Huf.Coin) (h : 0 < L.length) (k : Nat) : (lvlR L k).length ≤ L.length := by
  cases k with
  | zero => exact Nat.zero_le _
  | succ k =>
    rw [lvlR, Huf.pk_length]
    have := Huf.row_le L h k
    omega
end Go.Proofs.Ytdmggpngmlhboaa
