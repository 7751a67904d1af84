/- huff.Lengths: refusals, and the coins. -/
import Derived.Test.YtdmggpngmlhboaaHufE
namespace Go.Proofs.Ytdmggpngmlhboaa
open Go.RowKit
set_option linter.unusedVariables false

/-- May each count be? -/
def okX (xs : List Int) : Prop := ∀ i, i < xs.length → 0 ≤ xs.getD i 0 ∧ xs.getD i 0 ≤ 1073741824
/-- The lengths, as the program puts them together. -/
def lensL (xs : List Int) (most : Nat) : List Int :=
  (List.range xs.length).map fun i => if (bs xs xs.length).length < 2 then (if 0 < xs.getD i 0 then 1 else 0) else
    ((((Huf.row (Srt.isort Huf.ltC (bs xs xs.length)) (most - 1)).take (2 * (bs xs xs.length).length - 2)).flatMap (·.2)).count i : Nat)
def LnBad (W : World) (e : Ending) (w' : World) : Prop := e = .returned (.tuple #[.slice none 0 0, .int .i64 1]) ∧ Below W.heap.size W w'
def LnOk (W : World) (xs : List Int) (most : Nat) (e : Ending) (w' : World) : Prop :=
  ∃ A, e = .returned (.tuple #[.slice A xs.length xs.length, .int .i64 0]) ∧ Ints .i64 w' A (lensL xs most) ∧ Below W.heap.size W w'
def LnPost (W : World) (xs : List Int) (most : Nat) (e : Ending) (w' : World) : Prop :=
  (okX xs ∧ (bs xs xs.length).length ≤ 2 ^ most ∧ LnOk W xs most e w') ∨ (¬ (okX xs ∧ (bs xs xs.length).length ≤ 2 ^ most) ∧ LnBad W e w')
theorem LnPost.bad {W w' : World} {xs : List Int} {most : Nat} {e : Ending} (h : ¬ (okX xs ∧ (bs xs xs.length).length ≤ 2 ^ most)) (he : e = .returned (.tuple #[.slice none 0 0, .int .i64 1])) (hb : Below W.heap.size W w') : LnPost W xs most e w' := .inr ⟨h, he, hb⟩
set_option maxRecDepth 100000 in
set_option maxHeartbeats 4000000 in
theorem lengths_no (A : Option Addr) (c : Nat) (xs : List Int) (most : Int) (W : World) (hI : Ints .i64 W A xs) (hm : (Lit.int .i64 most).wf = true) (hn : xs.length ≤ 9223372036854775807) (hbad : most < 1 ∨ 15 < most ∨ 400 < xs.length) :
    Calls Try.prog 11 #[.slice A xs.length c, .int .i64 most] W (LnBad W) := by
  by_cases h1 : most < 1
  · have d1 : decide (most < 1) = true := decide_eq_true h1
    go_enter Try.func11, Try.ntmps11
    go_wp2
    go_ret2
    exact ⟨rfl, Below.refl _ _⟩
  · have d1 : decide (most < 1) = false := decide_eq_false h1
    by_cases h2 : 15 < most
    · have d2 : decide (15 < most) = true := decide_eq_true h2
      go_enter Try.func11, Try.ntmps11
      go_wp2
      go_ret2
      exact ⟨rfl, Below.refl _ _⟩
    · have d2 : decide (15 < most) = false := decide_eq_false h2
      have h3 : 400 < xs.length := by omega
      have d3 : decide ((400 : Int) < (xs.length : Int)) = true := decide_eq_true (by omega)
      have d4 : decide (400 < xs.length) = true := decide_eq_true h3
      go_enter Try.func11, Try.ntmps11
      go_wp2
      go_ret2
      exact ⟨rfl, Below.refl _ _⟩
/-- The row of a coin's ids is not the row of the lengths. -/
def FarE (go : Nat) (e : El) : Prop := ∀ q, (Value.slice e.A e.n e.c).ownBlock = some q → q ≠ go
/-- How often each symbol is among some ids. -/
def cntL (k : Nat) (S : List Nat) : List Int := (List.range k).map fun i => ((S.count i : Nat) : Int)
theorem cntL_set (k : Nat) (S : List Nat) (id : Nat) : (cntL k S).set id ((S.count id : Nat) + 1 : Int) = cntL k (S ++ [id]) := by
  unfold cntL
  apply List.ext_getElem
  · simp
  · intro i h1 h2
    simp only [List.getElem_set, List.getElem_map, List.getElem_range, List.count_append]
    by_cases h : id = i
    · subst h
      rw [if_pos rfl]; simp
    · rw [if_neg h]; simp [h]
theorem cntL_get {k id : Nat} (S : List Nat) (h : id < k) : (cntL k S)[id]? = some ((S.count id : Nat) : Int) := by
  unfold cntL
  rw [List.getElem?_map, List.getElem?_range h]; rfl
theorem cntL_nil (k : Nat) : cntL k [] = List.replicate k 0 := by
  unfold cntL
  apply List.ext_getElem
  · simp
  · intro i h1 h2; simp
theorem cntL_length (k : Nat) (S : List Nat) : (cntL k S).length = k := by simp [cntL]
/-- Between the rounds that put the packages together. -/
structure RowSt (W w : World) (gl ol co : Nat) (Lm : List El) (Ls : List Huf.Coin) (go k : Nat) (out : List Int) (g off cap : Nat) (R : List El) (C : List Huf.Coin) : Prop where
  row : SRow w 76 2 encE g off cap R
  coins : CoinsAt w W.heap.size R C
  base : SRow w 76 2 encE gl ol co Lm
  bc : CoinsAt w W.heap.size Lm Ls
  out : OwnS w W.heap.size 3 1 (.slice (some ⟨go, 0, none⟩) k k) k (out.map (Value.int .i64))
  bel : Below W.heap.size W w
  far : ∀ e ∈ R, FarE go e
  farL : ∀ e ∈ Lm, FarE go e
theorem RowSt.below {W w w' : World} {gl ol co : Nat} {Lm : List El} {Ls : List Huf.Coin} {go k : Nat} {out : List Int} {g off cap : Nat} {R : List El} {C : List Huf.Coin} (h : RowSt W w gl ol co Lm Ls go k out g off cap R C) (hb : Below w.heap.size w w') : RowSt W w' gl ol co Lm Ls go k out g off cap R C :=
  ⟨h.row.below hb, h.coins.imp (fun _ _ h => h.below hb), h.base.below hb, h.bc.imp (fun _ _ h => h.below hb), h.out.chg (S := fun _ => False) (Chg.of_below hb) (fun _ _ h => h), h.bel.trans (hb.mono h.bel.size), h.far, h.farL⟩
theorem RowSt.sorted {W w w' : World} {gl ol co : Nat} {Lm : List El} {Ls : List Huf.Coin} {go k : Nat} {out : List Int} {g off cap : Nat} {R : List El} {C : List Huf.Coin} (h : RowSt W w gl ol co Lm Ls go k out g off cap R C) (hc : Chg (fun q => q = g) w w') (hs : SRow w' 76 2 encE g off cap (Srt.isort ltE R)) (hne : gl ≠ g) (hg : W.heap.size ≤ g) :
    RowSt W w' gl ol co Lm Ls go k out g off cap (Srt.isort ltE R) (Srt.isort Huf.ltC C) := by
  have hblk : ∀ {v : Value} {n' s' b' : Nat} {x' : List Value}, OwnS w b' 3 s' v n' x' → ∀ q, v.ownBlock = some q → ¬ q = g := fun h' q hq he => by
    subst he
    exact OwnS.types h' h.row.own (show 3 ≠ 76 by decide) q hq rfl
  have hi : ∀ e c, CoinAt w W.heap.size e c → CoinAt w' W.heap.size e c := fun e c h' => ⟨h'.w, h'.n, h'.own.chg hc (hblk h'.own)⟩
  exact ⟨hs, (h.coins.imp hi).isort, h.base.of_chg hc hne, h.bc.imp hi, h.out.chg hc (hblk h.out), h.bel.trans (hc.below h.bel.size (fun q hq he => by omega)), fun e he => h.far e (Srt.mem_isort.1 he), h.farL⟩
theorem CoinsAt.impM {w w' : World} {B B' : Nat} : ∀ {L : List El} {C : List Huf.Coin}, (∀ e ∈ L, ∀ c, CoinAt w B e c → CoinAt w' B' e c) → CoinsAt w B L C → CoinsAt w' B' L C
  | [], [], _, _ => trivial
  | e :: L, c :: C, h, hc => ⟨h e (by simp) c hc.1, CoinsAt.impM (fun e' he' => h e' (by simp [he'])) hc.2⟩
  | [], _ :: _, _, hc => hc.elim
  | _ :: _, [], _, hc => hc.elim
theorem RowSt.bump {W w : World} {gl ol co : Nat} {Lm : List El} {Ls : List Huf.Coin} {go k : Nat} {S : List Nat} {g off cap : Nat} {R : List El} {C : List Huf.Coin} (h : RowSt W w gl ol co Lm Ls go k (cntL k S) g off cap R C) {id : Nat} (hid : id < k) :
    RowSt W (w.setCell ⟨go, id, none⟩ (.int .i64 ((S.count id : Nat) + 1 : Int))) gl ol co Lm Ls go k (cntL k (S ++ [id])) g off cap R C := by
  have hc : Chg (fun q => q = go) w (w.setCell ⟨go, id, none⟩ (.int .i64 ((S.count id : Nat) + 1 : Int)))   := (Chg.refl (fun q => q = go) w).setCell (a := ⟨go, id, none⟩) (.inl rfl) _
  have hb : ∀ {v : Value} {n' s' b' : Nat} {x' : List Value}, OwnS w b' 76 s' v n' x' → ∀ q, v.ownBlock = some q → ¬ q = go := fun h' q hq he => by
    subst he
    exact OwnS.types h' h.out (show 76 ≠ 3 by decide) q hq rfl
  have hf : ∀ e, FarE go e → ∀ c, CoinAt w W.heap.size e c → CoinAt (w.setCell ⟨go, id, none⟩ (.int .i64 ((S.count id : Nat) + 1 : Int))) W.heap.size e c := fun e he c h' => ⟨h'.w, h'.n, h'.own.chg hc (fun q hq hs => he q hq hs)⟩
  have ho := OwnS.setAt (j := id) h.out (by rw [List.length_map, cntL_length]; exact hid) (.int .i64 ((S.count id : Nat) + 1 : Int))
  rw [Nat.zero_add, ← List.map_set (f := Value.int .i64), cntL_set] at ho
  exact ⟨h.row.of_chg hc (hb h.row.own g rfl), h.coins.impM (fun e he => hf e (h.far e he)), h.base.of_chg hc (hb h.base.own gl rfl), h.bc.impM (fun e he => hf e (h.farL e he)), ho, Below.setCell h.bel (show W.heap.size ≤ (⟨go, id, none⟩ : Addr).block from (h.out.lt go rfl).1) _, h.far, h.farL⟩
theorem pk_all {P : Nat → Prop} : ∀ (R : List Huf.Coin), (∀ c ∈ R, ∀ i ∈ c.2, P i) → ∀ c ∈ Huf.pk R, ∀ i ∈ c.2, P i
  | [], _, c, h => by cases h
  | [_], _, c, h => by cases h
  | x :: y :: R, hR, c, h => by
    rw [Huf.pk] at h
    rcases List.mem_cons.1 h with rfl | h
    · intro i hi
      rcases List.mem_append.1 hi with hi | hi
      · exact hR x (by simp) i hi
      · exact hR y (by simp) i hi
    · exact pk_all R (fun c hc => hR c (by simp [hc])) c h
theorem row_all {P : Nat → Prop} {L : List Huf.Coin} (hL : ∀ c ∈ L, ∀ i ∈ c.2, P i) : ∀ k, ∀ c ∈ Huf.row L k, ∀ i ∈ c.2, P i
  | 0 => hL
  | k + 1 => fun c hc => by
    rcases List.mem_append.1 ((Srt.mrg_perm _ _).mem_iff.1 hc) with hc | hc
    · exact hL c hc
    · exact pk_all _ (row_all hL k) c hc
theorem flat_le {m : Nat} : ∀ (C : List Huf.Coin), (∀ c ∈ C, c.2.length ≤ m) → (C.flatMap (·.2)).length ≤ C.length * m
  | [], _ => by simp
  | c :: C, h => by
    rw [List.flatMap_cons, List.length_append, List.length_cons, Nat.succ_mul]
    have h1 := h c (by simp)
    have h2 := flat_le C (fun c hc => h c (by simp [hc]))
    omega
theorem out_cell {w : World} {B go k id : Nat} {S : List Nat} (h : OwnS w B 3 1 (.slice (some ⟨go, 0, none⟩) k k) k ((cntL k S).map (Value.int .i64))) (hid : id < k) :
    w.cell? ⟨go, id, none⟩ = some (.int .i64 ((S.count id : Nat) : Int)) ∧ w.frozen? ⟨go, id, none⟩ = false := by
  refine ⟨?_, ?_⟩
  · obtain ⟨g', o', cp', hvo, _, hgob, hcz⟩ := h.cells (by rw [List.length_map, cntL_length]; omega)
    injection hvo with hvo _ hk2
    injection hvo with hvo
    injection hvo with hvo1 hvo2
    subst hvo1; subst hvo2
    have := hcz id (by rw [List.length_map, cntL_length]; exact hid)
    rw [Nat.zero_add, List.getElem?_map, cntL_get S hid] at this
    exact this
  · rcases h.2 with ⟨hv, _⟩ | ⟨g2, off2, cap2, cur2, hv, _, ⟨fr2, hg2, hf2⟩, hn3, _, hs2, _⟩
    · cases hv
    · injection hv with hA hn4 hc4
      injection hA with hA
      injection hA with hA1 hA2
      subst hA1; subst hA2; subst hc4
      obtain ⟨lo2, hi2⟩ := fr2
      simp only at hf2
      simp only [World.frozen?, hg2, Bool.and_eq_false_iff, decide_eq_false_iff_not]
      omega
theorem CoinsAt.okAll {w : World} {B : Nat} {L : List El} {C : List Huf.Coin} (h : CoinsAt w B L C) (hC : ∀ c ∈ C, 0 ≤ c.1 ∧ c.1 ≤ 1152921504606846976) : ∀ e ∈ L, okE e := by
  intro e he
  obtain ⟨i, hi⟩ := List.mem_iff_getElem?.1 he
  have hil : i < C.length := by rw [← h.length]; exact (List.getElem?_eq_some_iff.1 hi).1
  obtain ⟨e', he', hce⟩ := h.get i _ (List.getElem?_eq_getElem hil)
  rw [hi] at he'
  injection he' with he'
  subst he'
  have := hC _ (List.getElem_mem hil)
  exact ⟨by rw [hce.w]; exact this.1, by rw [hce.w]; exact this.2⟩
theorem mem_bs {xs : List Int} {k i : Nat} (h : i < k) (h0 : 0 < xs.getD i 0) : (xs.getD i 0, [i]) ∈ bs xs k := by
  unfold bs
  exact List.mem_map.2 ⟨i, List.mem_filter.2 ⟨List.mem_range.2 h, decide_eq_true h0⟩, rfl⟩
theorem lens0 (xs : List Int) (most : Nat) (h : bs xs xs.length = []) : lensL xs most = List.replicate xs.length 0 := by
  unfold lensL
  rw [h]
  apply List.ext_getElem
  · simp
  · intro i h1 h2
    simp only [List.length_map, List.length_range] at h1
    have : ¬ 0 < xs.getD i 0 := fun h0 => by have := mem_bs h1 h0; rw [h] at this; cases this
    simp only [List.getElem_map, List.getElem_range, List.getElem_replicate, List.length_nil]
    rw [if_pos (by decide), if_neg this]
theorem lens1 (xs : List Int) (most j : Nat) (h : bs xs xs.length = [(xs.getD j 0, [j])]) : lensL xs most = (List.replicate xs.length 0).set j 1 := by
  have hj := bs_mem (xs := xs) (k := xs.length) (c := (xs.getD j 0, [j])) (by rw [h]; simp)
  obtain ⟨j', hj1, hj2, hj3⟩ := hj
  have hjj : j = j' := by injection hj3 with _ h5; injection h5
  subst hjj
  unfold lensL
  rw [h]
  apply List.ext_getElem
  · simp
  · intro i h1 h2
    simp only [List.length_map, List.length_range] at h1
    simp only [List.getElem_map, List.getElem_range, List.getElem_set, List.getElem_replicate, List.length_cons, List.length_nil]
    rw [if_pos (by decide)]
    by_cases hij : j = i
    · subst hij
      rw [if_pos hj2, if_pos rfl]
    · rw [if_neg hij, if_neg]
      intro h0
      have h3 := mem_bs h1 h0
      rw [h] at h3
      have h4 := List.mem_singleton.1 h3
      injection h4 with _ h5
      injection h5 with h5
      exact hij h5.symm
set_option maxRecDepth 100000 in
set_option maxHeartbeats 8000000 in
theorem lengths_go (A : Option Addr) (c : Nat) (xs : List Int) (most : Nat) (W : World) (hI : Ints .i64 W A xs) (h1 : 1 ≤ most) (h15 : most ≤ 15) (hn : xs.length ≤ 400) :
    Calls Try.prog 11 #[.slice A xs.length c, .int .i64 most] W (LnPost W xs most) := by
  have d1 : decide ((most : Int) < 1) = false := decide_eq_false (by omega)
  have d2 : decide ((15 : Int) < (most : Int)) = false := decide_eq_false (by omega)
  have d2' : decide (15 < most) = false := decide_eq_false (by omega)
  have d3 : decide ((400 : Int) < (xs.length : Int)) = false := decide_eq_false (by omega)
  have d4 : decide (400 < xs.length) = false := decide_eq_false (by omega)
  obtain ⟨i0, hi, hz0, hz1, hz2⟩ := info_parts Try.info_Coin
  obtain ⟨n, hnn⟩ : ∃ n, xs.length = n := ⟨_, rfl⟩
  have HNN := Lib.hid hnn
  have HI := Lib.hid hI
  rw [hnn] at hn d3 d4
  rw [hnn]
  clear hI hnn
  go_enter Try.func11, Try.ntmps11
  go_wp2
  clear d1 d2 d2' d3 d4
  go_loopw [6, 31] (fun vo kv wr => ∃ (k : Nat) (P : List El), kv = .int .i64 k ∧ k ≤ n ∧ (∀ i, i < k → 0 ≤ xs.getD i 0 ∧ xs.getD i 0 ≤ 1073741824) ∧ OwnS wr W.heap.size 76 2 vo (bs xs k).length (P.flatMap encE) ∧ CoinsAt wr W.heap.size P (bs xs k) ∧ Below W.heap.size W wr) (fun _ kv _ => n - (intOf kv).toNat)
  case atStart => exact ⟨0, [], rfl, Nat.zero_le _, (fun i h => by omega), OwnS.nil _ _ _ _, trivial, Below.refl _ _⟩
  case round =>
    obtain ⟨k, P, rfl, hk, hgood, hO, hP, hB⟩ := hrel
    by_cases hlt : k < n
    · obtain ⟨b, o, hA, hbs, hcell⟩ := HI.out (by rw [HNN.out]; omega)
      subst hA
      have hck := (hB.cell (p := ⟨b, o + k, none⟩) hbs).trans (hcell k (by rw [HNN.out]; exact hlt))
      obtain ⟨x, hx⟩ : ∃ x, xs.getD k 0 = x := ⟨_, rfl⟩
      rw [hx] at hck
      have HX := Lib.hid hx
      have HG := Lib.hid hgood
      clear hcell hx hgood
      by_cases hx0 : x < 0
      · have g1 : decide (x < 0) = true := decide_eq_true hx0
        have HB := Lib.hid hB
        clear hO hP hB
        go_wp2
        go_ret2
        refine LnPost.bad (fun hh => ?_) rfl HB.out
        have := hh.1 k (by rw [HNN.out]; exact hlt)
        rw [HX.out] at this
        omega
      · have g1 : decide (x < 0) = false := decide_eq_false hx0
        by_cases hx1 : 1073741824 < x
        · have g2 : decide (1073741824 < x) = true := decide_eq_true hx1
          have HB := Lib.hid hB
          clear hO hP hB
          go_wp2
          go_ret2
          refine LnPost.bad (fun hh => ?_) rfl HB.out
          have := hh.1 k (by rw [HNN.out]; exact hlt)
          rw [HX.out] at this
          omega
        · have g2 : decide (1073741824 < x) = false := decide_eq_false hx1
          have hgood' : ∀ i, i < k + 1 → 0 ≤ xs.getD i 0 ∧ xs.getD i 0 ≤ 1073741824 := fun i hi => by
            rcases Nat.lt_or_ge i k with h | h
            · exact HG.out i h
            · obtain rfl : i = k := by omega
              rw [HX.out]; omega
          have HG' := Lib.hid hgood'
          clear hgood'
          by_cases hx2 : 0 < x
          · have g3 : decide (0 < x) = true := decide_eq_true hx2
            have hbl := bs_length xs k
            have hbs1 : bs xs (k + 1) = bs xs k ++ [(x, [k])] := by rw [bs_succ, HX.out, if_pos hx2]
            obtain ⟨Ao, co, rfl⟩ := hO.shape
            have hbase : W.heap.size ≤ wr.heap.size := hB.size
            have hmx1 : (bs xs k).length + 1 ≤ maxLen := by unfold maxLen; omega
            have hmx2 : ((bs xs k).length + 1) * 32 ≤ 140737488355328 := by omega
            have hO2 := (hO.alloc (.cells #[.int .i64 (k : Int)] 3)).alloc (.cells #[.int .i64 x, .slice (some ⟨wr.heap.size, 0, none⟩) 1 1] 76)
            have hb1 : Below wr.heap.size wr (wr.alloc (.cells #[.int .i64 (k : Int)] 3)) := (Below.refl _ _).alloc (Nat.le_refl _) _
            have hb2 : Below wr.heap.size wr ((wr.alloc (.cells #[.int .i64 (k : Int)] 3)).alloc (.cells #[.int .i64 x, .slice (some ⟨wr.heap.size, 0, none⟩) 1 1] 76)) := hb1.alloc hb1.size _
            have hid : OwnS ((wr.alloc (.cells #[.int .i64 (k : Int)] 3)).alloc (.cells #[.int .i64 x, .slice (some ⟨wr.heap.size, 0, none⟩) 1 1] 76)) wr.heap.size 3 1 (.slice (some ⟨wr.heap.size, 0, none⟩) 1 1) 1 (idsV [k]) := by
              refine OwnS.alloc ⟨rfl, .inr ⟨wr.heap.size, 0, 1, #[.int .i64 (k : Int)], rfl, Nat.le_refl _, ⟨(0, 0), heap_alloc_new wr _, .inl (Nat.le_refl _)⟩, Nat.le_refl _, by unfold maxLen; omega, by simp, by simp [idsV]⟩⟩ _
            have hsr := Src.coin2 (P := Try.prog) (w := wr) (.cells #[.int .i64 (k : Int)] 3) ⟨x, some ⟨wr.heap.size, 0, none⟩, 1, 1⟩
            have hP2 := hP.imp (fun e c h => h.below hb2)
            have hB2 := hB.trans (hb2.mono hbase)
            have hz2 : W.heap.size ≤ ((wr.alloc (.cells #[.int .i64 (k : Int)] 3)).alloc (.cells #[.int .i64 x, .slice (some ⟨wr.heap.size, 0, none⟩) 1 1] 76)).heap.size := Nat.le_trans hbase hb2.size
            have HO2 := Lib.hid hO2
            have HP2 := Lib.hid hP2
            have HB2 := Lib.hid hB2
            have HID := Lib.hid hid
            have HBS := Lib.hid hbs1
            have HSR := Lib.hid hsr
            have HZ2 := Lib.hid hz2
            clear hO hP hB hO2 hb1 hb2 hid hsr hP2 hB2 hbs1 hz2 hbl
            go_wp2_with (at_builtin; refine wpList_append_S rfl (.tmp 44) (.tmp 49) 74 74 rfl i0 _ 32 (.slice 76) Try.underlying74 Try.underlying74 (fun _ h => by cases h) hi hz0 hz1 hz2 rfl rfl rfl HO2.out HSR.out hmx1 hmx2 HZ2.out ?_; intro A9 c9 w9 ho9 hg9 hw9; have hF := FPk.mk HO2.out HID.out rfl HP2.out hg9 ho9 HB2.out hbase HZ2.out)
            obtain ⟨e', hO9, hC9, hP9, hB9⟩ := hF
            go_roundw
            case rel =>
              refine ⟨k + 1, P ++ [e'], by go_num, by omega, HG'.out, ?_, ?_, hB9⟩
              · rw [HBS.out, List.length_append]; exact hO9
              · rw [HBS.out]; exact hP9.append ⟨hC9, trivial⟩
            case measure => simp [intOf]; omega
          · have g3 : decide (0 < x) = false := decide_eq_false hx2
            have hbs1 : bs xs (k + 1) = bs xs k := by rw [bs_succ, HX.out, if_neg hx2, List.append_nil]
            have HBS := Lib.hid hbs1
            have HO := Lib.hid hO
            have HP := Lib.hid hP
            have HB := Lib.hid hB
            clear hbs1 hO hP hB
            go_wp2
            go_roundw
            case rel => exact ⟨k + 1, P, by go_num, by omega, HG'.out, by rw [HBS.out]; exact HO.out, by rw [HBS.out]; exact HP.out, HB.out⟩
            case measure => simp [intOf]; omega
    · obtain rfl : k = n := by omega
      have hxl := HNN.out
      have hokx : okX xs := fun i hi => hgood i (by omega)
      obtain ⟨C0, hC0⟩ : ∃ C, bs xs k = C := ⟨_, rfl⟩
      obtain ⟨nb, hnb⟩ : ∃ m, C0.length = m := ⟨_, rfl⟩
      have hbl : nb ≤ k := by have := bs_length xs k; rw [hC0, hnb] at this; exact this
      rw [hC0] at hO hP
      rw [hnb] at hO
      have HC0 := Lib.hid hC0
      have HNB := Lib.hid hnb
      have HOKX := Lib.hid hokx
      have HO := Lib.hid hO
      have HP := Lib.hid hP
      have HB := Lib.hid hB
      obtain ⟨Ao, co, rfl⟩ := hO.shape
      obtain ⟨pw, hpw⟩ : ∃ p, 2 ^ most = p := ⟨_, rfl⟩
      have hp15 : pw ≤ 32768 := by rw [← hpw]; exact (Nat.pow_le_pow_right (n := 2) (by decide) h15 : 2 ^ most ≤ 2 ^ 15)
      have hpi : (2 : Int) ^ most = (pw : Int) := by rw [← hpw]; simp
      have hwp : IntKind.i64.wrap (pw : Int) = (pw : Int) := IntWalk.i64_in _ (by omega)
      have HPW := Lib.hid hpw
      clear hgood hxl hC0 hnb hokx hO hP hB
      by_cases hbig : pw < nb
      · have g1 : decide ((pw : Int) < (nb : Int)) = true := decide_eq_true (by omega)
        have g2 : decide (pw < nb) = true := decide_eq_true hbig
        go_wp2
        go_ret2
        refine LnPost.bad (fun hh => ?_) rfl HB.out
        have := hh.2
        rw [HNN.out, HC0.out, HNB.out, HPW.out] at this
        omega
      · have g1 : decide ((pw : Int) < (nb : Int)) = false := decide_eq_false (by omega)
        have g2 : decide (pw < nb) = false := decide_eq_false hbig
        clear hi hz0 hz1 hz2
        obtain ⟨j0, hi, hz0, hz1, hz2⟩ := info_parts Try.info_Int
        have hbase : W.heap.size ≤ wr.heap.size := HB.out.size
        go_upto_region 15 with (first
          | (refine wpList_make_full _ rfl _ _ 23 rfl wr.heap.size 3 j0 (.int .i64 0) 1 Try.underlying23 hi hz0 hz1 .i64 .i64 _ _ k rfl rfl rfl rfl (by rw [hz2]; omega) (by unfold maxLen; omega) (Nat.le_refl _) ?_; intro w1 hown hgrow))
        have hrow : OwnS w1 W.heap.size 3 1 (.slice (some ⟨wr.heap.size, 0, none⟩) k k) k ((List.replicate k (0 : Int)).map (Value.int .i64)) := by
          have e : (Value.int IntKind.i64 0).cells = #[.int .i64 0] := rfl
          rw [e, toList_madeCells_one] at hown
          have := (OwnS.of_row hown).base_ hbase
          simpa using this
        have hb1 : Below wr.heap.size wr w1 := (Below.refl _ _).grown hgrow (Nat.le_refl _) (by simp)
        have HB1 := Lib.hid (HB.out.trans (hb1.mono hbase))
        have HO1 := Lib.hid (HO.out.chg (S := fun _ => False) (Chg.of_below hb1) (fun _ _ h => h))
        have HP1 := Lib.hid (HP.out.imp (fun e c h => h.below hb1))
        have HR1 := Lib.hid hrow
        have hgo : W.heap.size ≤ wr.heap.size := hbase
        have hfar : ∀ e ∈ P, FarE wr.heap.size e := by
          intro e he q hq
          obtain ⟨i, hi'⟩ := List.mem_iff_getElem?.1 he
          have hil : i < C0.length := by rw [← HP.out.length]; exact (List.getElem?_eq_some_iff.1 hi').1
          obtain ⟨e', he', hce⟩ := HP.out.get i _ (List.getElem?_eq_getElem hil)
          rw [hi'] at he'
          injection he' with he'
          subst he'
          have := (hce.own.lt q hq).2
          omega
        have HFAR := Lib.hid hfar
        clear hfar
        clear hown hgrow hb1 hrow hi hz0 hz1 hz2 HB HO HP hbase g1 g2
        generalize wr.heap.size = go at *
        generalize w1 = wm at *
        by_cases hn2 : nb < 2
        · have g1 : decide ((nb : Int) < 2) = true := decide_eq_true (by omega)
          have g2 : decide (nb < 2) = true := decide_eq_true hn2
          have hfin : ∀ (w' : World) (l : List Int), OwnS w' W.heap.size 3 1 (.slice (some ⟨go, 0, none⟩) k k) k (l.map (Value.int .i64)) → Below W.heap.size W w' → lensL xs most = l → LnPost W xs most (.returned (.tuple #[.slice (some ⟨go, 0, none⟩) k k, .int .i64 0])) w' := by
            intro w' l hr hb hl
            refine .inl ⟨HOKX.out, ?_, some ⟨go, 0, none⟩, by rw [HNN.out], by rw [hl]; exact hr.ints, hb⟩
            rw [HNN.out, HC0.out, HNB.out, HPW.out]; omega
          have HFIN := Lib.hid hfin
          clear hfin
          by_cases h0 : nb = 0
          · subst h0
            have hc0 : C0 = [] := List.eq_nil_of_length_eq_zero HNB.out
            have hl0 := lens0 xs most (by rw [HNN.out, HC0.out]; exact hc0)
            rw [HNN.out] at hl0
            have HL0 := Lib.hid hl0
            clear hc0 hl0
            go_wp2
            refine wp_loop_rounds 1 ?_
            rw [rounds_succ]
            go_wp2
            go_ret2
            exact HFIN.out _ _ HR1.out HB1.out HL0.out
          · obtain rfl : nb = 1 := by omega
            obtain ⟨cc, CT, hcc, hct⟩ := cons_of (l := C0) HNB.out (by omega)
            obtain rfl : CT = [] := List.eq_nil_of_length_eq_zero hct
            obtain ⟨jx, hj1, hj2, hj3⟩ := bs_mem (xs := xs) (k := k) (c := cc) (by rw [HC0.out, hcc]; simp)
            have hl1 := lens1 xs most jx (by rw [HNN.out, HC0.out, hcc, hj3])
            rw [HNN.out] at hl1
            have hpl := HP1.out.length
            rw [hcc] at hpl
            obtain ⟨e, PT, hpe, hpt⟩ := cons_of (l := P) hpl (by simp)
            obtain rfl : PT = [] := List.eq_nil_of_length_eq_zero (by simpa using hpt)
            have hce : CoinAt wm W.heap.size e cc := by have := HP1.out; rw [hpe, hcc] at this; exact this.1
            have hen : e.n = 1 := by rw [hce.n, hj3]; rfl
            have how := hce.own
            rw [hen, hj3] at how
            obtain ⟨gi, oi, ci, hvi, _, hgi, hcel⟩ := how.cells (by simp [idsV])
            have hci : wm.cell? ⟨gi, oi, none⟩ = some (.int .i64 (jx : Int)) := hcel 0 (by simp [idsV])
            injection hvi with hAi _ hcc2
            subst hcc2
            have hoo := HO1.out
            rw [hpe] at hoo
            obtain ⟨gl, ol, cl, hvl, _, _, hsr⟩ := SRow.of_own hoo (by omega)
            injection hvl with hAl _ hcl
            subst hAl; subst hcl
            have c0 := hsr.e0 (i := 0) (x := e) rfl
            have c1 := hsr.e1 (i := 0) (x := e) rfl
            rw [hAi, hen] at c1
            simp only [Nat.zero_mul, Nat.add_zero] at c0 c1
            have hcapl := hsr.capLe
            have hgl := hsr.blk
            obtain ⟨g', o', cp', hvo, _, hgob, hcz⟩ := HR1.out.cells (by simp; omega)
            injection hvo with hvo _ hk2
            subst hk2
            injection hvo with hvo
            injection hvo with hvo1 hvo2
            subst hvo1; subst hvo2
            have cz : wm.cell? ⟨go, jx, none⟩ = some (.int .i64 0) := by
              have := hcz jx (by simp; omega)
              simp only [Nat.zero_add] at this
              rw [this]; simp [hj1]
            have cf : wm.frozen? ⟨go, jx, none⟩ = false := by
              rcases HR1.out.2 with ⟨hv, _⟩ | ⟨g2, off2, cap2, cur2, hv, _, ⟨fr2, hg2, hf2⟩, hn3, _, hs2, _⟩
              · cases hv
              · injection hv with hA hn4 hc4
                injection hA with hA
                injection hA with hA1 hA2
                subst hA1; subst hA2; subst hc4
                obtain ⟨lo2, hi2⟩ := fr2
                simp only at hf2
                simp only [World.frozen?, hg2, Bool.and_eq_false_iff, decide_eq_false_iff_not]
                omega
            have j0 : (0 : Int) ≤ (jx : Int) := by omega
            have j1 : (jx : Int) < (k : Int) := by omega
            have HL1 := Lib.hid hl1
            have HGI := Lib.hid hgi
            have HGL := Lib.hid hgl
            have HGOB := Lib.hid hgob
            clear hl1 hcc hct hj2 hj3 hpl hpe hpt hce hen how hcel hAi hoo hsr hcapl hcz
            go_wp2
            refine wp_loop_rounds 2 ?_
            rw [rounds_succ]
            go_wp2
            rw [rounds_succ]
            go_wp2
            go_ret2
            refine HFIN.out _ _ ?_ ?_ HL1.out
            · have h9 := OwnS.setAt (j := jx) HR1.out (by simp; omega) (.int .i64 1)
              simp only [Nat.zero_add] at h9
              rw [show ((List.replicate k (0 : Int)).set jx 1).map (Value.int .i64) = ((List.replicate k (0 : Int)).map (Value.int .i64)).set jx (.int .i64 1) from List.map_set]
              exact h9.alloc _
            · exact (Below.setCell HB1.out (show W.heap.size ≤ (⟨go, jx, none⟩ : Addr).block from hgo) _).alloc (by have := HB1.out.size; simpa [World.setCell] using this) _
        · have hnb2 : 2 ≤ nb := by omega
          have g1 : decide ((nb : Int) < 2) = false := decide_eq_false (by omega)
          have g2 : decide (nb < 2) = false := decide_eq_false hn2
          obtain ⟨gl, ol, cl, hvl, hlP, hgl0, hsr⟩ := SRow.of_own HO1.out (by omega)
          injection hvl with hAl _ hcl
          subst hAl; subst hcl
          have hPok : ∀ e ∈ P, okE e := by
            intro e he
            obtain ⟨i, hi⟩ := List.mem_iff_getElem?.1 he
            have hil : i < C0.length := by rw [HNB.out, ← hlP]; exact (List.getElem?_eq_some_iff.1 hi).1
            obtain ⟨c0, hc0⟩ : ∃ c, C0[i]? = some c := ⟨_, List.getElem?_eq_getElem hil⟩
            obtain ⟨e', he', hce⟩ := HP1.out.get i c0 hc0
            rw [hi] at he'
            injection he' with he'
            subst he'
            obtain ⟨j, hj1, hj2, hj3⟩ := bs_mem (xs := xs) (k := k) (c := c0) (by rw [HC0.out]; exact List.mem_of_getElem? hc0)
            have := HOKX.out j (by rw [HNN.out]; exact hj1)
            refine ⟨?_, ?_⟩
            · rw [hce.w, hj3]; exact Int.le_of_lt hj2
            · rw [hce.w, hj3]; show xs.getD j 0 ≤ _; omega
          have hsort := sortStable_any gl ol co nb P wm hsr hlP hPok (by omega)
          have hblk : ∀ (v : Value) (n' s' b' : Nat) (x' : List Value), OwnS wm b' 3 s' v n' x' → ∀ q, v.ownBlock = some q → ¬ q = gl := fun v n' s' b' x' h q hq he => by
            subst he
            exact OwnS.types h hsr.own (show 3 ≠ 76 by decide) q hq rfl
          have hcapl := hsr.capLe
          unfold maxLen at hcapl
          obtain ⟨hcapl1, hcapl2⟩ := hcapl
          have HBLK := Lib.hid hblk
          clear hsr hPok hblk hn2
          go_wp2_with fail
          refine hsort.mono ?_
          rintro e w2 ⟨rfl, hch, hsr2⟩
          have hr2 := HR1.out.chg hch (fun q hq hs => HBLK.out _ _ _ _ _ HR1.out q hq hs)
          have hp2 := HP1.out.imp (fun e c (h : CoinAt wm W.heap.size e c) => (⟨h.w, h.n, h.own.chg hch (fun q hq hs => HBLK.out _ _ _ _ _ h.own q hq hs)⟩ : CoinAt w2 W.heap.size e c))
          have hb2 : Below W.heap.size W w2 := HB1.out.trans (hch.below HB1.out.size (fun q hq hs => by omega))
          have hp3 := hp2.isort
          have hsl : (Srt.isort ltE P).length = nb := by rw [Srt.isort_length]; exact hlP
          have hfl : ∀ e ∈ Srt.isort ltE P, FarE go e := fun e he => HFAR.out e (Srt.mem_isort.1 he)
          generalize Srt.isort ltE P = Lm at *
          have hss := Srt.isort_sorted Huf.swo C0
          obtain ⟨Ls, hLs⟩ : ∃ Ls, Srt.isort Huf.ltC C0 = Ls := ⟨_, rfl⟩
          rw [hLs] at hp3 hss
          have hst : RowSt W w2 gl ol co Lm Ls go k (List.replicate k 0) gl ol co Lm Ls := ⟨hsr2, hp3, hsr2, hp3, hr2, hb2, hfl, hfl⟩
          have HST := Lib.hid hst
          have hlsl : Ls.length = nb := by rw [← hp3.length]; exact hsl
          have hlb : ∀ c ∈ Ls, 0 < c.1 ∧ c.1 ≤ ((1073741824 : Nat) : Int) ∧ c.2.length ≤ 1 := by
            intro c hc
            rw [← hLs] at hc
            have hc := Srt.mem_isort.1 hc
            rw [← HC0.out] at hc
            obtain ⟨j, hj1, hj2, hj3⟩ := bs_mem hc
            have := HOKX.out j (by rw [HNN.out]; exact hj1)
            rw [hj3]
            exact ⟨hj2, this.2, Nat.le_refl _⟩
          obtain ⟨m1, hm1⟩ : ∃ m1, m1 = most - 1 := ⟨_, rfl⟩
          have em : (most : Int) - 1 = (m1 : Int) := by omega
          have hm15 : m1 ≤ 14 := by omega
          have HM1 := Lib.hid (show m1 + 1 = most by omega)
          have HSS := Lib.hid hss
          have HLS := Lib.hid hLs
          have HLSL := Lib.hid hlsl
          have HLB := Lib.hid hlb
          have HSL := Lib.hid hsl
          have hglb : gl < w2.heap.size := hsr2.blk
          clear hst hlsl hlb hss hLs hsl hsr2 hp2 hp3 hr2 hb2 hch hsort hm1 hlP hcapl1 HBLK
          go_wp2
          clear em
          go_loopw [13, 83] (fun rv qv wr => ∃ (q g off cap N : Nat) (R : List El), qv = .int .i64 q ∧ rv = .slice (some ⟨g, off, none⟩) N cap ∧ q ≤ m1 ∧ R.length = N ∧ gl < wr.heap.size ∧ RowSt W wr gl ol co Lm Ls go k (List.replicate k 0) g off cap R (Huf.row Ls q)) (fun _ qv _ => m1 - (intOf qv).toNat)
          case atStart => exact ⟨0, gl, ol, co, nb, Lm, rfl, rfl, Nat.zero_le _, HSL.out, hglb, HST.out⟩
          case round =>
            clear HST
            obtain ⟨q, g, off, cap, N, R, rfl, rfl, hq, hRN, hgw, hst⟩ := hrel
            have HST := Lib.hid hst
            have HRN := Lib.hid hRN
            have hNb : N ≤ 2 * nb - 1 := by
              have h1 := hst.coins.length
              have h2 := Huf.row_le Ls (by rw [HLSL.out]; omega) q
              rw [HLSL.out] at h2
              omega
            clear hst hRN
            by_cases hlt : q < m1
            · have hbd := row_bd HLB.out q
              have hp2 : 2 ^ q ≤ 16384 := (Nat.pow_le_pow_right (n := 2) (by decide) (by omega) : 2 ^ q ≤ 2 ^ 14)
              have hbd1 : ∀ c ∈ Huf.row Ls q, 0 < c.1 ∧ c.1 ≤ ((17592186044416 : Nat) : Int) ∧ c.2.length ≤ 16384 := fun c hc => by
                have h1 := hbd c hc
                have h2 : 2 ^ q * 1073741824 ≤ 17592186044416 := Nat.le_trans (Nat.mul_le_mul_right _ hp2) (by decide)
                exact ⟨h1.1, Int.le_trans h1.2.1 (Int.ofNat_le.2 h2), Nat.le_trans h1.2.2 hp2⟩
              have hpk := packages_any g off N cap W.heap.size R (Huf.row Ls q) wr HST.out.row HRN.out HST.out.coins (fun c hc => by have := hbd1 c hc; exact ⟨by omega, by omega, by omega⟩) (by omega)
              have hpb := pk_bd _ hbd1
              have HPB := Lib.hid hpb
              have HBD := Lib.hid hbd1
              have e1 : (q : Int) < (m1 : Int) := by omega
              clear hbd hp2 hbd1 hpb
              go_wp2_with fail
              refine hpk.mono ?_
              rintro e w3 ⟨Ap, cp, Pk, rfl, hop, hcp, hb3⟩
              have HST3 := Lib.hid (HST.out.below hb3)
              have hpl := hcp.length
              have hpn : (Huf.pk (Huf.row Ls q)).length ≤ N := by rw [Huf.pk_length, ← HST.out.coins.length, HRN.out]; omega
              have hbw : W.heap.size ≤ wr.heap.size := HST.out.bel.size
              have hgow : go < wr.heap.size := (HST.out.out.lt go rfl).2
              have hfp : ∀ e ∈ Pk, FarE go e := by
                intro e he z hz
                obtain ⟨i, hi'⟩ := List.mem_iff_getElem?.1 he
                have hil : i < (Huf.pk (Huf.row Ls q)).length := by rw [← hcp.length]; exact (List.getElem?_eq_some_iff.1 hi').1
                obtain ⟨e', he', hce⟩ := hcp.get i _ (List.getElem?_eq_getElem hil)
                rw [hi'] at he'
                injection he' with he'
                subst he'
                have := (hce.own.lt z hz).1
                omega
              have HFP := Lib.hid hfp
              clear hfp
              have hcp3 := hcp.imp (fun e c (h : CoinAt w3 wr.heap.size e c) => h.base hbw)
              have hop3 := hop.base_ hbw
              have hgw3 : gl < w3.heap.size := Nat.lt_of_lt_of_le hgw hb3.size
              have hbse : OwnS w3 0 76 2 (.slice (some ⟨gl, ol, none⟩) nb co) nb (Lm.flatMap encE) := by
                have := HST3.out.base.own
                rwa [HSL.out] at this
              generalize (Huf.pk (Huf.row Ls q)).length = np at *
              have HOP := Lib.hid hop3
              have HCP := Lib.hid hcp3
              have HPL := Lib.hid hpl
              have HBS := Lib.hid hbse
              clear hpk hop hcp hb3 hop3 hcp3 hpl hbse HST
              have hbx : Below w3.heap.size w3 (w3.alloc (.cells #[.slice (some ⟨gl, ol, none⟩) nb co, .slice Ap np cp] 74)) := (Below.refl _ _).alloc (Nat.le_refl _) _
              have hcat := concat_Coin w3.heap.size 0 2 nb np (.slice (some ⟨gl, ol, none⟩) nb co) (.slice Ap np cp) (Lm.flatMap encE) (Pk.flatMap encE) (w3.alloc (.cells #[.slice (some ⟨gl, ol, none⟩) nb co, .slice Ap np cp] 74)) (by simp) (by simp) (by simp) (SrcAll.rowE (HBS.out.alloc _)) (SrcAll.rowE (HOP.out.alloc _)) (by omega)
              have HBX := Lib.hid hbx
              clear hbx
              go_wp2_with fail
              refine hcat.mono ?_
              rintro e w4 ⟨A4, c4, rfl, ho4, hb4⟩
              rw [← List.flatMap_append] at ho4
              obtain ⟨g4, o4, c4', hv4, hl4, hg4, hsr4⟩ := SRow.of_own ho4 (by omega)
              injection hv4 with hA4 _ hc4
              subst hA4; subst hc4
              have hz3 : w3.heap.size ≤ (w3.alloc (.cells #[.slice (some ⟨gl, ol, none⟩) nb co, .slice Ap np cp] 74)).heap.size := HBX.out.size
              have hb34 : Below w3.heap.size w3 w4 := HBX.out.trans (hb4.mono hz3)
              have hst4 := HST3.out.below hb34
              have hg43 : w3.heap.size ≤ g4 := Nat.le_trans hz3 hg4
              have hW3 : W.heap.size ≤ w3.heap.size := HST3.out.bel.size
              have hco4 := hst4.bc.append (HCP.out.imp (fun e c h => h.below hb34))
              have hst4' : RowSt W w4 gl ol co Lm Ls go k (List.replicate k 0) g4 o4 c4 (Lm ++ Pk) (Ls ++ Huf.pk (Huf.row Ls q)) := ⟨hsr4, hco4, hst4.base, hst4.bc, hst4.out, hst4.bel, fun e he => (List.mem_append.1 he).elim (hst4.farL e) (HFP.out e), hst4.farL⟩
              have hokk := hco4.okAll (fun c hc => by
                rcases List.mem_append.1 hc with hc | hc
                · have := HLB.out c hc; exact ⟨by omega, by omega⟩
                · have := HPB.out c hc; exact ⟨by omega, by omega⟩)
              have hsort := sortStable_any g4 o4 c4 (nb + np) (Lm ++ Pk) w4 hsr4 hl4 hokk (by omega)
              have HST4 := Lib.hid hst4'
              have HG43 := Lib.hid hg43
              have HB34 := Lib.hid hb34
              have HL4 := Lib.hid hl4
              clear hcat ho4 hb4 hg4 hsr4 hz3 hb34 hst4 hg43 hco4 hst4' hokk hl4
              go_wp2_with fail
              refine hsort.mono ?_
              rintro e w5 ⟨rfl, hch5, hsr5⟩
              have hst5 := HST4.out.sorted hch5 hsr5 (by have := HG43.out; omega) (Nat.le_trans hW3 HG43.out)
              rw [row_next HSS.out] at hst5
              have hz5 : gl < w5.heap.size := by have := hch5.size; have := HB34.out.size; omega
              have HST5 := Lib.hid hst5
              clear hsort hch5 hsr5 hst5
              go_wp2
              go_roundw
              case rel => exact ⟨q + 1, g4, o4, c4, nb + np, Srt.isort ltE (Lm ++ Pk), by go_num, rfl, by omega, by rw [Srt.isort_length]; exact HL4.out, hz5, HST5.out⟩
              case measure => simp [intOf]; omega
            · obtain rfl : q = m1 := by omega
              have hm1 := HM1.out
              have hcl : R.length = (Huf.row Ls q).length := HST.out.coins.length
              have hge := Huf.row_ge Ls (by rw [HLSL.out]; exact hnb2) q (by rw [HLSL.out, hm1, HPW.out]; omega)
              rw [HLSL.out, ← hcl, HRN.out] at hge
              obtain ⟨T2, hT2⟩ : ∃ T, T = 2 * nb - 2 := ⟨_, rfl⟩
              have et : (2 : Int) * (nb : Int) - 2 = (T2 : Int) := by omega
              have hcp := HST.out.row.capLe
              rw [HRN.out] at hcp
              unfold maxLen at hcp
              obtain ⟨hcp1, hcp2⟩ := hcp
              have hT2N : T2 ≤ N := by omega
              have hT2c : T2 ≤ cap := by omega
              have hT2i : (0 : Int) ≤ (T2 : Int) := by omega
              have hT8 : T2 ≤ 800 := by omega
              have hall := row_all (P := fun i => i < k) (L := Ls) (by
                intro c hc i hi
                rw [← HLS.out] at hc
                have hc := Srt.mem_isort.1 hc
                rw [← HC0.out] at hc
                obtain ⟨j, hj1, hj2, hj3⟩ := bs_mem hc
                rw [hj3] at hi
                rw [List.mem_singleton.1 hi]; exact hj1) q
              have hlen16 : ∀ c ∈ Huf.row Ls q, c.2.length ≤ 16384 := fun c hc => Nat.le_trans (row_bd HLB.out q c hc).2.2 ((Nat.pow_le_pow_right (n := 2) (by decide) (by omega) : 2 ^ q ≤ 2 ^ 14))
              have hfinal : lensL xs most = cntL k (((Huf.row Ls q).take T2).flatMap (·.2)) := by
                unfold lensL cntL
                rw [HNN.out, HC0.out, HLS.out, HNB.out, show most - 1 = q by omega, ← hT2]
                apply List.map_congr_left
                intro i _
                rw [if_neg (by omega)]
              have hrl : (Huf.row Ls q).length = N := by rw [← hcl]; exact HRN.out
              have HT2 := Lib.hid hT2
              have HALL := Lib.hid hall
              have HL16 := Lib.hid hlen16
              have HFIN := Lib.hid hfinal
              have HRL := Lib.hid hrl
              have hst0 : RowSt W wr gl ol co Lm Ls go k (cntL k ([] : List Nat)) g off cap R (Huf.row Ls q) := by rw [cntL_nil]; exact HST.out
              have HST0 := Lib.hid hst0
              generalize Huf.row Ls q = RR at *
              clear hcl hge hT2 hall hlen16 hfinal hrl hst0 HST hNb
              go_wp2
              clear et
              go_loopw [101] (fun jv wx => ∃ j : Nat, jv = .int .i64 j ∧ j ≤ T2 ∧ RowSt W wx gl ol co Lm Ls go k (cntL k ((RR.take j).flatMap (·.2))) g off cap R RR) (fun jv _ => T2 - (intOf jv).toNat)
              case atStart => exact ⟨0, rfl, Nat.zero_le _, HST0.out⟩
              case round =>
                clear HST0
                obtain ⟨j, rfl, hj, hsj⟩ := hrel
                have HSJ := Lib.hid hsj
                clear hsj
                by_cases hlt4 : j < T2
                · obtain ⟨c, hc⟩ : ∃ c, RR[j]? = some c := ⟨RR[j]'(by rw [HRL.out]; omega), List.getElem?_eq_getElem (by rw [HRL.out]; omega)⟩
                  obtain ⟨e, he, hce⟩ := HSJ.out.coins.get j c hc
                  have c0 := HSJ.out.row.e0 he
                  have c1 := HSJ.out.row.e1 he
                  have hgb := HSJ.out.row.blk
                  have hen := hce.n
                  have htk : (RR.take (j + 1)).flatMap (·.2) = (RR.take j).flatMap (·.2) ++ c.2 := by rw [List.take_add_one, hc, List.flatMap_append]; simp
                  have hid : ∀ i ∈ c.2, i < k := HALL.out c (List.mem_of_getElem? hc)
                  have hSl : ((RR.take j).flatMap (·.2)).length ≤ 13107200 := by
                    have h1 := flat_le (RR.take j) (fun c hc => HL16.out c (List.mem_of_mem_take hc))
                    have h2 : (RR.take j).length ≤ 800 := by rw [List.length_take]; omega
                    have h3 : (RR.take j).length * 16384 ≤ 800 * 16384 := Nat.mul_le_mul_right _ h2
                    omega
                  have hc16 := HL16.out c (List.mem_of_getElem? hc)
                  obtain ⟨ew, eA, en, ec⟩ := e
                  simp only at c0 c1 hen
                  generalize (RR.take j).flatMap (·.2) = Sj at *
                  have HEN := Lib.hid hen
                  have HID := Lib.hid hid
                  have HTK := Lib.hid htk
                  have HE := Lib.hid he
                  have HC := Lib.hid hc
                  have hen16 : en ≤ 16384 := by rw [hen]; exact hc16
                  have hb1 : Below wr.heap.size wr wr := Below.refl _ _
                  clear hb1 hce hen hid htk he hc
                  go_wp2
                  have HSA := Lib.hid (HSJ.out.below ((Below.refl wr.heap.size wr).alloc (Nat.le_refl _) (.cells #[.int .i64 ew, .slice eA en ec] 76)))
                  clear HSJ c0 c1
                  generalize wr.alloc (.cells #[.int .i64 ew, .slice eA en ec] 76) = wy at *
                  go_loopw [108] (fun zv wz => ∃ z : Nat, zv = .int .i64 z ∧ z ≤ en ∧ RowSt W wz gl ol co Lm Ls go k (cntL k (Sj ++ c.2.take z)) g off cap R RR) (fun zv _ => en - (intOf zv).toNat)
                  case atStart => exact ⟨0, rfl, Nat.zero_le _, by rw [List.take_zero, List.append_nil]; exact HSA.out⟩
                  case round =>
                    clear HSA
                    obtain ⟨z, rfl, hz, hsz⟩ := hrel
                    have HSZ := Lib.hid hsz
                    clear hsz
                    by_cases hlt5 : z < en
                    · obtain ⟨id, hidz⟩ : ∃ id, c.2[z]? = some id := ⟨c.2[z]'(by have := HEN.out; omega), List.getElem?_eq_getElem (by have := HEN.out; omega)⟩
                      obtain ⟨e', he', hce'⟩ := HSZ.out.coins.get j c HC.out
                      rw [HE.out] at he'
                      injection he' with he'
                      subst he'
                      have how := hce'.own
                      obtain ⟨gi, oi, ci, hvi, _, hgi, hcel⟩ := how.cells (by rw [idsV, List.length_map]; have := HEN.out; omega)
                      simp only at hvi hcel
                      injection hvi with hAi _ hci
                      subst hAi; subst hci
                      have cc := hcel z (by rw [idsV, List.length_map]; have := HEN.out; omega)
                      rw [idsV, List.getElem?_map, hidz] at cc
                      have hik : id < k := HID.out id (List.mem_of_getElem? hidz)
                      obtain ⟨oc, of⟩ := out_cell HSZ.out.out hik
                      have hcount : (Sj ++ c.2.take z).count id ≤ 13123584 := by
                        refine Nat.le_trans List.count_le_length ?_
                        rw [List.length_append, List.length_take]
                        omega
                      have htz : c.2.take (z + 1) = c.2.take z ++ [id] := by rw [List.take_add_one, hidz]; rfl
                      have hbump := HSZ.out.bump hik
                      rw [List.append_assoc, ← htz] at hbump
                      have HBU := Lib.hid hbump
                      generalize (Sj ++ c.2.take z).count id = cn at *
                      have i0 : (0 : Int) ≤ (id : Int) := by omega
                      have i1 : (id : Int) < (k : Int) := by omega
                      simp only [Option.map_some] at cc
                      clear hidz hce' how hcel htz hbump HE
                      go_wp2
                      go_roundw
                      case rel => exact ⟨z + 1, by go_num, by omega, HBU.out⟩
                      case measure => simp [intOf]; omega
                    · obtain rfl : z = en := by omega
                      have hz2 := HSZ.out
                      rw [List.take_of_length_le (by have := HEN.out; omega), ← HTK.out] at hz2
                      have HZ2 := Lib.hid hz2
                      clear hz2 HSZ
                      go_wp2
                      go_roundw
                      case rel => exact ⟨j + 1, by go_num, by omega, HZ2.out⟩
                      case measure => simp [intOf]; omega
                · obtain rfl : j = T2 := by omega
                  go_wp2
                  go_ret2
                  refine .inl ⟨HOKX.out, ?_, some ⟨go, 0, none⟩, by rw [HNN.out]; rfl, by rw [HFIN.out]; exact HSJ.out.out.ints, HSJ.out.bel⟩
                  rw [HNN.out, HC0.out, HNB.out, HPW.out]; omega
end Go.Proofs.Ytdmggpngmlhboaa
