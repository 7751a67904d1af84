/- The document's Least: what the lengths of least cost cost. -/
import Derived.Test.YtdmggpngmlhboaaLstK
namespace Go.Proofs.Ytdmggpngmlhboaa
open Go.RowKit
set_option linter.unusedVariables false
set_option linter.unusedSimpArgs false

/-- One store behind the reads. -/
def IOne (w0 : World) (F : World → Prop) : List Value → World → Prop
  | [], w => w = w0
  | _, w => F w
theorem getD_some {xs : List Int} {i : Nat} (h : i < xs.length) : xs[i]? = some (xs.getD i 0) := by rw [List.getD_eq_getElem?_getD, List.getElem?_eq_getElem h]; rfl
theorem row_cell {w : World} {B g n : Nat} {l : List Int} (h : OwnS w B 3 1 (.slice (some ⟨g, 0, none⟩) n n) n (l.map (Value.int .i64))) {j : Nat} {v : Int} (hj : l[j]? = some v) : w.cell? ⟨g, j, none⟩ = some (.int .i64 v) ∧ w.frozen? ⟨g, j, none⟩ = false := by
  have hl : j < l.length := (List.getElem?_eq_some_iff.1 hj).1
  have hln : l.length = n := by have := h.1; simpa using this
  obtain ⟨g', o', cp', hvo, _, hgob, hcz⟩ := h.cells (by rw [List.length_map]; omega)
  injection hvo with hvo _ hk2
  injection hvo with hvo
  injection hvo with hvo1 hvo2
  subst hvo1; subst hvo2
  refine ⟨?_, ?_⟩
  · have := hcz j (by rw [List.length_map]; exact hl)
    rw [Nat.zero_add, List.getElem?_map, hj] at this
    exact this
  · rcases h.2 with ⟨hv, _⟩ | ⟨g2, off2, cap2, cur2, hv, _, ⟨fr2, hg2, hf2⟩, hn3, _, hs2, _⟩
    · cases hv
    · injection hv with hA hn4 hc4
      injection hA with hA
      injection hA with hA1 hA2
      subst hA1; subst hA2; subst hc4
      obtain ⟨lo2, hi2⟩ := fr2
      simp only at hf2
      simp only [World.frozen?, hg2, Bool.and_eq_false_iff, decide_eq_false_iff_not]
      omega
theorem row_put {w : World} {B g n j : Nat} {l l' : List Int} {v : Int} (h : OwnS w B 3 1 (.slice (some ⟨g, 0, none⟩) n n) n (l.map (Value.int .i64))) (hj : j < l.length) (hs : l.set j v = l') :
    OwnS (w.setCell ⟨g, j, none⟩ (.int .i64 v)) B 3 1 (.slice (some ⟨g, 0, none⟩) n n) n (l'.map (Value.int .i64)) := by
  have ho := OwnS.setAt (j := j) h (by rw [List.length_map]; exact hj) (.int .i64 v)
  rw [Nat.zero_add, ← List.map_set (f := Value.int .i64), hs] at ho
  exact ho
/-- One more coin is put behind the row. -/
def IApp (w0 : World) (e : El) (F : Value → World → Prop) : List Value → World → Prop
  | [], w => w = w0
  | [_], w => w = w0.alloc (.cells #[.int .i64 e.w, .slice e.A e.n e.c] 84)
  | [_, v], w => F v w
  | [_, v, x], w => x = v ∧ F v w
  | _, _ => True
theorem made_zeros {w1 : World} {g n : Nat} (hown : w1.ownsRow g 3 1 (.slice (some ⟨g, 0, none⟩) n n) n (madeCells (Value.int .i64 0).cells (n * 1)).toList) : OwnS w1 g 3 1 (.slice (some ⟨g, 0, none⟩) n n) n ((List.replicate n (0 : Int)).map (Value.int .i64)) := by
  have e : (Value.int IntKind.i64 0).cells = #[.int .i64 0] := rfl
  rw [e, toList_madeCells_one] at hown
  have := OwnS.of_row hown
  simpa using this
/-- The coins, as they lie throughout. -/
structure LsSt (W w : World) (m : Nat) (v : Value) (nb : Nat) (P : List El) (C : List Huf.Coin) : Prop where
  own : OwnS w W.heap.size 84 2 v nb (P.flatMap encE)
  coins : CoinsR m w W.heap.size P C
  bel : Below W.heap.size W w
theorem LsSt.below {W w w' : World} {m : Nat} {v : Value} {nb : Nat} {P : List El} {C : List Huf.Coin} (h : LsSt W w m v nb P C) (hb : Below w.heap.size w w') : LsSt W w' m v nb P C :=
  ⟨h.own.chg (S := fun _ => False) (Chg.of_below hb) (fun _ _ h => h), h.coins.below hb, h.bel.trans (hb.mono h.bel.size)⟩
/-- What Least answers. -/
def LsPost (W : World) (xs : List Int) (most : Nat) (e : Ending) (w' : World) : Prop :=
  e = .returned (.int .i64 (costTo xs (lensL xs most) xs.length)) ∧ Below W.heap.size W w'
set_option maxRecDepth 100000 in
set_option maxHeartbeats 8000000 in
theorem least_any (A : Option Addr) (c : Nat) (xs : List Int) (most : Nat) (W : World) (hI : Ints .i64 W A xs) (hok : okX xs) (hm1 : 1 ≤ most) (h15 : most ≤ 15) (hn : xs.length ≤ 400) :
    Calls Try.prog 15 #[.slice A xs.length c, .int .i64 most] W (LsPost W xs most) := by
  obtain ⟨i0, hi, hz0, hz1, hz2⟩ := info_parts Try.info_RCoin
  obtain ⟨j0, hji, hjz0, hjz1, hjz2⟩ := info_parts Try.info_Int
  obtain ⟨n, hnn⟩ : ∃ n, xs.length = n := ⟨_, rfl⟩
  have HNN := Lib.hid hnn
  have HI := Lib.hid hI
  have HOK := Lib.hid hok
  rw [hnn] at hn
  rw [hnn]
  clear hI hnn hok
  go_enter Try.func15, Try.ntmps15
  go_wp2
  go_loopw [5, 6, 7] (fun vo nv kv wr => ∃ (k : Nat) (P : List El), kv = .int .i64 k ∧ k ≤ n ∧ nv = .int .i64 ((bs xs k).length : Nat) ∧ OwnS wr W.heap.size 84 2 vo (bs xs k).length (P.flatMap encE) ∧ CoinsR n wr W.heap.size P (bs xs k) ∧ Below W.heap.size W wr) (fun _ _ kv _ => n - (intOf kv).toNat)
  case atStart => exact ⟨0, [], rfl, Nat.zero_le _, rfl, OwnS.nil _ _ _ _, trivial, Below.refl _ _⟩
  case round =>
    obtain ⟨k, P, rfl, hk, rfl, hO, hP, hB⟩ := hrel
    by_cases hlt : k < n
    · obtain ⟨b, o, hA, hbs, hcell⟩ := HI.out (by rw [HNN.out]; omega)
      subst hA
      have hck := (hB.cell (p := ⟨b, o + k, none⟩) hbs).trans (hcell k (by rw [HNN.out]; exact hlt))
      have hgk := HOK.out k (by rw [HNN.out]; exact hlt)
      obtain ⟨x, hx⟩ : ∃ x, xs.getD k 0 = x := ⟨_, rfl⟩
      rw [hx] at hck hgk
      obtain ⟨hx0, hx1⟩ := hgk
      have HX := Lib.hid hx
      clear hcell hx
      by_cases hx2 : 0 < x
      · have g3 : decide (0 < x) = true := decide_eq_true hx2
        have hbl := bs_length xs k
        have hbs1 : bs xs (k + 1) = bs xs k ++ [(x, [k])] := by rw [bs_succ, HX.out, if_pos hx2]
        obtain ⟨Ao, co, rfl⟩ := hO.shape
        have hbase : W.heap.size ≤ wr.heap.size := hB.size
        have HBS := Lib.hid hbs1
        clear hbs1
        obtain ⟨nb, hnb⟩ : ∃ m, (bs xs k).length = m := ⟨_, rfl⟩
        rw [hnb] at hO hbl ⊢
        have HNB := Lib.hid hnb
        clear hnb
        have hmx1 : nb + 1 ≤ maxLen := by unfold maxLen; omega
        have hmx2 : (nb + 1) * 32 ≤ 140737488355328 := by omega
        have HO := Lib.hid hO
        have HP := Lib.hid hP
        have HB := Lib.hid hB
        have HBB := Lib.hid hbs
        have hckk := Lib.hid hck
        clear hO hP hB hbs
        go_upto_region 8 with (first
          | (refine wpList_make_full _ rfl _ _ 23 rfl wr.heap.size 3 j0 (.int .i64 0) 1 Try.underlying23 hji hjz0 hjz1 .i64 .i64 _ _ n rfl rfl rfl rfl (by rw [hjz2]; omega) (by unfold maxLen; omega) (Nat.le_refl _) ?_; intro w1 hown hgrow))
        have hrow : OwnS w1 wr.heap.size 3 1 (.slice (some ⟨wr.heap.size, 0, none⟩) n n) n ((List.replicate n (0 : Int)).map (Value.int .i64)) := by
          have e : (Value.int IntKind.i64 0).cells = #[.int .i64 0] := rfl
          rw [e, toList_madeCells_one] at hown
          have := OwnS.of_row hown
          simpa using this
        have hb1 : Below wr.heap.size wr w1 := (Below.refl _ _).grown hgrow (Nat.le_refl _) (by simp)
        obtain ⟨t0, f0⟩ := row_cell (j := k) (v := 0) hrow (by rw [List.getElem?_replicate, if_pos hlt])
        have hput := row_put (j := k) (v := 1) hrow (by rw [List.length_replicate]; exact hlt) (cntL_one hlt)
        have hb2 : Below wr.heap.size wr (w1.setCell ⟨wr.heap.size, k, none⟩ (.int .i64 1)) := Below.setCell hb1 (show wr.heap.size ≤ (⟨wr.heap.size, k, none⟩ : Addr).block from Nat.le_refl _) _
        have hck1 := (hb2.cell (p := ⟨b, o + k, none⟩) (Nat.lt_of_lt_of_le HBB.out hbase)).trans hckk.out
        clear hown hgrow hb1 hrow
        generalize hwr : wr.heap.size = go at *
        go_upto_region 9 with (fail)
        generalize w1.setCell ⟨go, k, none⟩ (.int .i64 1) = w2 at *
        have hbw : Below wr.heap.size wr w2 := by rw [hwr]; exact hb2
        have hgo2 : go ≤ w2.heap.size := by rw [← hwr]; exact hbw.size
        have hO3 := (HO.out.chg (S := fun _ => False) (Chg.of_below hbw) (fun _ _ h => h)).alloc (.cells #[.int .i64 x, .slice (some ⟨go, 0, none⟩) n n] 84)
        have hP3 := HP.out.below (hbw.trans ((Below.refl w2.heap.size w2).alloc (Nat.le_refl _) (.cells #[.int .i64 x, .slice (some ⟨go, 0, none⟩) n n] 84) |>.mono hbw.size))
        have hB3 : Below W.heap.size W (w2.alloc (.cells #[.int .i64 x, .slice (some ⟨go, 0, none⟩) n n] 84)) := (HB.out.trans (hbw.mono HB.out.size)).alloc (Nat.le_trans hbase hgo2) _
        have hi3 := hput.alloc (.cells #[.int .i64 x, .slice (some ⟨go, 0, none⟩) n n] 84)
        have hsr3 := Src.coinR (P := Try.prog) (w := w2) ⟨x, some ⟨go, 0, none⟩, n, n⟩
        have hz3 : W.heap.size ≤ (w2.alloc (.cells #[.int .i64 x, .slice (some ⟨go, 0, none⟩) n n] 84)).heap.size := hB3.size
        have HO3 := Lib.hid hO3
        have HP3 := Lib.hid hP3
        have HB3 := Lib.hid hB3
        have HI3 := Lib.hid hi3
        have HSR3 := Lib.hid hsr3
        have HZ3 := Lib.hid hz3
        clear hbw hO3 hP3 hB3 hi3 hsr3 hz3 hput hb2 t0 f0
        go_wp2_with (at_builtin; refine wpList_append_S rfl (.tmp 37) (.tmp 44) 82 82 rfl i0 _ 32 (.slice 84) Try.underlying82 Try.underlying82 (fun _ h => by cases h) hi hz0 hz1 hz2 rfl rfl rfl HO3.out HSR3.out hmx1 hmx2 HZ3.out ?_; intro A9 c9 w9 ho9 hg9 hw9; have hF := FRc.mk HO3.out HI3.out rfl HP3.out hg9 ho9 HB3.out hbase HZ3.out)
        obtain ⟨e', hO9, hC9, hP9, hB9⟩ := hF
        go_roundw
        case rel =>
          have hl9 : (bs xs (k + 1)).length = nb + 1 := by rw [HBS.out, List.length_append, HNB.out]; rfl
          refine ⟨k + 1, P ++ [e'], by go_num, by omega, by rw [hl9]; go_num, ?_, ?_, hB9⟩
          · rw [hl9]; exact hO9
          · rw [HBS.out]; exact hP9.append ⟨hC9, trivial⟩
        case measure => simp [intOf]; omega
      · have g3 : decide (0 < x) = false := decide_eq_false hx2
        have hbs1 : bs xs (k + 1) = bs xs k := by rw [bs_succ, HX.out, if_neg hx2, List.append_nil]
        have HBS := Lib.hid hbs1
        have HO := Lib.hid hO
        have HP := Lib.hid hP
        have HB := Lib.hid hB
        clear hbs1 hO hP hB
        go_wp2
        go_roundw
        case rel => exact ⟨k + 1, P, by go_num, by omega, by rw [HBS.out], by rw [HBS.out]; exact HO.out, by rw [HBS.out]; exact HP.out, HB.out⟩
        case measure => simp [intOf]; omega
    · obtain rfl : k = n := by omega
      have hxl := HNN.out
      obtain ⟨C0, hC0⟩ : ∃ C, bs xs k = C := ⟨_, rfl⟩
      obtain ⟨nb, hnb⟩ : ∃ m, C0.length = m := ⟨_, rfl⟩
      have hbl : nb ≤ k := by have := bs_length xs k; rw [hC0, hnb] at this; exact this
      rw [hC0] at hO hP
      rw [hnb] at hO
      rw [hC0, hnb]
      obtain ⟨Ao, co, rfl⟩ := hO.shape
      have HC0 := Lib.hid hC0
      have HNB := Lib.hid hnb
      have HO := Lib.hid hO
      have HP := Lib.hid hP
      have HB := Lib.hid hB
      clear hxl hC0 hnb hO hP hB
      have hbase : W.heap.size ≤ wr.heap.size := HB.out.size
      by_cases hn2 : nb < 2
      · have g1 : decide ((nb : Int) < 2) = true := decide_eq_true (by omega)
        have g2 : decide (nb < 2) = true := decide_eq_true hn2
        go_upto_region 13 with (first
          | (refine wpList_make_full _ rfl _ _ 23 rfl wr.heap.size 3 j0 (.int .i64 0) 1 Try.underlying23 hji hjz0 hjz1 .i64 .i64 _ _ k rfl rfl rfl rfl (by rw [hjz2]; omega) (by unfold maxLen; omega) (Nat.le_refl _) ?_; intro w1 hown hgrow))
        have hrow := made_zeros hown
        have hb1 : Below wr.heap.size wr w1 := (Below.refl _ _).grown hgrow (Nat.le_refl _) (by simp)
        have hcost := cost_ones xs most HOK.out (by rw [HNN.out, HC0.out, HNB.out]; exact hn2)
        rw [HNN.out] at hcost
        have HCOST := Lib.hid hcost
        have HB1 := Lib.hid (HB.out.trans (hb1.mono hbase))
        have HROW := Lib.hid (hrow.base_ hbase)
        have hgo : W.heap.size ≤ wr.heap.size := hbase
        clear hown hgrow hrow hb1 hcost
        generalize wr.heap.size = go at *
        go_wp2
        go_loopw [10] (fun jv wx => ∃ j : Nat, jv = .int .i64 j ∧ j ≤ k ∧ OwnS wx W.heap.size 3 1 (.slice (some ⟨go, 0, none⟩) k k) k ((mixL (List.replicate k 1) (List.replicate k 0) j).map (Value.int .i64)) ∧ Below W.heap.size W wx) (fun jv _ => k - (intOf jv).toNat)
        case atStart => exact ⟨0, rfl, Nat.zero_le _, by rw [mixL_zero]; exact HROW.out, HB1.out⟩
        case round =>
          obtain ⟨j, rfl, hj, hO, hB⟩ := hrel
          by_cases hlj : j < k
          · obtain ⟨t0, f0⟩ := row_cell (j := j) (v := 0) hO (by rw [mixL_at (by simp) (by simpa using hlj), List.getElem?_replicate, if_pos hlj])
            have hput := row_put (j := j) (v := 1) hO (by rw [mixL_length (by simp)]; simpa using hlj) (mixL_set (by simp) (by rw [List.getElem?_replicate, if_pos hlj]))
            have hb2 := Below.setCell hB (show W.heap.size ≤ (⟨go, j, none⟩ : Addr).block from hgo) (.int .i64 1)
            have HPUT := Lib.hid hput
            have HB2 := Lib.hid hb2
            clear hput hb2 hO hB
            go_wp2
            go_roundw
            case rel => exact ⟨j + 1, by go_num, by omega, HPUT.out, HB2.out⟩
            case measure => simp [intOf]; omega
          · obtain rfl : j = k := by omega
            have hO2 : OwnS wr W.heap.size 3 1 (.slice (some ⟨go, 0, none⟩) j j) j ((List.replicate j (1 : Int)).map (Value.int .i64)) := by
              have := mixL_all (A := List.replicate j (1 : Int)) (B := List.replicate j 0) (by simp)
              rw [List.length_replicate] at this
              rw [this] at hO; exact hO
            have hc := rcost_any A (some ⟨go, 0, none⟩) c j j xs (List.replicate j 1) wr (HI.out.below hB) hO2.ints HNN.out (by simp) (by omega)
            have HB2 := Lib.hid hB
            clear hO hO2 hB
            go_wp2_with fail
            refine hc.mono ?_
            rintro e w5 ⟨rfl, hd5⟩
            go_wp2
            go_ret
            exact ⟨by rw [HNN.out, ← HCOST.out]; rfl, hd5.below HB2.out⟩
      · have hnb2 : 2 ≤ nb := by omega
        have g1 : decide ((nb : Int) < 2) = false := decide_eq_false (by omega)
        have g2 : decide (nb < 2) = false := decide_eq_false hn2
        obtain ⟨Ls, hLs⟩ : ∃ Ls, Srt.isort Huf.ltC C0 = Ls := ⟨_, rfl⟩
        have hlsl : Ls.length = nb := by rw [← hLs, Srt.isort_length]; exact HNB.out
        have hlb : ∀ c ∈ Ls, 0 < c.1 ∧ c.1 ≤ ((1073741824 : Nat) : Int) ∧ c.2.length ≤ 1 := by
          intro c hc
          rw [← hLs] at hc
          have hc := Srt.mem_isort.1 hc
          rw [← HC0.out] at hc
          obtain ⟨j, hj1, hj2, hj3⟩ := bs_mem hc
          have := HOK.out j (by rw [HNN.out]; exact hj1)
          rw [hj3]
          exact ⟨hj2, this.2, Nat.le_refl _⟩
        have HLS := Lib.hid hLs
        have HLSL := Lib.hid hlsl
        have HLB := Lib.hid hlb
        have HST := Lib.hid (LsSt.mk HO.out HP.out HB.out)
        obtain ⟨m1, hm⟩ : ∃ m1, m1 + 1 = most := ⟨most - 1, by omega⟩
        have em : (most : Int) - 1 = (m1 : Int) := by omega
        have HM := Lib.hid hm
        clear hLs hlsl hlb HO HP HB hn2 hbase hm
        go_wp2
        go_loopw [11, 12] (fun lv qv wr => ∃ (q nl : Nat) (Q : List El), qv = .int .i64 q ∧ q + 1 ≤ most ∧ nl ≤ nb ∧ LsSt W wr k (.slice Ao nb co) nb P C0 ∧ OwnS wr W.heap.size 84 2 lv nl (Q.flatMap encE) ∧ CoinsR k wr W.heap.size Q (lvlR Ls q)) (fun _ qv _ => most - (intOf qv).toNat)
        case atStart => exact ⟨0, 0, [], rfl, by omega, Nat.zero_le _, HST.out, OwnS.nil _ _ _ _, trivial⟩
        case round =>
          clear HST
          obtain ⟨q, nl, Q, rfl, hq, hnl, hst, hO, hQ⟩ := hrel
          have g3 : decide ((q : Int) < (most : Int)) = true := decide_eq_true (by omega)
          have g3' : decide (q < most) = true := decide_eq_true (by omega)
          obtain ⟨Al, cl, rfl⟩ := hO.shape
          have hq14 : q ≤ 14 := by omega
          have hp2 : 2 ^ q ≤ 16384 := (Nat.pow_le_pow_right (n := 2) (by decide) hq14 : 2 ^ q ≤ 2 ^ 14)
          have hbd1 : ∀ c ∈ Huf.row Ls q, 0 < c.1 ∧ c.1 ≤ ((17592186044416 : Nat) : Int) ∧ c.2.length ≤ 16384 := fun c hc => by
            have h1 := row_bd HLB.out q c hc
            have h2 : 2 ^ q * 1073741824 ≤ 17592186044416 := Nat.le_trans (Nat.mul_le_mul_right _ hp2) (by decide)
            exact ⟨h1.1, Int.le_trans h1.2.1 (Int.ofNat_le.2 h2), Nat.le_trans h1.2.2 hp2⟩
          have hrow : Srt.isort Huf.ltC (C0 ++ lvlR Ls q) = Huf.row Ls q := by rw [← HLS.out]; exact lvlR_row C0 q
          have hoka : ∀ e ∈ P ++ Q, okE e := (hst.coins.append hQ).okAll (fun c hc => by
            have hm := Srt.mem_isort (lt := Huf.ltC).2 hc
            rw [hrow] at hm
            have := hbd1 c hm
            exact ⟨by omega, by omega⟩)
          have hbase : W.heap.size ≤ wr.heap.size := hst.bel.size
          have hE0 : OwnS (wr.alloc (.cells #[] 84)) wr.heap.size 84 2 (.slice (some ⟨wr.heap.size, 0, none⟩) 0 0) 0 [] := ⟨rfl, .inr ⟨wr.heap.size, 0, 0, #[], rfl, Nat.le_refl _, ⟨(0, 0), heap_alloc_new wr _, .inl (Nat.le_refl _)⟩, Nat.le_refl _, Nat.zero_le _, by simp, rfl⟩⟩
          have hbe : Below wr.heap.size wr (wr.alloc (.cells #[] 84)) := (Below.refl _ _).alloc (Nat.le_refl _) _
          have hze : wr.heap.size ≤ (wr.alloc (.cells #[] 84)).heap.size := hbe.size
          have hs1 := Src.rowR (P := Try.prog) (hst.below hbe).own
          have hs2 := fun w' (hb : Below wr.heap.size wr w') => Src.rowR (P := Try.prog) (hO.chg (S := fun _ => False) (Chg.of_below hb) (fun _ _ h => h))
          have hmx1 : 0 + nb ≤ maxLen := by unfold maxLen; omega
          have hmx2 : (0 + nb) * 32 ≤ 140737488355328 := by omega
          have hmx3 : nb + nl ≤ maxLen := by unfold maxLen; omega
          have hmx4 : (nb + nl) * 32 ≤ 140737488355328 := by omega
          have HBD := Lib.hid hbd1
          have HROW := Lib.hid hrow
          have HOKA := Lib.hid hoka
          have HE0 := Lib.hid hE0
          have HBE := Lib.hid hbe
          have HS1 := Lib.hid hs1
          have HS2 := Lib.hid hs2
          have HST := Lib.hid hst
          have HQ := Lib.hid hQ
          clear hp2 hbd1 hrow hoka hE0 hbe hs1 hs2 hst hQ hO
          go_upto_region 23 with (first
            | (at_builtin; refine wpList_append_S rfl (.tmp 72) (.tmp 73) 82 82 rfl i0 _ 32 (.slice 84) Try.underlying82 Try.underlying82 (fun _ h => by cases h) hi hz0 hz1 hz2 rfl rfl rfl ho9 (HS2.out _ hb9) hmx3 hmx4 hz9 ?_; intro A10 c10 w10 ho10 hg10 hw10; have hb10 : Below wr.heap.size wr w10 := hb9.trans ((Chg.of_grown (S := fun q => (Value.slice A9 nb c9).ownBlock = some q) hg10 (fun _ h => h)).below hz9 (fun q hq hs => by have := (ho9.lt q hs).1; omega)))
            | (at_builtin; refine wpList_append_S rfl (.tmp 70) (.tmp 71) 82 82 rfl i0 _ 32 (.slice 84) Try.underlying82 Try.underlying82 (fun _ h => by cases h) hi hz0 hz1 hz2 rfl rfl rfl HE0.out HS1.out hmx1 hmx2 hze ?_; intro A9 c9 w9 ho9 hg9 hw9; rw [Nat.zero_add] at ho9 ⊢; have hb9 : Below wr.heap.size wr w9 := HBE.out.trans ((Chg.of_grown (S := fun q => q = wr.heap.size) hg9 (fun k hk => by injection hk with hk; exact hk.symm)).below hze (fun q hq hs => by omega)); have hz9 : wr.heap.size ≤ w9.heap.size := hb9.size)
            | (go_at_call 38; refine (sorted_any A10 _ c10 wr.heap.size (P ++ Q) w10 (by rw [List.flatMap_append]; exact ho10) HOKA.out (by omega)).mono ?_; rintro e w11 ⟨A11, c11, rfl, ho11, hb11⟩))
          have hb : Below wr.heap.size wr w11 := hb10.trans (hb11.mono hb10.size)
          have hst := HST.out.below hb
          have hR := ((HST.out.coins.append HQ.out).isort).below hb
          rw [HROW.out] at hR
          have hbase10 : W.heap.size ≤ w10.heap.size := Nat.le_trans hbase hb10.size
          obtain ⟨N, hN⟩ : ∃ N, N = nb + nl := ⟨_, rfl⟩
          rw [← hN] at ho11 ⊢
          generalize Srt.isort ltE (P ++ Q) = R at *
          obtain ⟨g, off, cap, hv, hlR, hgb, hsr⟩ := SRow.of_ownR ho11 (by omega)
          injection hv with hvA _ hvc
          subst hvA; subst hvc
          have hCN : (Huf.row Ls q).length = N := by rw [← hR.length]; exact hlR
          have hN2 : N ≤ 800 := by omega
          have hcap := hsr.capLe
          rw [hlR] at hcap
          unfold maxLen at hcap
          obtain ⟨hNc, hcm⟩ := hcap
          have HALL := Lib.hid (show SRow w11 84 2 encE g off c11 R ∧ CoinsR k w11 W.heap.size R (Huf.row Ls q) from ⟨hsr, hR⟩)
          have HST1 := Lib.hid hst
          have HCN := Lib.hid hCN
          have HLR := Lib.hid hlR
          have hgw : g < w11.heap.size := hsr.blk
          have hb11' : W.heap.size ≤ w11.heap.size := hst.bel.size
          have hNe : N ≤ nb + nb := by omega
          clear hb hst hR ho11 hb11 hb10 ho10 hg10 hw10 ho9 hg9 hb9 hz9 hlR hgb hsr hCN hbase10 HE0 HS1 HS2 HBE HST HQ HOKA hmx1 hmx2 hmx3 hmx4 hze hN hw9
          generalize hRR : Huf.row Ls q = RR at *
          have HRR := Lib.hid hRR
          clear hRR
          by_cases hlast : q = m1
          · subst hlast
            have g4 : ((q : Int) == (q : Int)) = true := by simp
            have g4' : (q == q) = true := by simp
            go_upto_region 36 with (first
              | (refine wpList_make_full _ rfl _ _ 23 rfl w11.heap.size 3 j0 (.int .i64 0) 1 Try.underlying23 hji hjz0 hjz1 .i64 .i64 _ _ k rfl rfl rfl rfl (by rw [hjz2]; omega) (by unfold maxLen; omega) (Nat.le_refl _) ?_; intro w12 hown hgrow))
            have hrow := made_zeros hown
            have hb1 : Below w11.heap.size w11 w12 := (Below.refl _ _).grown hgrow (Nat.le_refl _) (by simp)
            obtain ⟨T2, hT2⟩ : ∃ T, T = 2 * nb - 2 := ⟨_, rfl⟩
            have et : (2 : Int) * (nb : Int) - 2 = (T2 : Int) := by omega
            have hT8 : T2 ≤ 800 := by omega
            have hfinal : lensL xs most = cntL k ((RR.take T2).flatMap (·.2)) := by
              unfold lensL cntL
              rw [HNN.out, HC0.out, HLS.out, HNB.out, show most - 1 = q by have := HM.out; omega, HRR.out, ← hT2]
              apply List.map_congr_left
              intro i _
              rw [if_neg (by omega)]
            have hid : ∀ c ∈ RR, c.2.length ≤ 16384 := fun c hc => (HBD.out c hc).2.2
            have HID := Lib.hid hid
            have HFIN := Lib.hid hfinal
            have HT2 := Lib.hid hT2
            have hs0 : OwnS w12 w11.heap.size 3 1 (.slice (some ⟨w11.heap.size, 0, none⟩) k k) k ((cntL k ((RR.take 0).flatMap (·.2))).map (Value.int .i64)) := by
              rw [List.take_zero, List.flatMap_nil, cntL_nil]; exact hrow
            have HS0 := Lib.hid hs0
            have HB1 := Lib.hid hb1
            have hgo1 : w11.heap.size ≤ w11.heap.size := Nat.le_refl _
            clear hown hgrow hrow hb1 hfinal hid hT2 hs0 g4 g4' HBD
            obtain ⟨go, hgo⟩ : ∃ go, w11.heap.size = go := ⟨_, rfl⟩
            rw [hgo] at HS0 HB1 hgw hb11' ⊢
            have HGO := Lib.hid hgo
            clear hgo hgo1
            go_wp2
            clear et
            go_loopw [18] (fun iv wx => ∃ i : Nat, iv = .int .i64 i ∧ i ≤ T2 ∧ i ≤ N ∧ OwnS wx go 3 1 (.slice (some ⟨go, 0, none⟩) k k) k ((cntL k ((RR.take i).flatMap (·.2))).map (Value.int .i64)) ∧ Below go w11 wx) (fun iv _ => T2 - (intOf iv).toNat)
            case atStart => exact ⟨0, rfl, Nat.zero_le _, Nat.zero_le _, HS0.out, HB1.out⟩
            case round =>
              clear HS0 HB1
              obtain ⟨i, rfl, hi2, hiN, hOw, hBw⟩ := hrel
              have et : (2 : Int) * (nb : Int) - 2 = (T2 : Int) := by have := HT2.out; omega
              have HOW := Lib.hid hOw
              have HBW := Lib.hid hBw
              clear hOw hBw
              by_cases hlt2 : i < T2
              · have g5 : decide ((i : Int) < (T2 : Int)) = true := decide_eq_true (by omega)
                have g5' : decide (i < T2) = true := decide_eq_true hlt2
                by_cases hltN : i < N
                · have g6 : decide ((i : Int) < (N : Int)) = true := decide_eq_true (by omega)
                  have g6' : decide (i < N) = true := decide_eq_true hltN
                  obtain ⟨cc, hcc⟩ : ∃ cc, RR[i]? = some cc := ⟨RR[i]'(by have := HCN.out; omega), List.getElem?_eq_getElem (by have := HCN.out; omega)⟩
                  obtain ⟨e, he, hce⟩ := HALL.out.2.get i cc hcc
                  have hen := hce.n
                  have how := hce.own
                  rw [hen] at how
                  obtain ⟨b1, p1, d1, hv1, _, hb1w, hcel⟩ := how.cells (by rw [List.length_map, cntL_length]; omega)
                  injection hv1 with hA1 _ hd1
                  have hcb : ∀ w, Below go w11 w → w.cell? ⟨g, off + i * 2 + 1, none⟩ = some (.slice (some ⟨b1, p1, none⟩) k d1) := fun w hb => by
                    have := (HALL.out.1.below (w' := w) (by rw [HGO.out]; exact hb)).r1 he
                    rw [hA1, hen, hd1] at this
                    exact this
                  have hcj : ∀ w j, Below go w11 w → j < k → w.cell? ⟨b1, p1 + j, none⟩ = some (.int .i64 ((cc.2.count j : Nat) : Int)) := fun w j hb hj => by
                    have h1 := hcel j (by rw [List.length_map, cntL_length]; exact hj)
                    rw [List.getElem?_map, cntL_get _ hj] at h1
                    exact (Below.cell (p := ⟨b1, p1 + j, none⟩) hb (by rw [← HGO.out]; exact hb1w)).trans h1
                  have htk : (RR.take (i + 1)).flatMap (·.2) = (RR.take i).flatMap (·.2) ++ cc.2 := by rw [List.take_add_one, hcc, List.flatMap_append]; simp
                  have hSl : ((RR.take i).flatMap (·.2)).length ≤ 13107200 := by
                    have h1 := flat_le (RR.take i) (fun c hc => HID.out c (List.mem_of_mem_take hc))
                    have h2 : (RR.take i).length ≤ 800 := by rw [List.length_take]; omega
                    have h3 : (RR.take i).length * 16384 ≤ 800 * 16384 := Nat.mul_le_mul_right _ h2
                    omega
                  have hcl := HID.out cc (List.mem_of_getElem? hcc)
                  generalize (RR.take i).flatMap (·.2) = S at *
                  have HTK := Lib.hid htk
                  have HCB := Lib.hid hcb
                  have HCJ := Lib.hid hcj
                  have hOw := HOW.out
                  have HO0 := Lib.hid (show OwnS wr go 3 1 (.slice (some ⟨go, 0, none⟩) k k) k ((mixL (cntL k (S ++ cc.2)) (cntL k S) 0).map (Value.int .i64)) from by rw [mixL_zero]; exact hOw)
                  clear hcc he hce hen how hcel hA1 hcb hcj htk hOw HOW
                  have hi0 : (0 : Int) ≤ (i : Int) := by omega
                  have hi1 : (i : Int) < (N : Int) := by omega
                  go_wp2
                  go_loopw [19] (fun jv wz => ∃ j : Nat, jv = .int .i64 j ∧ j ≤ k ∧ OwnS wz go 3 1 (.slice (some ⟨go, 0, none⟩) k k) k ((mixL (cntL k (S ++ cc.2)) (cntL k S) j).map (Value.int .i64)) ∧ Below go w11 wz) (fun jv _ => k - (intOf jv).toNat)
                  case atStart => exact ⟨0, rfl, Nat.zero_le _, HO0.out, HBW.out⟩
                  case round =>
                    clear HO0 HBW
                    obtain ⟨j, rfl, hj, hOz, hBz⟩ := hrel
                    by_cases hlj : j < k
                    · have hj0 : (0 : Int) ≤ (j : Int) := by omega
                      have hj1 : (j : Int) < (k : Int) := by omega
                      have hc1 := row_cell (j := j) (v := ((S.count j : Nat) : Int)) hOz (by rw [mixL_at (by rw [cntL_length, cntL_length]) (by rw [cntL_length]; exact hlj)]; exact cntL_get _ hlj)
                      have hc2 := HCB.out wr hBz
                      have hc3 := HCJ.out wr j hBz hlj
                      have hput := row_put (j := j) (v := ((S.count j : Nat) : Int) + ((cc.2.count j : Nat) : Int)) hOz (by rw [mixL_length (by rw [cntL_length, cntL_length]), cntL_length]; exact hlj) (mixL_set (by rw [cntL_length, cntL_length]) (cntL_add S cc.2 hlj))
                      have hba := Below.setCell hBz (show go ≤ (⟨go, j, none⟩ : Addr).block from Nat.le_refl _) (.int .i64 (((S.count j : Nat) : Int) + ((cc.2.count j : Nat) : Int)))
                      have ha1 : ((S.count j : Nat) : Int) ≤ 13107200 := by have := List.count_le_length (a := j) (l := S); omega
                      have ha2 : ((cc.2.count j : Nat) : Int) ≤ 16384 := by have := List.count_le_length (a := j) (l := cc.2); omega
                      have ha10 : 0 ≤ ((S.count j : Nat) : Int) := by omega
                      have ha20 : 0 ≤ ((cc.2.count j : Nat) : Int) := by omega
                      generalize ((S.count j : Nat) : Int) = a1 at *
                      generalize ((cc.2.count j : Nat) : Int) = a2 at *
                      have C1 : Hid (wr.drew.cell? ⟨go, j, none⟩ = some (.int .i64 a1)) := hc1.1
                      have F1 : Hid (wr.drew.frozen? ⟨go, j, none⟩ = false) := hc1.2
                      have C2 : Hid (wr.drew.cell? ⟨g, off + i * 2 + 1, none⟩ = some (.slice (some ⟨b1, p1, none⟩) k d1)) := hc2
                      have C3 : Hid (wr.drew.cell? ⟨b1, p1 + j, none⟩ = some (.int .i64 a2)) := hc3
                      have HFX : Hid (∀ w1 : World, w1 = wr.drew → OwnS (w1.setCell ⟨go, j, none⟩ (.int .i64 (a1 + a2))) go 3 1 (.slice (some ⟨go, 0, none⟩) k k) k ((mixL (cntL k (S ++ cc.2)) (cntL k S) (j + 1)).map (Value.int .i64)) ∧ Below go w11 (w1.setCell ⟨go, j, none⟩ (.int .i64 (a1 + a2)))) := by
                        intro w1 hw1
                        subst hw1
                        exact ⟨hput.drew, hba.drew⟩
                      clear hc1 hc2 hc3 hput hba hOz hBz
                      go_upto_region 42 with (fail)
                      refine wp_region_ph (by kernel_rfl) [16] [.span 0 0, .span 0 0, .span 0 0, .span 0 0, .span 0 0, .span 0 0, .span 0 0, .span 0 0, .span 0 0, .span 0 0, .span 0 0, .span 0 0, .span 0 0, .span 0 0, .span 0 0, .span 0 0, .phase 0] [fun z9 => z9 = .slice (some ⟨go, 0, none⟩) k k, fun z9 => z9 = .int .i64 (j), fun z9 => z9 = .slice (some ⟨go, 0, none⟩) k k, fun z9 => z9 = .int .i64 (j), fun z9 => z9 = .pointer (some ⟨go, j, none⟩), fun z9 => z9 = .int .i64 a1, fun z9 => z9 = .slice (some ⟨g, off, none⟩) N c11, fun z9 => z9 = .int .i64 (i), fun z9 => z9 = .pointer (some ⟨g, off + (i) * 2, none⟩), fun z9 => z9 = .pointer (some ⟨g, off + (i) * 2 + 1, none⟩), fun z9 => z9 = .slice (some ⟨b1, p1, none⟩) k d1, fun z9 => z9 = .int .i64 (j), fun z9 => z9 = .pointer (some ⟨b1, p1 + j, none⟩), fun z9 => z9 = .int .i64 a2, fun z9 => z9 = .int .i64 (a1 + a2), fun z9 => z9 = .pointer (some ⟨go, j, none⟩), fun _ => True] (IOne wr.drew (fun w => OwnS w go 3 1 (.slice (some ⟨go, 0, none⟩) k k) k ((mixL (cntL k (S ++ cc.2)) (cntL k S) (j + 1)).map (Value.int .i64)) ∧ Below go w11 w)) (by kernel_rfl) (by kernel_rfl) (by kernel_rfl) (by kernel_rfl) (by kernel_rfl) (by kernel_rfl) rfl rfl (rfl) ?steps ?done
                      case steps =>
                        refine ⟨?_, ?_, ?_, ?_, ?_, ?_, ?_, ?_, ?_, ?_, ?_, ?_, ?_, ?_, ?_, ?_, ?_, trivial⟩
                        · intro us au w1 k0 hlo hhi ha hd hst hI
                          obtain rfl : k0 = 0 := by omega
                          have q17 := slot_far (t := 17) (v := .slice (some ⟨go, 0, none⟩) k k) ha (by kernel_rfl) (by kernel_rfl)
                          have p17 := slot_norm q17
                          clear ha hd hst
                          exact StepI.pure (v := .slice (some ⟨go, 0, none⟩) k k) rfl rfl (by go_simp) ⟨rfl, hI⟩
                        · intro us au w1 k1 hlo hhi ha hd hst hI
                          obtain rfl : k1 = 0 := by omega
                          have q19 := slot_far (t := 19) (v := .int .i64 (j)) ha (by kernel_rfl) (by kernel_rfl)
                          have p19 := slot_norm q19
                          clear ha hd hst
                          exact StepI.pure (v := .int .i64 (j)) rfl rfl (by go_simp) ⟨rfl, hI⟩
                        · intro us au w1 k2 hlo hhi ha hd hst hI
                          obtain rfl : k2 = 0 := by omega
                          have q17 := slot_far (t := 17) (v := .slice (some ⟨go, 0, none⟩) k k) ha (by kernel_rfl) (by kernel_rfl)
                          have p17 := slot_norm q17
                          clear ha hd hst
                          exact StepI.pure (v := .slice (some ⟨go, 0, none⟩) k k) rfl rfl (by go_simp) ⟨rfl, hI⟩
                        · intro us au w1 k3 hlo hhi ha hd hst hI
                          obtain rfl : k3 = 0 := by omega
                          have q19 := slot_far (t := 19) (v := .int .i64 (j)) ha (by kernel_rfl) (by kernel_rfl)
                          have p19 := slot_norm q19
                          clear ha hd hst
                          exact StepI.pure (v := .int .i64 (j)) rfl rfl (by go_simp) ⟨rfl, hI⟩
                        · intro us au w1 k4 hlo hhi ha hd hst hI
                          obtain rfl : k4 = 0 := by omega
                          have e2 := hd 2 _ (by kernel_rfl) rfl
                          have e3 := hd 3 _ (by kernel_rfl) rfl
                          have q159 := slot_at (t := 159) 2 ha (by kernel_rfl) (by kernel_rfl) (by kernel_rfl) e2
                          have p159 := slot_norm q159
                          have q160 := slot_at (t := 160) 3 ha (by kernel_rfl) (by kernel_rfl) (by kernel_rfl) e3
                          have p160 := slot_norm q160
                          clear ha hd hst
                          exact StepI.pure (v := .pointer (some ⟨go, j, none⟩)) rfl rfl (by go_simp) ⟨rfl, hI⟩
                        · intro us au w1 k5 hlo hhi ha hd hst hI
                          obtain rfl : k5 = 0 := by omega
                          have e4 := hd 4 _ (by kernel_rfl) rfl
                          have q161 := slot_at (t := 161) 4 ha (by kernel_rfl) (by kernel_rfl) (by kernel_rfl) e4
                          have p161 := slot_norm q161
                          clear ha hd hst
                          have c1 := (congrArg (fun w => World.cell? w ⟨go, j, none⟩) (show w1 = _ from hI)).trans C1.out
                          exact StepI.pure (v := .int .i64 a1) rfl rfl (by go_simp) ⟨rfl, hI⟩
                        · intro us au w1 k6 hlo hhi ha hd hst hI
                          obtain rfl : k6 = 0 := by omega
                          have q11 := slot_far (t := 11) (v := .slice (some ⟨g, off, none⟩) N c11) ha (by kernel_rfl) (by kernel_rfl)
                          have p11 := slot_norm q11
                          clear ha hd hst
                          exact StepI.pure (v := .slice (some ⟨g, off, none⟩) N c11) rfl rfl (by go_simp) ⟨rfl, hI⟩
                        · intro us au w1 k7 hlo hhi ha hd hst hI
                          obtain rfl : k7 = 0 := by omega
                          have q18 := slot_far (t := 18) (v := .int .i64 (i)) ha (by kernel_rfl) (by kernel_rfl)
                          have p18 := slot_norm q18
                          clear ha hd hst
                          exact StepI.pure (v := .int .i64 (i)) rfl rfl (by go_simp) ⟨rfl, hI⟩
                        · intro us au w1 k8 hlo hhi ha hd hst hI
                          obtain rfl : k8 = 0 := by omega
                          have e6 := hd 6 _ (by kernel_rfl) rfl
                          have e7 := hd 7 _ (by kernel_rfl) rfl
                          have q163 := slot_at (t := 163) 6 ha (by kernel_rfl) (by kernel_rfl) (by kernel_rfl) e6
                          have p163 := slot_norm q163
                          have q164 := slot_at (t := 164) 7 ha (by kernel_rfl) (by kernel_rfl) (by kernel_rfl) e7
                          have p164 := slot_norm q164
                          clear ha hd hst
                          exact StepI.pure (v := .pointer (some ⟨g, off + (i) * 2, none⟩)) rfl rfl (by go_simp) ⟨rfl, hI⟩
                        · intro us au w1 k9 hlo hhi ha hd hst hI
                          obtain rfl : k9 = 0 := by omega
                          have e8 := hd 8 _ (by kernel_rfl) rfl
                          have q165 := slot_at (t := 165) 8 ha (by kernel_rfl) (by kernel_rfl) (by kernel_rfl) e8
                          have p165 := slot_norm q165
                          clear ha hd hst
                          exact StepI.pure (v := .pointer (some ⟨g, off + (i) * 2 + 1, none⟩)) rfl rfl (by go_simp) ⟨rfl, hI⟩
                        · intro us au w1 k10 hlo hhi ha hd hst hI
                          obtain rfl : k10 = 0 := by omega
                          have e9 := hd 9 _ (by kernel_rfl) rfl
                          have q166 := slot_at (t := 166) 9 ha (by kernel_rfl) (by kernel_rfl) (by kernel_rfl) e9
                          have p166 := slot_norm q166
                          clear ha hd hst
                          have c1 := (congrArg (fun w => World.cell? w ⟨g, off + i * 2 + 1, none⟩) (show w1 = _ from hI)).trans C2.out
                          exact StepI.pure (v := .slice (some ⟨b1, p1, none⟩) k d1) rfl rfl (by go_simp) ⟨rfl, hI⟩
                        · intro us au w1 k11 hlo hhi ha hd hst hI
                          obtain rfl : k11 = 0 := by omega
                          have q19 := slot_far (t := 19) (v := .int .i64 (j)) ha (by kernel_rfl) (by kernel_rfl)
                          have p19 := slot_norm q19
                          clear ha hd hst
                          exact StepI.pure (v := .int .i64 (j)) rfl rfl (by go_simp) ⟨rfl, hI⟩
                        · intro us au w1 k12 hlo hhi ha hd hst hI
                          obtain rfl : k12 = 0 := by omega
                          have e10 := hd 10 _ (by kernel_rfl) rfl
                          have e11 := hd 11 _ (by kernel_rfl) rfl
                          have q167 := slot_at (t := 167) 10 ha (by kernel_rfl) (by kernel_rfl) (by kernel_rfl) e10
                          have p167 := slot_norm q167
                          have q168 := slot_at (t := 168) 11 ha (by kernel_rfl) (by kernel_rfl) (by kernel_rfl) e11
                          have p168 := slot_norm q168
                          clear ha hd hst
                          exact StepI.pure (v := .pointer (some ⟨b1, p1 + j, none⟩)) rfl rfl (by go_simp) ⟨rfl, hI⟩
                        · intro us au w1 k13 hlo hhi ha hd hst hI
                          obtain rfl : k13 = 0 := by omega
                          have e12 := hd 12 _ (by kernel_rfl) rfl
                          have q169 := slot_at (t := 169) 12 ha (by kernel_rfl) (by kernel_rfl) (by kernel_rfl) e12
                          have p169 := slot_norm q169
                          clear ha hd hst
                          have c1 := (congrArg (fun w => World.cell? w ⟨b1, p1 + j, none⟩) (show w1 = _ from hI)).trans C3.out
                          exact StepI.pure (v := .int .i64 a2) rfl rfl (by go_simp) ⟨rfl, hI⟩
                        · intro us au w1 k14 hlo hhi ha hd hst hI
                          obtain rfl : k14 = 0 := by omega
                          have e5 := hd 5 _ (by kernel_rfl) rfl
                          have e13 := hd 13 _ (by kernel_rfl) rfl
                          have q162 := slot_at (t := 162) 5 ha (by kernel_rfl) (by kernel_rfl) (by kernel_rfl) e5
                          have p162 := slot_norm q162
                          have q170 := slot_at (t := 170) 13 ha (by kernel_rfl) (by kernel_rfl) (by kernel_rfl) e13
                          have p170 := slot_norm q170
                          clear ha hd hst
                          exact StepI.pure (v := .int .i64 (a1 + a2)) rfl rfl (by go_simp; exact IntWalk.i64_in _ (by omega)) ⟨rfl, hI⟩
                        · intro us au w1 k15 hlo hhi ha hd hst hI
                          obtain rfl : k15 = 0 := by omega
                          have e0 := hd 0 _ (by kernel_rfl) rfl
                          have e1 := hd 1 _ (by kernel_rfl) rfl
                          have q157 := slot_at (t := 157) 0 ha (by kernel_rfl) (by kernel_rfl) (by kernel_rfl) e0
                          have p157 := slot_norm q157
                          have q158 := slot_at (t := 158) 1 ha (by kernel_rfl) (by kernel_rfl) (by kernel_rfl) e1
                          have p158 := slot_norm q158
                          clear ha hd hst
                          exact StepI.pure (v := .pointer (some ⟨go, j, none⟩)) rfl rfl (by go_simp) ⟨rfl, hI⟩
                        · intro us au w1 ha hd hst hI
                          have e15 := hd 15 _ (by kernel_rfl) rfl
                          have e14 := hd 14 _ (by kernel_rfl) rfl
                          have q172 := slot_at (t := 172) 15 ha (by kernel_rfl) (by kernel_rfl) (by kernel_rfl) e15
                          have p172 := slot_norm q172
                          have q171 := slot_at (t := 171) 14 ha (by kernel_rfl) (by kernel_rfl) (by kernel_rfl) e14
                          have p171 := slot_norm q171
                          clear ha hd hst
                          have t0 := (congrArg (fun w => World.cell? w ⟨go, j, none⟩) (show w1 = _ from hI)).trans C1.out
                          have f0 : w1.frozen? ⟨go, j, none⟩ = false := (congrArg (fun w => World.frozen? w ⟨go, j, none⟩) (show w1 = _ from hI)).trans F1.out
                          exact StepI.stored (w' := w1.setCell ⟨go, j, none⟩ (.int .i64 (a1 + a2))) rfl rfl (by go_simp) ⟨trivial, HFX.out w1 hI⟩
                      case done =>
                        intro us w1 hI hd
                        have HF := Lib.hid (show OwnS w1 go 3 1 (.slice (some ⟨go, 0, none⟩) k k) k ((mixL (cntL k (S ++ cc.2)) (cntL k S) (j + 1)).map (Value.int .i64)) ∧ Below go w11 w1 from hI)
                        clear hI hd
                        simp only [putAll]
                        go_simp
                        go_wp2
                        go_roundw
                        case rel => exact ⟨j + 1, by go_num, by omega, HF.out.1, HF.out.2⟩
                        case measure => simp [intOf]; omega
                    · obtain rfl : j = k := by omega
                      have hO9 : OwnS wr go 3 1 (.slice (some ⟨go, 0, none⟩) j j) j ((cntL j (S ++ cc.2)).map (Value.int .i64)) := by
                        have := mixL_all (A := cntL j (S ++ cc.2)) (B := cntL j S) (by rw [cntL_length, cntL_length])
                        rw [cntL_length] at this
                        rw [this] at hOz; exact hOz
                      rw [← HTK.out] at hO9
                      have HO9 := Lib.hid hO9
                      have HB9 := Lib.hid hBz
                      clear hO9 hOz hBz
                      go_wp2
                      go_roundw
                      case rel => exact ⟨i + 1, by go_num, by omega, by omega, HO9.out, HB9.out⟩
                      case measure => simp [intOf]; omega
                · have g6 : decide ((i : Int) < (N : Int)) = false := decide_eq_false (by omega)
                  have g6' : decide (i < N) = false := decide_eq_false hltN
                  have htk : RR.take i = RR.take T2 := by rw [List.take_of_length_le (by have := HCN.out; omega), List.take_of_length_le (by have := HCN.out; omega)]
                  have hO2 := HOW.out
                  rw [htk, ← HFIN.out] at hO2
                  have hc := rcost_any A (some ⟨go, 0, none⟩) c k k xs (lensL xs most) wr (HI.out.below (HST1.out.bel.trans (HBW.out.mono hb11'))) hO2.ints HNN.out (by rw [lensL_length]; exact HNN.out) (by omega)
                  clear htk hO2
                  go_wp2_with fail
                  refine hc.mono ?_
                  rintro e w5 ⟨rfl, hd5⟩
                  go_wp2
                  go_ret
                  exact ⟨by rw [HNN.out]; rfl, hd5.below (HST1.out.bel.trans (HBW.out.mono hb11'))⟩
              · obtain rfl : i = T2 := by omega
                have g5 : decide ((i : Int) < (i : Int)) = false := decide_eq_false (by omega)
                have g5' : decide (i < i) = false := decide_eq_false (by omega)
                have hO2 := HOW.out
                rw [← HFIN.out] at hO2
                have hc := rcost_any A (some ⟨go, 0, none⟩) c k k xs (lensL xs most) wr (HI.out.below (HST1.out.bel.trans (HBW.out.mono hb11'))) hO2.ints HNN.out (by rw [lensL_length]; exact HNN.out) (by omega)
                clear hO2
                go_wp2_with fail
                refine hc.mono ?_
                rintro e w5 ⟨rfl, hd5⟩
                go_wp2
                go_ret
                exact ⟨by rw [HNN.out]; rfl, hd5.below (HST1.out.bel.trans (HBW.out.mono hb11'))⟩
          · have g4 : ((q : Int) == (m1 : Int)) = false := by rw [beq_eq_false_iff_ne]; omega
            have g4' : (q == m1) = false := by rw [beq_eq_false_iff_ne]; omega
            have hpl : (Huf.pk RR).length ≤ nb := by
              have h1 := lvlR_length Ls (by rw [HLSL.out]; omega) (q + 1)
              rw [lvlR, HRR.out, HLSL.out] at h1
              exact h1
            have hlv : lvlR Ls (q + 1) = Huf.pk RR := by rw [lvlR, HRR.out]
            have HPL := Lib.hid hpl
            have HLV := Lib.hid hlv
            clear hpl hlv g4 g4'
            obtain ⟨wa, hwa⟩ : ∃ z, w11.heap.size = z := ⟨_, rfl⟩
            rw [hwa] at hgw hb11'
            have HWA := Lib.hid hwa
            clear hwa
            have HS0 : Hid (Below wa w11 w11) := Below.refl _ _
            go_wp2
            go_loopw [11, 14] (fun lv iv wx => ∃ (k2 I : Nat) (Z : List El), iv = .int .i64 I ∧ I = 2 * k2 ∧ I ≤ N ∧ OwnS wx wa 84 2 lv k2 (Z.flatMap encE) ∧ CoinsR k wx wa Z ((Huf.pk RR).take k2) ∧ Below wa w11 wx) (fun _ iv _ => N + 2 - (intOf iv).toNat)
            case atStart => exact ⟨0, 0, [], rfl, rfl, Nat.zero_le _, OwnS.nil _ _ _ _, trivial, HS0.out⟩
            case round =>
              clear HS0
              obtain ⟨k2, I, Z, rfl, hI2, hIN, hO, hZ, hB⟩ := hrel
              by_cases hlt3 : I + 1 < N
              · obtain ⟨Az, cz, rfl⟩ := hO.shape
                obtain ⟨I2, hI22⟩ : ∃ J, J = I + 1 := ⟨_, rfl⟩
                have hcn := HCN.out
                obtain ⟨c1, hc1⟩ : ∃ c, RR[I]? = some c := ⟨RR[I]'(by omega), List.getElem?_eq_getElem (by omega)⟩
                obtain ⟨c2, hc2⟩ : ∃ c, RR[I2]? = some c := ⟨RR[I2]'(by omega), List.getElem?_eq_getElem (by omega)⟩
                obtain ⟨e1, hli, hce1⟩ := HALL.out.2.get I c1 hc1
                obtain ⟨e2, hlj, hce2⟩ := HALL.out.2.get I2 c2 hc2
                have hd1 := HBD.out c1 (List.mem_of_getElem? hc1)
                have hd2 := HBD.out c2 (List.mem_of_getElem? hc2)
                have hpk : (Huf.pk RR)[k2]? = some (c1.1 + c2.1, c1.2 ++ c2.2) := pk_get RR k2 c1 c2 (by rw [← hI2]; exact hc1) (by rw [← hI2, ← hI22]; exact hc2)
                have hen1 := hce1.n
                have how1 := hce1.own
                rw [hen1] at how1
                obtain ⟨b1, p1, dd1, hv1, _, hb1w, hcel1⟩ := how1.cells (by rw [List.length_map, cntL_length]; omega)
                injection hv1 with hA1 _ hdd1
                have hen2 := hce2.n
                have how2 := hce2.own
                rw [hen2] at how2
                obtain ⟨b2, p2, dd2, hv2, _, hb2w, hcel2⟩ := how2.cells (by rw [List.length_map, cntL_length]; omega)
                injection hv2 with hA2 _ hdd2
                have hcb1 : ∀ w, Below wa w11 w → w.cell? ⟨g, off + I * 2, none⟩ = some (.int .i64 e1.w) ∧ w.cell? ⟨g, off + I * 2 + 1, none⟩ = some (.slice (some ⟨b1, p1, none⟩) k dd1) := fun w hb => by
                  have hs := HALL.out.1.below (w' := w) (by rw [HWA.out]; exact hb)
                  have h1 := hs.r1 hli
                  rw [hA1, hen1, hdd1] at h1
                  exact ⟨hs.r0 hli, h1⟩
                have hcb2 : ∀ w, Below wa w11 w → w.cell? ⟨g, off + I2 * 2, none⟩ = some (.int .i64 e2.w) ∧ w.cell? ⟨g, off + I2 * 2 + 1, none⟩ = some (.slice (some ⟨b2, p2, none⟩) k dd2) := fun w hb => by
                  have hs := HALL.out.1.below (w' := w) (by rw [HWA.out]; exact hb)
                  have h1 := hs.r1 hlj
                  rw [hA2, hen2, hdd2] at h1
                  exact ⟨hs.r0 hlj, h1⟩
                have hcj1 : ∀ w j, Below wa w11 w → j < k → w.cell? ⟨b1, p1 + j, none⟩ = some (.int .i64 ((c1.2.count j : Nat) : Int)) := fun w j hb hj => by
                  have h1 := hcel1 j (by rw [List.length_map, cntL_length]; exact hj)
                  rw [List.getElem?_map, cntL_get _ hj] at h1
                  exact (Below.cell (p := ⟨b1, p1 + j, none⟩) hb (by rw [← HWA.out]; exact hb1w)).trans h1
                have hcj2 : ∀ w j, Below wa w11 w → j < k → w.cell? ⟨b2, p2 + j, none⟩ = some (.int .i64 ((c2.2.count j : Nat) : Int)) := fun w j hb hj => by
                  have h1 := hcel2 j (by rw [List.length_map, cntL_length]; exact hj)
                  rw [List.getElem?_map, cntL_get _ hj] at h1
                  exact (Below.cell (p := ⟨b2, p2 + j, none⟩) hb (by rw [← HWA.out]; exact hb2w)).trans h1
                have hsw : e1.w + e2.w = c1.1 + c2.1 := by rw [hce1.w, hce2.w]
                have hw1 : 0 ≤ e1.w ∧ e1.w ≤ 576460752303423488 := by rw [hce1.w]; omega
                have hw2 : 0 ≤ e2.w ∧ e2.w ≤ 576460752303423488 := by rw [hce2.w]; omega
                obtain ⟨hw10, hw11⟩ := hw1
                obtain ⟨hw20, hw21⟩ := hw2
                have hl1 := hd1.2.2
                have hl2 := hd2.2.2
                have f1 : (I : Int) + 1 = (I2 : Int) := by omega
                have y0 : (0 : Int) ≤ (I : Int) := by omega
                have y1 : (I : Int) < (N : Int) := by omega
                have y2 : (0 : Int) ≤ (I2 : Int) := by omega
                have y3 : (I2 : Int) < (N : Int) := by omega
                have hmx1 : k2 + 1 ≤ maxLen := by unfold maxLen; omega
                have hmx2 : (k2 + 1) * 32 ≤ 140737488355328 := by omega
                have HPK := Lib.hid hpk
                have HCB1 := Lib.hid hcb1
                have HCB2 := Lib.hid hcb2
                have HCJ1 := Lib.hid hcj1
                have HCJ2 := Lib.hid hcj2
                have HSW := Lib.hid hsw
                have HI2 := Lib.hid hI2
                have HI22 := Lib.hid hI22
                have HO := Lib.hid hO
                have HZ := Lib.hid hZ
                have HB := Lib.hid hB
                have hbz : wa ≤ wr.heap.size := by rw [← HWA.out]; exact hB.size
                clear hcn hc1 hc2 hli hlj hce1 hce2 hd1 hd2 hpk hen1 how1 hcel1 hA1 hen2 how2 hcel2 hA2 hcb1 hcb2 hcj1 hcj2 hsw hI2 hI22 hO hZ hB hdd1 hdd2
                go_upto_region 30 with (first
                  | (refine wpList_make_full _ rfl _ _ 23 rfl wr.heap.size 3 j0 (.int .i64 0) 1 Try.underlying23 hji hjz0 hjz1 .i64 .i64 _ _ k rfl rfl rfl rfl (by rw [hjz2]; omega) (by unfold maxLen; omega) (Nat.le_refl _) ?_; intro w12 hown hgrow))
                have hrow := made_zeros hown
                have hb12 : Below wr.heap.size wr w12 := (Below.refl _ _).grown hgrow (Nat.le_refl _) (by simp)
                obtain ⟨go, hgo⟩ : ∃ go, wr.heap.size = go := ⟨_, rfl⟩
                rw [hgo] at hrow hbz ⊢
                have hb12' : Below go wr w12 := by rw [← hgo]; exact hb12
                have HGO := Lib.hid hgo
                have HR0 := Lib.hid (show OwnS w12 go 3 1 (.slice (some ⟨go, 0, none⟩) k k) k ((mixL (cntL k (c1.2 ++ c2.2)) (List.replicate k 0) 0).map (Value.int .i64)) from by rw [mixL_zero]; exact hrow)
                have HB0 := Lib.hid hb12'
                clear hown hgrow hrow hb12 hgo hb12'
                generalize wr = wv at *
                go_wp2
                go_loopw [16] (fun jv wx => ∃ j : Nat, jv = .int .i64 j ∧ j ≤ k ∧ OwnS wx go 3 1 (.slice (some ⟨go, 0, none⟩) k k) k ((mixL (cntL k (c1.2 ++ c2.2)) (List.replicate k 0) j).map (Value.int .i64)) ∧ Below go wv wx) (fun jv _ => k - (intOf jv).toNat)
                case atStart => exact ⟨0, rfl, Nat.zero_le _, HR0.out, HB0.out⟩
                case round =>
                  clear HR0 HB0
                  obtain ⟨j, rfl, hj, hOz, hBz⟩ := hrel
                  have hBa : Below wa w11 wr := HB.out.trans (hBz.mono hbz)
                  by_cases hlj : j < k
                  · have hj0 : (0 : Int) ≤ (j : Int) := by omega
                    have hj1 : (j : Int) < (k : Int) := by omega
                    have hc0 := row_cell (j := j) (v := 0) hOz (by rw [mixL_at (by rw [cntL_length, List.length_replicate]) (by rw [cntL_length]; exact hlj), List.getElem?_replicate, if_pos hlj])
                    have hc1 := (HCB1.out wr hBa).2
                    have hc2 := HCJ1.out wr j hBa hlj
                    have hc3 := (HCB2.out wr hBa).2
                    have hc4 := HCJ2.out wr j hBa hlj
                    have hput := row_put (j := j) (v := ((c1.2.count j : Nat) : Int) + ((c2.2.count j : Nat) : Int)) hOz (by rw [mixL_length (by rw [cntL_length, List.length_replicate]), cntL_length]; exact hlj) (mixL_set (by rw [cntL_length, List.length_replicate]) (cntL_add c1.2 c2.2 hlj))
                    have hba := Below.setCell hBz (show go ≤ (⟨go, j, none⟩ : Addr).block from Nat.le_refl _) (.int .i64 (((c1.2.count j : Nat) : Int) + ((c2.2.count j : Nat) : Int)))
                    have ha1 : ((c1.2.count j : Nat) : Int) ≤ 16384 := by have := List.count_le_length (a := j) (l := c1.2); omega
                    have ha2 : ((c2.2.count j : Nat) : Int) ≤ 16384 := by have := List.count_le_length (a := j) (l := c2.2); omega
                    have ha10 : 0 ≤ ((c1.2.count j : Nat) : Int) := by omega
                    have ha20 : 0 ≤ ((c2.2.count j : Nat) : Int) := by omega
                    generalize ((c1.2.count j : Nat) : Int) = a1 at *
                    generalize ((c2.2.count j : Nat) : Int) = a2 at *
                    have C1 : Hid (wr.drew.cell? ⟨go, j, none⟩ = some (.int .i64 0)) := hc0.1
                    have F1 : Hid (wr.drew.frozen? ⟨go, j, none⟩ = false) := hc0.2
                    have C2 : Hid (wr.drew.cell? ⟨g, off + I * 2 + 1, none⟩ = some (.slice (some ⟨b1, p1, none⟩) k dd1)) := hc1
                    have C3 : Hid (wr.drew.cell? ⟨b1, p1 + j, none⟩ = some (.int .i64 a1)) := hc2
                    have C4 : Hid (wr.drew.cell? ⟨g, off + I2 * 2 + 1, none⟩ = some (.slice (some ⟨b2, p2, none⟩) k dd2)) := hc3
                    have C5 : Hid (wr.drew.cell? ⟨b2, p2 + j, none⟩ = some (.int .i64 a2)) := hc4
                    have HFX : Hid (∀ w1 : World, w1 = wr.drew → OwnS (w1.setCell ⟨go, j, none⟩ (.int .i64 (a1 + a2))) go 3 1 (.slice (some ⟨go, 0, none⟩) k k) k ((mixL (cntL k (c1.2 ++ c2.2)) (List.replicate k 0) (j + 1)).map (Value.int .i64)) ∧ Below go wv (w1.setCell ⟨go, j, none⟩ (.int .i64 (a1 + a2)))) := by
                      intro w1 hw1
                      subst hw1
                      exact ⟨hput.drew, hba.drew⟩
                    clear hc0 hc1 hc2 hc3 hc4 hput hba hOz hBz hBa
                    go_upto_region 33 with (fail)
                    refine wp_region_ph (by kernel_rfl) [21] [.span 0 0, .span 0 0, .span 0 0, .span 0 0, .span 0 0, .span 0 0, .span 0 0, .span 0 0, .span 0 0, .span 0 0, .span 0 0, .span 0 0, .span 0 0, .span 0 0, .span 0 0, .span 0 0, .span 0 0, .span 0 0, .span 0 0, .span 0 0, .span 0 0, .phase 0] [fun z9 => z9 = .slice (some ⟨go, 0, none⟩) k k, fun z9 => z9 = .int .i64 (j), fun z9 => z9 = .slice (some ⟨g, off, none⟩) N c11, fun z9 => z9 = .int .i64 (I), fun z9 => z9 = .pointer (some ⟨g, off + (I) * 2, none⟩), fun z9 => z9 = .pointer (some ⟨g, off + (I) * 2 + 1, none⟩), fun z9 => z9 = .slice (some ⟨b1, p1, none⟩) k dd1, fun z9 => z9 = .int .i64 (j), fun z9 => z9 = .pointer (some ⟨b1, p1 + j, none⟩), fun z9 => z9 = .int .i64 a1, fun z9 => z9 = .slice (some ⟨g, off, none⟩) N c11, fun z9 => z9 = .int .i64 (I), fun z9 => z9 = .int .i64 (I2), fun z9 => z9 = .pointer (some ⟨g, off + (I2) * 2, none⟩), fun z9 => z9 = .pointer (some ⟨g, off + (I2) * 2 + 1, none⟩), fun z9 => z9 = .slice (some ⟨b2, p2, none⟩) k dd2, fun z9 => z9 = .int .i64 (j), fun z9 => z9 = .pointer (some ⟨b2, p2 + j, none⟩), fun z9 => z9 = .int .i64 a2, fun z9 => z9 = .int .i64 (a1 + a2), fun z9 => z9 = .pointer (some ⟨go, j, none⟩), fun _ => True] (IOne wr.drew (fun w => OwnS w go 3 1 (.slice (some ⟨go, 0, none⟩) k k) k ((mixL (cntL k (c1.2 ++ c2.2)) (List.replicate k 0) (j + 1)).map (Value.int .i64)) ∧ Below go wv w)) (by kernel_rfl) (by kernel_rfl) (by kernel_rfl) (by kernel_rfl) (by kernel_rfl) (by kernel_rfl) rfl rfl (rfl) ?steps ?done
                    case steps =>
                      refine ⟨?_, ?_, ?_, ?_, ?_, ?_, ?_, ?_, ?_, ?_, ?_, ?_, ?_, ?_, ?_, ?_, ?_, ?_, ?_, ?_, ?_, ?_, trivial⟩
                      · intro us au w1 k0 hlo hhi ha hd hst hI
                        obtain rfl : k0 = 0 := by omega
                        have q15 := slot_far (t := 15) (v := .slice (some ⟨go, 0, none⟩) k k) ha (by kernel_rfl) (by kernel_rfl)
                        have p15 := slot_norm q15
                        clear ha hd hst
                        exact StepI.pure (v := .slice (some ⟨go, 0, none⟩) k k) rfl rfl (by go_simp) ⟨rfl, hI⟩
                      · intro us au w1 k1 hlo hhi ha hd hst hI
                        obtain rfl : k1 = 0 := by omega
                        have q16 := slot_far (t := 16) (v := .int .i64 (j)) ha (by kernel_rfl) (by kernel_rfl)
                        have p16 := slot_norm q16
                        clear ha hd hst
                        exact StepI.pure (v := .int .i64 (j)) rfl rfl (by go_simp) ⟨rfl, hI⟩
                      · intro us au w1 k2 hlo hhi ha hd hst hI
                        obtain rfl : k2 = 0 := by omega
                        have q13 := slot_far (t := 13) (v := .slice (some ⟨g, off, none⟩) N c11) ha (by kernel_rfl) (by kernel_rfl)
                        have p13 := slot_norm q13
                        clear ha hd hst
                        exact StepI.pure (v := .slice (some ⟨g, off, none⟩) N c11) rfl rfl (by go_simp) ⟨rfl, hI⟩
                      · intro us au w1 k3 hlo hhi ha hd hst hI
                        obtain rfl : k3 = 0 := by omega
                        have q14 := slot_far (t := 14) (v := .int .i64 (I)) ha (by kernel_rfl) (by kernel_rfl)
                        have p14 := slot_norm q14
                        clear ha hd hst
                        exact StepI.pure (v := .int .i64 (I)) rfl rfl (by go_simp) ⟨rfl, hI⟩
                      · intro us au w1 k4 hlo hhi ha hd hst hI
                        obtain rfl : k4 = 0 := by omega
                        have e2 := hd 2 _ (by kernel_rfl) rfl
                        have e3 := hd 3 _ (by kernel_rfl) rfl
                        have q99 := slot_at (t := 99) 2 ha (by kernel_rfl) (by kernel_rfl) (by kernel_rfl) e2
                        have p99 := slot_norm q99
                        have q100 := slot_at (t := 100) 3 ha (by kernel_rfl) (by kernel_rfl) (by kernel_rfl) e3
                        have p100 := slot_norm q100
                        clear ha hd hst
                        exact StepI.pure (v := .pointer (some ⟨g, off + (I) * 2, none⟩)) rfl rfl (by go_simp) ⟨rfl, hI⟩
                      · intro us au w1 k5 hlo hhi ha hd hst hI
                        obtain rfl : k5 = 0 := by omega
                        have e4 := hd 4 _ (by kernel_rfl) rfl
                        have q101 := slot_at (t := 101) 4 ha (by kernel_rfl) (by kernel_rfl) (by kernel_rfl) e4
                        have p101 := slot_norm q101
                        clear ha hd hst
                        exact StepI.pure (v := .pointer (some ⟨g, off + (I) * 2 + 1, none⟩)) rfl rfl (by go_simp) ⟨rfl, hI⟩
                      · intro us au w1 k6 hlo hhi ha hd hst hI
                        obtain rfl : k6 = 0 := by omega
                        have e5 := hd 5 _ (by kernel_rfl) rfl
                        have q102 := slot_at (t := 102) 5 ha (by kernel_rfl) (by kernel_rfl) (by kernel_rfl) e5
                        have p102 := slot_norm q102
                        clear ha hd hst
                        have c1 := (congrArg (fun w => World.cell? w ⟨g, off + I * 2 + 1, none⟩) (show w1 = _ from hI)).trans C2.out
                        exact StepI.pure (v := .slice (some ⟨b1, p1, none⟩) k dd1) rfl rfl (by go_simp) ⟨rfl, hI⟩
                      · intro us au w1 k7 hlo hhi ha hd hst hI
                        obtain rfl : k7 = 0 := by omega
                        have q16 := slot_far (t := 16) (v := .int .i64 (j)) ha (by kernel_rfl) (by kernel_rfl)
                        have p16 := slot_norm q16
                        clear ha hd hst
                        exact StepI.pure (v := .int .i64 (j)) rfl rfl (by go_simp) ⟨rfl, hI⟩
                      · intro us au w1 k8 hlo hhi ha hd hst hI
                        obtain rfl : k8 = 0 := by omega
                        have e6 := hd 6 _ (by kernel_rfl) rfl
                        have e7 := hd 7 _ (by kernel_rfl) rfl
                        have q103 := slot_at (t := 103) 6 ha (by kernel_rfl) (by kernel_rfl) (by kernel_rfl) e6
                        have p103 := slot_norm q103
                        have q104 := slot_at (t := 104) 7 ha (by kernel_rfl) (by kernel_rfl) (by kernel_rfl) e7
                        have p104 := slot_norm q104
                        clear ha hd hst
                        exact StepI.pure (v := .pointer (some ⟨b1, p1 + j, none⟩)) rfl rfl (by go_simp) ⟨rfl, hI⟩
                      · intro us au w1 k9 hlo hhi ha hd hst hI
                        obtain rfl : k9 = 0 := by omega
                        have e8 := hd 8 _ (by kernel_rfl) rfl
                        have q105 := slot_at (t := 105) 8 ha (by kernel_rfl) (by kernel_rfl) (by kernel_rfl) e8
                        have p105 := slot_norm q105
                        clear ha hd hst
                        have c1 := (congrArg (fun w => World.cell? w ⟨b1, p1 + j, none⟩) (show w1 = _ from hI)).trans C3.out
                        exact StepI.pure (v := .int .i64 a1) rfl rfl (by go_simp) ⟨rfl, hI⟩
                      · intro us au w1 k10 hlo hhi ha hd hst hI
                        obtain rfl : k10 = 0 := by omega
                        have q13 := slot_far (t := 13) (v := .slice (some ⟨g, off, none⟩) N c11) ha (by kernel_rfl) (by kernel_rfl)
                        have p13 := slot_norm q13
                        clear ha hd hst
                        exact StepI.pure (v := .slice (some ⟨g, off, none⟩) N c11) rfl rfl (by go_simp) ⟨rfl, hI⟩
                      · intro us au w1 k11 hlo hhi ha hd hst hI
                        obtain rfl : k11 = 0 := by omega
                        have q14 := slot_far (t := 14) (v := .int .i64 (I)) ha (by kernel_rfl) (by kernel_rfl)
                        have p14 := slot_norm q14
                        clear ha hd hst
                        exact StepI.pure (v := .int .i64 (I)) rfl rfl (by go_simp) ⟨rfl, hI⟩
                      · intro us au w1 k12 hlo hhi ha hd hst hI
                        obtain rfl : k12 = 0 := by omega
                        have e11 := hd 11 _ (by kernel_rfl) rfl
                        have q108 := slot_at (t := 108) 11 ha (by kernel_rfl) (by kernel_rfl) (by kernel_rfl) e11
                        have p108 := slot_norm q108
                        clear ha hd hst
                        exact StepI.pure (v := .int .i64 (I2)) rfl rfl (by go_simp; exact IntWalk.i64_in _ (by omega)) ⟨rfl, hI⟩
                      · intro us au w1 k13 hlo hhi ha hd hst hI
                        obtain rfl : k13 = 0 := by omega
                        have e10 := hd 10 _ (by kernel_rfl) rfl
                        have e12 := hd 12 _ (by kernel_rfl) rfl
                        have q107 := slot_at (t := 107) 10 ha (by kernel_rfl) (by kernel_rfl) (by kernel_rfl) e10
                        have p107 := slot_norm q107
                        have q109 := slot_at (t := 109) 12 ha (by kernel_rfl) (by kernel_rfl) (by kernel_rfl) e12
                        have p109 := slot_norm q109
                        clear ha hd hst
                        exact StepI.pure (v := .pointer (some ⟨g, off + (I2) * 2, none⟩)) rfl rfl (by go_simp) ⟨rfl, hI⟩
                      · intro us au w1 k14 hlo hhi ha hd hst hI
                        obtain rfl : k14 = 0 := by omega
                        have e13 := hd 13 _ (by kernel_rfl) rfl
                        have q110 := slot_at (t := 110) 13 ha (by kernel_rfl) (by kernel_rfl) (by kernel_rfl) e13
                        have p110 := slot_norm q110
                        clear ha hd hst
                        exact StepI.pure (v := .pointer (some ⟨g, off + (I2) * 2 + 1, none⟩)) rfl rfl (by go_simp) ⟨rfl, hI⟩
                      · intro us au w1 k15 hlo hhi ha hd hst hI
                        obtain rfl : k15 = 0 := by omega
                        have e14 := hd 14 _ (by kernel_rfl) rfl
                        have q111 := slot_at (t := 111) 14 ha (by kernel_rfl) (by kernel_rfl) (by kernel_rfl) e14
                        have p111 := slot_norm q111
                        clear ha hd hst
                        have c1 := (congrArg (fun w => World.cell? w ⟨g, off + I2 * 2 + 1, none⟩) (show w1 = _ from hI)).trans C4.out
                        exact StepI.pure (v := .slice (some ⟨b2, p2, none⟩) k dd2) rfl rfl (by go_simp) ⟨rfl, hI⟩
                      · intro us au w1 k16 hlo hhi ha hd hst hI
                        obtain rfl : k16 = 0 := by omega
                        have q16 := slot_far (t := 16) (v := .int .i64 (j)) ha (by kernel_rfl) (by kernel_rfl)
                        have p16 := slot_norm q16
                        clear ha hd hst
                        exact StepI.pure (v := .int .i64 (j)) rfl rfl (by go_simp) ⟨rfl, hI⟩
                      · intro us au w1 k17 hlo hhi ha hd hst hI
                        obtain rfl : k17 = 0 := by omega
                        have e15 := hd 15 _ (by kernel_rfl) rfl
                        have e16 := hd 16 _ (by kernel_rfl) rfl
                        have q112 := slot_at (t := 112) 15 ha (by kernel_rfl) (by kernel_rfl) (by kernel_rfl) e15
                        have p112 := slot_norm q112
                        have q113 := slot_at (t := 113) 16 ha (by kernel_rfl) (by kernel_rfl) (by kernel_rfl) e16
                        have p113 := slot_norm q113
                        clear ha hd hst
                        exact StepI.pure (v := .pointer (some ⟨b2, p2 + j, none⟩)) rfl rfl (by go_simp) ⟨rfl, hI⟩
                      · intro us au w1 k18 hlo hhi ha hd hst hI
                        obtain rfl : k18 = 0 := by omega
                        have e17 := hd 17 _ (by kernel_rfl) rfl
                        have q114 := slot_at (t := 114) 17 ha (by kernel_rfl) (by kernel_rfl) (by kernel_rfl) e17
                        have p114 := slot_norm q114
                        clear ha hd hst
                        have c1 := (congrArg (fun w => World.cell? w ⟨b2, p2 + j, none⟩) (show w1 = _ from hI)).trans C5.out
                        exact StepI.pure (v := .int .i64 a2) rfl rfl (by go_simp) ⟨rfl, hI⟩
                      · intro us au w1 k19 hlo hhi ha hd hst hI
                        obtain rfl : k19 = 0 := by omega
                        have e9 := hd 9 _ (by kernel_rfl) rfl
                        have e18 := hd 18 _ (by kernel_rfl) rfl
                        have q106 := slot_at (t := 106) 9 ha (by kernel_rfl) (by kernel_rfl) (by kernel_rfl) e9
                        have p106 := slot_norm q106
                        have q115 := slot_at (t := 115) 18 ha (by kernel_rfl) (by kernel_rfl) (by kernel_rfl) e18
                        have p115 := slot_norm q115
                        clear ha hd hst
                        exact StepI.pure (v := .int .i64 (a1 + a2)) rfl rfl (by go_simp; exact IntWalk.i64_in _ (by omega)) ⟨rfl, hI⟩
                      · intro us au w1 k20 hlo hhi ha hd hst hI
                        obtain rfl : k20 = 0 := by omega
                        have e0 := hd 0 _ (by kernel_rfl) rfl
                        have e1 := hd 1 _ (by kernel_rfl) rfl
                        have q97 := slot_at (t := 97) 0 ha (by kernel_rfl) (by kernel_rfl) (by kernel_rfl) e0
                        have p97 := slot_norm q97
                        have q98 := slot_at (t := 98) 1 ha (by kernel_rfl) (by kernel_rfl) (by kernel_rfl) e1
                        have p98 := slot_norm q98
                        clear ha hd hst
                        exact StepI.pure (v := .pointer (some ⟨go, j, none⟩)) rfl rfl (by go_simp) ⟨rfl, hI⟩
                      · intro us au w1 ha hd hst hI
                        have e20 := hd 20 _ (by kernel_rfl) rfl
                        have e19 := hd 19 _ (by kernel_rfl) rfl
                        have q117 := slot_at (t := 117) 20 ha (by kernel_rfl) (by kernel_rfl) (by kernel_rfl) e20
                        have p117 := slot_norm q117
                        have q116 := slot_at (t := 116) 19 ha (by kernel_rfl) (by kernel_rfl) (by kernel_rfl) e19
                        have p116 := slot_norm q116
                        clear ha hd hst
                        have t0 := (congrArg (fun w => World.cell? w ⟨go, j, none⟩) (show w1 = _ from hI)).trans C1.out
                        have f0 : w1.frozen? ⟨go, j, none⟩ = false := (congrArg (fun w => World.frozen? w ⟨go, j, none⟩) (show w1 = _ from hI)).trans F1.out
                        exact StepI.stored (w' := w1.setCell ⟨go, j, none⟩ (.int .i64 (a1 + a2))) rfl rfl (by go_simp) ⟨trivial, HFX.out w1 hI⟩
                    case done =>
                      intro us w1 hI hd
                      have HF := Lib.hid (show OwnS w1 go 3 1 (.slice (some ⟨go, 0, none⟩) k k) k ((mixL (cntL k (c1.2 ++ c2.2)) (List.replicate k 0) (j + 1)).map (Value.int .i64)) ∧ Below go wv w1 from hI)
                      clear hI hd
                      simp only [putAll]
                      go_simp
                      go_wp2
                      go_roundw
                      case rel => exact ⟨j + 1, by go_num, by omega, HF.out.1, HF.out.2⟩
                      case measure => simp [intOf]; omega
                  · obtain rfl : j = k := by omega
                    have hO9 : OwnS wr go 3 1 (.slice (some ⟨go, 0, none⟩) j j) j ((cntL j (c1.2 ++ c2.2)).map (Value.int .i64)) := by
                      have := mixL_all (A := cntL j (c1.2 ++ c2.2)) (B := List.replicate j 0) (by rw [cntL_length, List.length_replicate])
                      rw [cntL_length] at this
                      rw [this] at hOz; exact hOz
                    have hbv : Below wv.heap.size wv wr := by rw [HGO.out]; exact hBz
                    have hOL := HO.out.chg (S := fun _ => False) (Chg.of_below hbv) (fun _ _ h => h)
                    have hZL := HZ.out.below hbv
                    have hc1 := (HCB1.out wr hBa).1
                    have hc3 := (HCB2.out wr hBa).1
                    have C1 : Hid (wr.drew.cell? ⟨g, off + I * 2, none⟩ = some (.int .i64 e1.w)) := hc1
                    have C2 : Hid (wr.drew.cell? ⟨g, off + I2 * 2, none⟩ = some (.int .i64 e2.w)) := hc3
                    have HO9 := Lib.hid hO9.drew
                    have HOL := Lib.hid hOL.drew
                    have HZL := Lib.hid (hZL.below (Below.refl _ _).drew)
                    have HBA := Lib.hid hBa.drew
                    have hwaz : wa ≤ wr.drew.heap.size := by have := hBa.size; rw [HWA.out] at this; exact this
                    clear hO9 hbv hOL hZL hc1 hc3 hBa hOz hBz HO HZ HB
                    have hO3 := HOL.out.alloc (.cells #[.int .i64 (e1.w + e2.w), .slice (some ⟨go, 0, none⟩) j j] 84)
                    have hZ3 := HZL.out.below ((Below.refl wr.drew.heap.size wr.drew).alloc (Nat.le_refl _) (.cells #[.int .i64 (e1.w + e2.w), .slice (some ⟨go, 0, none⟩) j j] 84))
                    have hB3 := HBA.out.alloc hwaz (.cells #[.int .i64 (e1.w + e2.w), .slice (some ⟨go, 0, none⟩) j j] 84)
                    have hI3 := HO9.out.alloc (.cells #[.int .i64 (e1.w + e2.w), .slice (some ⟨go, 0, none⟩) j j] 84)
                    have hSR3 := Src.coinR (P := Try.prog) (w := wr.drew) ⟨e1.w + e2.w, some ⟨go, 0, none⟩, j, j⟩
                    have hz3 : wa ≤ (wr.drew.alloc (.cells #[.int .i64 (e1.w + e2.w), .slice (some ⟨go, 0, none⟩) j j] 84)).heap.size := by rw [← HWA.out]; exact hB3.size
                    have HO3 := Lib.hid hO3
                    have HZ3 := Lib.hid hZ3
                    have HB3 := Lib.hid hB3
                    have HI3 := Lib.hid hI3
                    have HSR3 := Lib.hid hSR3
                    clear hO3 hZ3 hB3 hI3 hSR3 HO9 HOL HZL HBA
                    go_upto_region 34 with (fail)
                    refine wp_region_ph (by kernel_rfl) [15, 16, 17] [.span 0 1, .span 0 0, .span 0 0, .span 0 0, .span 0 0, .span 0 0, .span 0 0, .span 0 0, .span 0 0, .span 0 0, .span 0 0, .span 0 0, .span 0 0, .span 0 0, .span 0 0, .phase 0, .phase 1, .phase 2] [fun z9 => z9 = .slice Az k2 cz, fun z9 => z9 = .slice (some ⟨g, off, none⟩) N c11, fun z9 => z9 = .int .i64 (I), fun z9 => z9 = .pointer (some ⟨g, off + (I) * 2, none⟩), fun z9 => z9 = .pointer (some ⟨g, off + (I) * 2, none⟩), fun z9 => z9 = .int .i64 e1.w, fun z9 => z9 = .slice (some ⟨g, off, none⟩) N c11, fun z9 => z9 = .int .i64 (I), fun z9 => z9 = .int .i64 (I2), fun z9 => z9 = .pointer (some ⟨g, off + (I2) * 2, none⟩), fun z9 => z9 = .pointer (some ⟨g, off + (I2) * 2, none⟩), fun z9 => z9 = .int .i64 e2.w, fun z9 => z9 = .int .i64 (e1.w + e2.w), fun z9 => z9 = .slice (some ⟨go, 0, none⟩) j j, fun z9 => z9 = .agg #[.int .i64 (e1.w + e2.w), .slice (some ⟨go, 0, none⟩) j j], fun z9 => z9 = .slice (some ⟨wr.drew.heap.size, 0, none⟩) 1 1, fun _ => True, fun _ => True] (IApp wr.drew ⟨e1.w + e2.w, some ⟨go, 0, none⟩, j, j⟩ (FRc j w11 wa k2 Z ((Huf.pk RR).take k2) (e1.w + e2.w, c1.2 ++ c2.2))) (by kernel_rfl) (by kernel_rfl) (by kernel_rfl) (by kernel_rfl) (by kernel_rfl) (by kernel_rfl) rfl rfl (rfl) ?steps ?done
                    case steps =>
                      refine ⟨?_, ?_, ?_, ?_, ?_, ?_, ?_, ?_, ?_, ?_, ?_, ?_, ?_, ?_, ?_, ?_, ?_, ?_, trivial⟩
                      · intro us au w1 k0 hlo hhi ha hd hst hI
                        have q11 := slot_start (t := 11) (v := .slice Az k2 cz) 17 ha (hst 17 (by decide) (by kernel_rfl)) (by kernel_rfl) (by kernel_rfl) (by kernel_rfl) (by kernel_rfl)
                        have p11 := slot_norm q11
                        clear ha hd hst
                        exact StepI.pure (v := .slice Az k2 cz) rfl rfl (by go_simp) ⟨rfl, hI⟩
                      · intro us au w1 k1 hlo hhi ha hd hst hI
                        obtain rfl : k1 = 0 := by omega
                        have q13 := slot_far (t := 13) (v := .slice (some ⟨g, off, none⟩) N c11) ha (by kernel_rfl) (by kernel_rfl)
                        have p13 := slot_norm q13
                        clear ha hd hst
                        exact StepI.pure (v := .slice (some ⟨g, off, none⟩) N c11) rfl rfl (by go_simp) ⟨rfl, hI⟩
                      · intro us au w1 k2 hlo hhi ha hd hst hI
                        obtain rfl : k2 = 0 := by omega
                        have q14 := slot_far (t := 14) (v := .int .i64 (I)) ha (by kernel_rfl) (by kernel_rfl)
                        have p14 := slot_norm q14
                        clear ha hd hst
                        exact StepI.pure (v := .int .i64 (I)) rfl rfl (by go_simp) ⟨rfl, hI⟩
                      · intro us au w1 k3 hlo hhi ha hd hst hI
                        obtain rfl : k3 = 0 := by omega
                        have e1 := hd 1 _ (by kernel_rfl) rfl
                        have e2 := hd 2 _ (by kernel_rfl) rfl
                        have q119 := slot_at (t := 119) 1 ha (by kernel_rfl) (by kernel_rfl) (by kernel_rfl) e1
                        have p119 := slot_norm q119
                        have q120 := slot_at (t := 120) 2 ha (by kernel_rfl) (by kernel_rfl) (by kernel_rfl) e2
                        have p120 := slot_norm q120
                        clear ha hd hst
                        exact StepI.pure (v := .pointer (some ⟨g, off + (I) * 2, none⟩)) rfl rfl (by go_simp) ⟨rfl, hI⟩
                      · intro us au w1 k4 hlo hhi ha hd hst hI
                        obtain rfl : k4 = 0 := by omega
                        have e3 := hd 3 _ (by kernel_rfl) rfl
                        have q121 := slot_at (t := 121) 3 ha (by kernel_rfl) (by kernel_rfl) (by kernel_rfl) e3
                        have p121 := slot_norm q121
                        clear ha hd hst
                        exact StepI.pure (v := .pointer (some ⟨g, off + (I) * 2, none⟩)) rfl rfl (by go_simp) ⟨rfl, hI⟩
                      · intro us au w1 k5 hlo hhi ha hd hst hI
                        obtain rfl : k5 = 0 := by omega
                        have e4 := hd 4 _ (by kernel_rfl) rfl
                        have q122 := slot_at (t := 122) 4 ha (by kernel_rfl) (by kernel_rfl) (by kernel_rfl) e4
                        have p122 := slot_norm q122
                        clear ha hd hst
                        have c1 := (congrArg (fun w => World.cell? w ⟨g, off + I * 2, none⟩) (show w1 = _ from hI)).trans C1.out
                        exact StepI.pure (v := .int .i64 e1.w) rfl rfl (by go_simp) ⟨rfl, hI⟩
                      · intro us au w1 k6 hlo hhi ha hd hst hI
                        obtain rfl : k6 = 0 := by omega
                        have q13 := slot_far (t := 13) (v := .slice (some ⟨g, off, none⟩) N c11) ha (by kernel_rfl) (by kernel_rfl)
                        have p13 := slot_norm q13
                        clear ha hd hst
                        exact StepI.pure (v := .slice (some ⟨g, off, none⟩) N c11) rfl rfl (by go_simp) ⟨rfl, hI⟩
                      · intro us au w1 k7 hlo hhi ha hd hst hI
                        obtain rfl : k7 = 0 := by omega
                        have q14 := slot_far (t := 14) (v := .int .i64 (I)) ha (by kernel_rfl) (by kernel_rfl)
                        have p14 := slot_norm q14
                        clear ha hd hst
                        exact StepI.pure (v := .int .i64 (I)) rfl rfl (by go_simp) ⟨rfl, hI⟩
                      · intro us au w1 k8 hlo hhi ha hd hst hI
                        obtain rfl : k8 = 0 := by omega
                        have e7 := hd 7 _ (by kernel_rfl) rfl
                        have q125 := slot_at (t := 125) 7 ha (by kernel_rfl) (by kernel_rfl) (by kernel_rfl) e7
                        have p125 := slot_norm q125
                        clear ha hd hst
                        exact StepI.pure (v := .int .i64 (I2)) rfl rfl (by go_simp; exact IntWalk.i64_in _ (by omega)) ⟨rfl, hI⟩
                      · intro us au w1 k9 hlo hhi ha hd hst hI
                        obtain rfl : k9 = 0 := by omega
                        have e6 := hd 6 _ (by kernel_rfl) rfl
                        have e8 := hd 8 _ (by kernel_rfl) rfl
                        have q124 := slot_at (t := 124) 6 ha (by kernel_rfl) (by kernel_rfl) (by kernel_rfl) e6
                        have p124 := slot_norm q124
                        have q126 := slot_at (t := 126) 8 ha (by kernel_rfl) (by kernel_rfl) (by kernel_rfl) e8
                        have p126 := slot_norm q126
                        clear ha hd hst
                        exact StepI.pure (v := .pointer (some ⟨g, off + (I2) * 2, none⟩)) rfl rfl (by go_simp) ⟨rfl, hI⟩
                      · intro us au w1 k10 hlo hhi ha hd hst hI
                        obtain rfl : k10 = 0 := by omega
                        have e9 := hd 9 _ (by kernel_rfl) rfl
                        have q127 := slot_at (t := 127) 9 ha (by kernel_rfl) (by kernel_rfl) (by kernel_rfl) e9
                        have p127 := slot_norm q127
                        clear ha hd hst
                        exact StepI.pure (v := .pointer (some ⟨g, off + (I2) * 2, none⟩)) rfl rfl (by go_simp) ⟨rfl, hI⟩
                      · intro us au w1 k11 hlo hhi ha hd hst hI
                        obtain rfl : k11 = 0 := by omega
                        have e10 := hd 10 _ (by kernel_rfl) rfl
                        have q128 := slot_at (t := 128) 10 ha (by kernel_rfl) (by kernel_rfl) (by kernel_rfl) e10
                        have p128 := slot_norm q128
                        clear ha hd hst
                        have c1 := (congrArg (fun w => World.cell? w ⟨g, off + I2 * 2, none⟩) (show w1 = _ from hI)).trans C2.out
                        exact StepI.pure (v := .int .i64 e2.w) rfl rfl (by go_simp) ⟨rfl, hI⟩
                      · intro us au w1 k12 hlo hhi ha hd hst hI
                        obtain rfl : k12 = 0 := by omega
                        have e5 := hd 5 _ (by kernel_rfl) rfl
                        have e11 := hd 11 _ (by kernel_rfl) rfl
                        have q123 := slot_at (t := 123) 5 ha (by kernel_rfl) (by kernel_rfl) (by kernel_rfl) e5
                        have p123 := slot_norm q123
                        have q129 := slot_at (t := 129) 11 ha (by kernel_rfl) (by kernel_rfl) (by kernel_rfl) e11
                        have p129 := slot_norm q129
                        clear ha hd hst
                        exact StepI.pure (v := .int .i64 (e1.w + e2.w)) rfl rfl (by go_simp; exact IntWalk.i64_in _ (by omega)) ⟨rfl, hI⟩
                      · intro us au w1 k13 hlo hhi ha hd hst hI
                        obtain rfl : k13 = 0 := by omega
                        have q15 := slot_far (t := 15) (v := .slice (some ⟨go, 0, none⟩) j j) ha (by kernel_rfl) (by kernel_rfl)
                        have p15 := slot_norm q15
                        clear ha hd hst
                        exact StepI.pure (v := .slice (some ⟨go, 0, none⟩) j j) rfl rfl (by go_simp) ⟨rfl, hI⟩
                      · intro us au w1 k14 hlo hhi ha hd hst hI
                        obtain rfl : k14 = 0 := by omega
                        have e12 := hd 12 _ (by kernel_rfl) rfl
                        have e13 := hd 13 _ (by kernel_rfl) rfl
                        have q130 := slot_at (t := 130) 12 ha (by kernel_rfl) (by kernel_rfl) (by kernel_rfl) e12
                        have p130 := slot_norm q130
                        have q131 := slot_at (t := 131) 13 ha (by kernel_rfl) (by kernel_rfl) (by kernel_rfl) e13
                        have p131 := slot_norm q131
                        clear ha hd hst
                        exact StepI.pure (v := .agg #[.int .i64 (e1.w + e2.w), .slice (some ⟨go, 0, none⟩) j j]) rfl rfl (by go_simp) ⟨rfl, hI⟩
                      · intro us au w1 ha hd hst hI
                        have e14 := hd 14 _ (by kernel_rfl) rfl
                        have q132 := slot_at (t := 132) 14 ha (by kernel_rfl) (by kernel_rfl) (by kernel_rfl) e14
                        have p132 := slot_norm q132
                        clear ha hd hst
                        have hw1 : w1 = wr.drew := hI
                        subst hw1
                        exact StepI.runs (v := .slice (some ⟨wr.drew.heap.size, 0, none⟩) 1 1) (w' := wr.drew.alloc (.cells #[.int .i64 (e1.w + e2.w), .slice (some ⟨go, 0, none⟩) j j] 84)) rfl rfl (by go_simp) ⟨rfl, rfl⟩
                      · intro us au w1 ha hd hst hI
                        have e0 := hd 0 _ (by kernel_rfl) rfl
                        have e15 := hd 15 _ (by kernel_rfl) rfl
                        have q118 := slot_at (t := 118) 0 ha (by kernel_rfl) (by kernel_rfl) (by kernel_rfl) e0
                        have p118 := slot_norm q118
                        have q133 := slot_at (t := 133) 15 ha (by kernel_rfl) (by kernel_rfl) (by kernel_rfl) e15
                        have p133 := slot_norm q133
                        clear ha hd hst
                        have hw1 : w1 = wr.drew.alloc (.cells #[.int .i64 (e1.w + e2.w), .slice (some ⟨go, 0, none⟩) j j] 84) := hI
                        subst hw1
                        refine StepI.wp rfl rfl (fun K hK => ?_)
                        refine wp_append_S (.tmp 118) (.tmp 133) 82 82 rfl i0 _ 32 (.slice 84) Try.underlying82 Try.underlying82 (fun _ h => by cases h) hi hz0 hz1 hz2 rfl (v := .slice Az k2 cz) (x := .slice (some ⟨wr.drew.heap.size, 0, none⟩) 1 1) q118 q133 HO3.out HSR3.out hmx1 hmx2 hz3 (fun A9 c9 w9 ho9 hg9 hw9 => hK _ _ ⟨trivial, FRc.mk HO3.out HI3.out rfl HZ3.out hg9 ho9 HB3.out hbz hz3⟩)
                      · intro us au w1 ha hd hst hI
                        obtain ⟨_⟩ := hd 16 _ (by kernel_rfl) rfl
                        have q134 := slot_at (t := 134) 16 ha (by kernel_rfl) (by kernel_rfl) (by kernel_rfl) (Eq.refl (us 16))
                        have p134 := slot_norm q134
                        clear ha hd hst
                        exact StepI.pure (v := us 16) rfl rfl (by go_simp) ⟨trivial, rfl, hI⟩
                    case done =>
                      intro us w1 hI hd
                      obtain ⟨hx, e', hO9, hC9, hP9, hB9⟩ := hI
                      have HX := Lib.hid (show OwnS w1 wa 84 2 (us 17) (k2 + 1) ((Z ++ [e']).flatMap encE) from by rw [show us 17 = us 16 from hx]; exact hO9)
                      clear hd hx
                      simp only [putAll]
                      go_simp
                      go_wp2
                      go_roundw
                      case rel =>
                        refine ⟨k2 + 1, I + 2, Z ++ [e'], by go_num, by have := HI2.out; omega, by omega, HX.out, ?_, hB9⟩
                        rw [List.take_add_one, HPK.out]
                        exact hP9.append ⟨by rw [← HSW.out]; exact hC9, trivial⟩
                      case measure => simp [intOf]; omega
              · have hkl : (Huf.pk RR).length = k2 := by rw [Huf.pk_length]; have := HCN.out; omega
                have htk : (Huf.pk RR).take k2 = Huf.pk RR := List.take_of_length_le (by omega)
                rw [htk, ← HLV.out] at hZ
                have hnl := HPL.out
                rw [hkl] at hnl
                have hst2 := HST1.out.below (w' := wr) (by rw [HWA.out]; exact hB)
                have hO2 := hO.base_ hb11'
                have hZ2 := hZ.imp (fun e c h => h.base hb11')
                have HST2 := Lib.hid hst2
                have HO2 := Lib.hid hO2
                have HZ2 := Lib.hid hZ2
                obtain ⟨Az, cz, rfl⟩ := hO.shape
                have hq2 : q + 1 + 1 ≤ most := by have := HM.out; omega
                have f0 : ¬ ((I : Int) + 1 < (N : Int)) := by omega
                clear hst2 hO2 hZ2 hO hZ hB htk hkl hI2
                go_wp2
                go_roundw
                case rel => exact ⟨q + 1, k2, Z, by go_num, hq2, hnl, HST2.out, HO2.out, HZ2.out⟩
                case measure => simp [intOf]; omega
end Go.Proofs.Ytdmggpngmlhboaa
