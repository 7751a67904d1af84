/- Inflate: a dynamic block, by the program. -/
import Derived.Test.YtoeipgbnjcgbjaaInfI
import Derived.Test.YtoeipgbnjcgbjaaInfQ
namespace Go.Proofs.Ytoeipgbnjcgbjaa
open Go.RowKit
set_option linter.unusedVariables false

/-- A dynamic block in plain words: its codes told, then read. -/
def dynR (F : Nat) (bs : List Int) (most p : Nat) (out : List Int) : Int × Nat × List Int :=
  if (dynM bs p).1 ≠ 0 then ((dynM bs p).1, p, out) else codedM bs most (dynM bs p).2.2.1 (dynM bs p).2.2.2 F (dynM bs p).2.1 out
section
variable {F : Nat} {bs : List Int} {most p : Nat} {out : List Int} {a b c : Int} {x : Int}
theorem dynR_no (h : (dynM bs p).1 = x) (hx : x ≠ 0) : dynR F bs most p out = (x, p, out) := by
  unfold dynR
  rw [h, if_pos hx]
theorem dynR_ok {q : Nat} {l d : List Int} (h : dynM bs p = (0, q, l, d)) : dynR F bs most p out = codedM bs most l d F q out := by
  unfold dynR
  rw [h, if_neg (by simp)]
theorem dyn_a (h1 : tk bs p 5 = none) : (dynM bs p).1 = 4 := by unfold dynM; rw [h1]
theorem dyn_b (h1 : tk bs p 5 = some a) (c1 : 286 < a + 257) : (dynM bs p).1 = 3 := by unfold dynM; rw [h1]; simp only; rw [if_pos c1]
theorem dyn_c (h1 : tk bs p 5 = some a) (c1 : ¬ 286 < a + 257) (h2 : tk bs (p + 5) 5 = none) : (dynM bs p).1 = 4 := by unfold dynM; rw [h1]; simp only; rw [if_neg c1, h2]
theorem dyn_d (h1 : tk bs p 5 = some a) (c1 : ¬ 286 < a + 257) (h2 : tk bs (p + 5) 5 = some b) (c2 : 30 < b + 1) : (dynM bs p).1 = 3 := by unfold dynM; rw [h1]; simp only; rw [if_neg c1, h2]; simp only; rw [if_pos c2]
theorem dyn_e (h1 : tk bs p 5 = some a) (c1 : ¬ 286 < a + 257) (h2 : tk bs (p + 5) 5 = some b) (c2 : ¬ 30 < b + 1) (h3 : tk bs (p + 10) 4 = none) : (dynM bs p).1 = 4 := by unfold dynM; rw [h1]; simp only; rw [if_neg c1, h2]; simp only; rw [if_neg c2, h3]
theorem dyn_f (h1 : tk bs p 5 = some a) (c1 : ¬ 286 < a + 257) (h2 : tk bs (p + 5) 5 = some b) (c2 : ¬ 30 < b + 1) (h3 : tk bs (p + 10) 4 = some c) (c3 : 8 * bs.length < p + 14 + 3 * (c.toNat + 4)) : (dynM bs p).1 = 4 := by unfold dynM; rw [h1]; simp only; rw [if_neg c1, h2]; simp only; rw [if_neg c2, h3]; simp only; rw [if_pos c3]
theorem dyn_tail (h1 : tk bs p 5 = some a) (c1 : ¬ 286 < a + 257) (h2 : tk bs (p + 5) 5 = some b) (c2 : ¬ 30 < b + 1) (h3 : tk bs (p + 10) 4 = some c) (c3 : ¬ 8 * bs.length < p + 14 + 3 * (c.toNat + 4)) {O : List Int} {L : Int × Nat × List Int} (hO : ownL bs (p + 14) (c.toNat + 4) = O) (hL : lensM bs O (a.toNat + 257 + b.toNat + 1) (a.toNat + 257 + b.toNat + 2) (p + 14 + 3 * (c.toNat + 4)) [] = L) :
    dynM bs p = if complete O = false then (3, p, [], []) else if L.1 ≠ 0 then (L.1, p, [], []) else if L.2.2.getD 256 0 = 0 then (3, p, [], []) else if wholeB (L.2.2.take (a.toNat + 257)) false = false then (3, p, [], []) else if wholeB (L.2.2.drop (a.toNat + 257)) true = false then (3, p, [], []) else (0, L.2.1, L.2.2.take (a.toNat + 257), L.2.2.drop (a.toNat + 257)) := by
  unfold dynM; rw [h1]; simp only; rw [if_neg c1, h2]; simp only; rw [if_neg c2, h3]; simp only; rw [if_neg c3, hO, hL]
theorem wholeB_false (xs : List Int) : wholeB xs false = complete xs := by unfold wholeB; simp
theorem dyn_tailN {a b c m1 nn cc q : Nat} (h1 : tk bs p 5 = some (a : Int)) (h2 : tk bs (p + 5) 5 = some (b : Int)) (h3 : tk bs (p + 10) 4 = some (c : Int)) (hm : a + 257 = m1) (hn : m1 + b + 1 = nn) (hc : c + 4 = cc) (hq : p + 14 + 3 * cc = q) (c1 : m1 ≤ 286) (c2 : b < 30) (c3 : q ≤ 8 * bs.length) {O : List Int} {L : Int × Nat × List Int} (hO : ownL bs (p + 14) cc = O) (hL : lensM bs O nn (nn + 1) q [] = L) :
    dynM bs p = if complete O = false then (3, p, [], []) else if L.1 ≠ 0 then (L.1, p, [], []) else if L.2.2.getD 256 0 = 0 then (3, p, [], []) else if wholeB (L.2.2.take m1) false = false then (3, p, [], []) else if wholeB (L.2.2.drop m1) true = false then (3, p, [], []) else (0, L.2.1, L.2.2.take m1, L.2.2.drop m1) := by
  subst hq; subst hn; subst hm; subst hc
  exact dyn_tail (O := O) (L := L) h1 (by omega) h2 (by omega) h3 (by simp only [Int.toNat_natCast]; omega) (by simp only [Int.toNat_natCast]; exact hO) (by simp only [Int.toNat_natCast]; exact hL)
theorem ownL_len (bs : List Int) (p : Nat) : ∀ k, (ownL bs p k).length = 19 := by
  intro k
  induction k with
  | zero => simp [ownL]
  | succ k ih => rw [ownL, List.length_set, ih]
end
theorem orderL_at (k : Nat) (h : k < 19) : orderL.getD k 0 < 19 ∧ orderV.getD k undef = .int .i64 (orderL.getD k 0 : Nat) := by
  have e : ∀ k : Fin 19, orderL.getD k.val 0 < 19 := by decide
  refine ⟨e ⟨k, h⟩, ?_⟩
  have e2 : orderV = (orderL.map fun n => Value.int .i64 (n : Nat)).toArray := rfl
  have hl : k < orderL.length := h
  rw [e2, Array.getD_eq_getD_getElem?, List.getElem?_toArray, List.getElem?_map, List.getD_eq_getElem?_getD, List.getElem?_eq_getElem hl]
  rfl
theorem Chg.grown {G : Nat} {w w' : World} (h : Chg (fun k => k = G) w w') : w.grownBy w' (some G) := ⟨h.os, h.tape, h.output, h.size, fun k hk hn => h.block k hk (fun e => hn (by rw [e]))⟩
theorem RowI.chg {e : TypeId} {k : IntKind} {B G : Nat} {w w' : World} {g n c : Nat} {l : List Int} (h : RowI e k B w g n c l) (hc : Chg (fun k => k = G) w w') (hne : g ≠ G) : RowI e k B w' g n c l :=
  World.ownsRow.kept h hc.grown (.inr (by intro e; injection e with e; exact hne e))
theorem RowI.mono {e : TypeId} {k : IntKind} {B B' : Nat} {w : World} {g n c : Nat} {l : List Int} (h : RowI e k B w g n c l) (hb : B' ≤ B) : RowI e k B' w g n c l := by
  refine ⟨h.1, ?_⟩
  rcases h.2 with hn | ⟨g, cap, cur, hv, hg, rest⟩
  · exact .inl hn
  · exact .inr ⟨g, cap, cur, hv, Nat.le_trans hb hg, rest⟩
/-- The lengths' lengths' loop: between its rounds. -/
structure DynAt (L R G : Nat) (bs : List Int) (most : Nat) (vo : Value) (out : List Int) (w : World) (gF PO : Nat) (l : List Int) (p : Nat) (w' : World) : Prop where
  row : RowI 3 .i64 w.heap.size w' gF 19 19 l
  ord : Cel w' PO 150 19 (fun i => orderV.getD i undef)
  inf : InfAt L R G bs most w' p vo out
  chg : Chg (fun k => k = G) w w'
section
variable {L R G most p q gF PO : Nat} {bs out l : List Int} {w w' w1 : World} {vo : Value}
theorem DynAt.went (h : DynAt L R G bs most vo out w gF PO l p w') (hI : InfAt L R G bs most w1 q vo out) (hc : Chg (fun k => k = G) w' w1) (hG : G < w.heap.size) (hPO : w.heap.size ≤ PO) : DynAt L R G bs most vo out w gF PO l q w1 :=
  ⟨h.row.chg hc (by have := (RowI.base h.row).1; omega), h.ord.chg hc (by omega), hI, h.chg.trans hc (fun _ _ h => h)⟩
theorem DynAt.put (h : DynAt L R G bs most vo out w gF PO l p w') (h0 : InfAt L R G bs most w q vo out) (hne : gF ≠ PO) (j : Nat) (x : Int) : DynAt L R G bs most vo out w gF PO (l.set j x) p (w'.setCell ⟨gF, j, none⟩ (.int .i64 x)) := by
  have hb := (RowI.base h.row).1
  have hL : L ≤ w.heap.size := by have := h0.low; have := h0.cel.blk; omega
  have hc : Chg (fun k => k = gF) w' (w'.setCell ⟨gF, j, none⟩ (.int .i64 x)) := (Chg.refl (fun k => k = gF) w').setCell (a := ⟨gF, j, none⟩) (.inl rfl) _
  exact ⟨RowI.set h.row j x, h.ord.chg hc (fun e => hne e.symm), h.inf.far hc (fun k hk hs => by have := (h0.lt k hk).2; omega) (fun k hk hs => by omega), h.chg.trans hc (fun i hi hs => absurd hs (by omega))⟩
end
/-- A block read behind what has gone on in the bits and in new memory alone. -/
theorem BlkPost.behind {L R G most p : Nat} {bs out : List Int} {w w1 w' : World} {vo : Value} {r : Int × Nat × List Int} {e : Ending} (h : BlkPost L R G bs most vo r w1 e w') (hI : InfAt L R G bs most w p vo out) (hc : Chg (fun k => k = G) w w1) : BlkPost L R G bs most vo r w e w' := by
  obtain ⟨h1, h2, h3⟩ := h
  exact ⟨h1, (hI.belowL (chgG hc)).trans h2, fun h0 => PutA.trans (chgG hc) (FreshI.refl w vo) (h3 h0)⟩
set_option maxRecDepth 100000 in
set_option maxHeartbeats 8000000 in
theorem iDynamic_any (L R G most p F : Nat) (bs out : List Int) (w : World) (vo : Value) (h : InfAt L R G bs most w p vo out) (hF : most < F) :
    Calls Try.prog 91 #[.pointer (some ⟨R, 0, none⟩)] w (BlkPost L R G bs most vo (dynR F bs most p out) w) := by
  have HH := Lib.hid h
  have hGs := (h.lt G (.inr (.inl rfl))).2
  have HNO : Hid (∀ x, (dynM bs p).1 = x → x ≠ 0 → dynR F bs most p out = (x, p, out)) := Lib.hid fun x h1 h2 => dynR_no h1 h2
  have HOK : Hid (∀ q l d, dynM bs p = (0, q, l, d) → dynR F bs most p out = codedM bs most l d F q out) := Lib.hid fun q l d h1 => dynR_ok h1
  generalize dynR F bs most p out = RR at *
  cases h1 : tk bs p 5 with
  | none =>
    have HT := Lib.hid (iTake_no L R G most p 5 bs out w vo h (by decide) h1)
    have HM := Lib.hid (HNO.out 4 (dyn_a h1) (by decide))
    clear h h1
    go_enter Try.func91, Try.ntmps91
    go_wp2_with fail
    refine HT.out.mono ?_
    rintro e w1 ⟨rfl, m, rfl⟩
    clear HT
    go_wp2
    go_ret
    exact blk_no HM.out (by decide) (Below.drewN (Below.refl _ _) m)
  | some a =>
    have ha := tk_le h1
    obtain ⟨a, rfl⟩ := Int.eq_ofNat_of_zero_le ha.1
    have ha2 : a < 32 := by have := ha.2.1; omega
    have HT := Lib.hid (iTake_yes L R G most p 5 bs out w vo a h (by decide) h1)
    have H1 := Lib.hid h1
    obtain ⟨m1, hm1⟩ : ∃ m1, a + 257 = m1 := ⟨_, rfl⟩
    have e1 : IntKind.i64.wrap ((a : Int) + 257) = (m1 : Int) := by rw [IntWalk.i64_in _ (by omega)]; omega
    clear h h1 ha
    go_enter Try.func91, Try.ntmps91
    go_wp2_with fail
    refine HT.out.mono ?_
    rintro e w1 ⟨rfl, hI1, hC1⟩
    have HI1 := Lib.hid hI1
    have HC1 := Lib.hid hC1
    clear hI1 hC1 HT
    by_cases c1 : 286 < m1
    · have d1 : decide ((286 : Int) < (m1 : Int)) = true := decide_eq_true (by omega)
      have HM := Lib.hid (HNO.out 3 (dyn_b H1.out (by omega)) (by decide))
      clear hm1
      go_wp2
      go_ret
      exact blk_no HM.out (by decide) (HH.out.belowL (chgG HC1.out))
    · have d1 : decide ((286 : Int) < (m1 : Int)) = false := decide_eq_false (by omega)
      have HA1 : Hid (¬ (286 : Int) < (a : Int) + 257) := Lib.hid (by omega)
      cases h2 : tk bs (p + 5) 5 with
      | none =>
        have HT := Lib.hid (iTake_no L R G most (p + 5) 5 bs out w1 vo HI1.out (by decide) h2)
        have HM := Lib.hid (HNO.out 4 (dyn_c H1.out (by have := HA1.out; omega) h2) (by decide))
        clear h2 hm1
        go_wp2_with fail
        refine HT.out.mono ?_
        rintro e w2 ⟨rfl, m, rfl⟩
        clear HT
        go_wp2
        go_ret
        exact blk_no HM.out (by decide) (Below.drewN (HH.out.belowL (chgG HC1.out)) m)
      | some b =>
        have hb := tk_le h2
        obtain ⟨b, rfl⟩ := Int.eq_ofNat_of_zero_le hb.1
        have hb2 : b < 32 := by have := hb.2.1; omega
        have HT := Lib.hid (iTake_yes L R G most (p + 5) 5 bs out w1 vo b HI1.out (by decide) h2)
        have H2 := Lib.hid h2
        obtain ⟨m3, hm3⟩ : ∃ m3, b + 1 = m3 := ⟨_, rfl⟩
        have e2 : IntKind.i64.wrap ((b : Int) + 1) = (m3 : Int) := by rw [IntWalk.i64_in _ (by omega)]; omega
        have HM1 := Lib.hid hm1
        clear h2 hb hm1
        go_wp2_with fail
        refine HT.out.mono ?_
        rintro e w2 ⟨rfl, hI2, hC2⟩
        have HI2 := Lib.hid hI2
        have HC2 := Lib.hid (HC1.out.trans hC2 (fun _ _ h => h))
        clear hI2 hC2 HT HI1 HC1
        by_cases c2 : 30 < m3
        · have d2 : decide ((30 : Int) < (m3 : Int)) = true := decide_eq_true (by omega)
          have HM := Lib.hid (HNO.out 3 (dyn_d H1.out (by have := HA1.out; omega) H2.out (by omega)) (by decide))
          clear hm3
          go_wp2
          go_ret
          exact blk_no HM.out (by decide) (HH.out.belowL (chgG HC2.out))
        · have d2 : decide ((30 : Int) < (m3 : Int)) = false := decide_eq_false (by omega)
          have HA2 : Hid (¬ (30 : Int) < (b : Int) + 1) := Lib.hid (by omega)
          cases h3 : tk bs (p + 10) 4 with
          | none =>
            have HT := Lib.hid (iTake_no L R G most (p + 10) 4 bs out w2 vo HI2.out (by decide) h3)
            have HM := Lib.hid (HNO.out 4 (dyn_e H1.out (by have := HA1.out; omega) H2.out (by have := HA2.out; omega) h3) (by decide))
            clear h3 hm3
            go_wp2_with fail
            refine HT.out.mono ?_
            rintro e w3 ⟨rfl, m, rfl⟩
            clear HT
            go_wp2
            go_ret
            exact blk_no HM.out (by decide) (Below.drewN (HH.out.belowL (chgG HC2.out)) m)
          | some c =>
            have hc := tk_le h3
            obtain ⟨c, rfl⟩ := Int.eq_ofNat_of_zero_le hc.1
            have hc2 : c < 16 := by have := hc.2.1; omega
            have HT := Lib.hid (iTake_yes L R G most (p + 10) 4 bs out w2 vo c HI2.out (by decide) h3)
            have H3 := Lib.hid h3
            obtain ⟨cc, hcc⟩ : ∃ cc, c + 4 = cc := ⟨_, rfl⟩
            have e3 : IntKind.i64.wrap ((c : Int) + 4) = (cc : Int) := by rw [IntWalk.i64_in _ (by omega)]; omega
            have HM3 := Lib.hid hm3
            obtain ⟨i0, hi, hz0, hz1, hz2⟩ := info_parts Try.info_int
            clear h3 hc hm3
            go_wp2_with fail
            refine HT.out.mono ?_
            rintro e w3 ⟨rfl, hI3, hC3⟩
            have HI3 := Lib.hid hI3
            have HC3 := Lib.hid (HC2.out.trans hC3 (fun _ _ h => h))
            clear hI3 hC3 HT HI2 HC2 d1 d2
            have hcc2 : cc ≤ 19 := by omega
            have HCC := Lib.hid hcc
            clear hcc
            go_wp2_with (refine wpList_make_full _ rfl _ _ 121 rfl w3.heap.size 3 i0 (.int .i64 0) 1 Try.underlying121 hi hz0 hz1 .i64 .i64 _ _ 19 rfl rfl rfl rfl (by rw [hz2]; omega) (by unfold maxLen; omega) (Nat.le_refl _) ?_; intro w4 hown hgrow)
            have hrow : RowI 3 .i64 w3.heap.size w4 w3.heap.size 19 19 (ownL bs (p + 14) 0) := by
              have e : (Value.int IntKind.i64 0).cells = #[.int .i64 0] := rfl
              rw [e, toList_madeCells_one] at hown
              simpa [RowI, ownL] using hown
            have hB4 : Below w3.heap.size w3 w4 := (Below.refl _ _).grown hgrow (Nat.le_refl _) (by simp)
            clear hown hgrow hi hz0 hz1 hz2
            refine (iOrder_any w4).mono ?_
            rintro e w5 ⟨rfl, hB5⟩
            have HROW := Lib.hid (World.ownsRow.kept hrow (row := none) ⟨hB5.os, hB5.tape, hB5.output, hB5.size, fun k hk _ => hB5.block k hk⟩ (.inr (by intro e; cases e)) : RowI 3 .i64 w3.heap.size w5 w3.heap.size 19 19 (ownL bs (p + 14) 0))
            have HB5 := Lib.hid (hB4.trans (hB5.mono hB4.size))
            have h45 := hB4.size
            have h55 := hB5.size
            have hwr := (RowI.base hrow).2
            clear hrow hB4 hB5
            have hR : Cel (w5.alloc (.cells (Array.replicate 19 (.int .i64 0)) 150)) w5.heap.size 150 19 (fun _ => .int .i64 0) := by
              have := Cel.new w5 150 (Array.replicate 19 (.int .i64 0)) (fun _ => .int .i64 0) (fun i hi => by rw [Array.size_replicate] at hi; rw [Array.getElem?_replicate, if_pos hi])
              rwa [Array.size_replicate] at this
            have s1 : (cc : Int) ≤ 19 := by omega
            have s2 : (0 : Int) ≤ (cc : Int) := by omega
            simp only
            go_wp2_with (refine wpList_store_part (vs := orderV) (off := 0) rfl (.tmp 8) (.tmp 46) rfl rfl rfl hR info_order (by decide) (by simp [Value.oneCell', orderV]) ?_; intro w6 hC6 hg6 hs6)
            have hB6 : Below w3.heap.size w3 w6 := (HB5.out.alloc (by omega) _).grown hg6 (by simp; omega) (fun k hk => by injection hk with hk; omega)
            have hrow6 : RowI 3 .i64 w3.heap.size w6 w3.heap.size 19 19 (ownL bs (p + 14) 0) := World.ownsRow.kept (World.ownsRow.alloc HROW.out _) hg6 (.inr (by show some w3.heap.size ≠ some w5.heap.size; intro e; injection e with e; omega))
            have hord : Cel w6 w5.heap.size 150 19 (fun i => orderV.getD i undef) := hC6.congr fun i hi => by rw [if_pos ⟨by omega, by have : orderV.size = 19 := rfl; omega⟩, Nat.sub_zero]
            have hsz3 := HC3.out.size
            have hD0 := Lib.hid (DynAt.mk (RowI.mono hrow6 hsz3) hord (HI3.out.below hB6) (HC3.out.trans (Chg.of_below hB6) (fun _ _ h => h)) : DynAt L R G bs most vo out w w3.heap.size w5.heap.size (ownL bs (p + 14) 0) (p + 10 + 4) w6)
            have hne : w3.heap.size ≠ w5.heap.size := by omega
            have hPO : w.heap.size ≤ w5.heap.size := by omega
            clear hrow6 hord hB6 hs6 hg6 hC6 hR HROW HB5 h45 h55 hwr HI3 HC3
            generalize w3.heap.size = gF at *
            generalize w5.heap.size = PO at *
            go_loopw [51] (fun i wr => ∃ k : Nat, i = .int .i64 k ∧ k ≤ cc ∧ DynAt L R G bs most vo out w gF PO (ownL bs (p + 14) k) (p + 14 + 3 * k) wr) (fun i _ => cc - (intOf i).toNat)
            case atStart => exact ⟨0, rfl, Nat.zero_le _, hD0.out⟩
            case round =>
              clear hD0
              obtain ⟨k, rfl, hk, hD1⟩ := hrel
              have HD1 := Lib.hid hD1
              by_cases hlt : k < cc
              · have d4 : decide ((k : Int) < (cc : Int)) = true := decide_eq_true (by omega)
                have ho := orderL_at k (by omega)
                have kc := hD1.ord.cell k (by omega)
                have HST := Lib.hid (show (ownL bs (p + 14) k).set (orderL.getD k 0) (takeN bs (p + 14 + 3 * k) 3) = ownL bs (p + 14) (k + 1) from rfl)
                simp only [ho.2] at kc
                replace ho := ho.1
                generalize orderL.getD k 0 = ok at *
                clear hD1
                cases h4 : tk bs (p + 14 + 3 * k) 3 with
                | none =>
                  have HT := Lib.hid (iTake_no L R G most (p + 14 + 3 * k) 3 bs out wr vo HD1.out.inf (by decide) h4)
                  have h5 : 8 * bs.length < p + 14 + 3 * k + 3 := by rcases tk_some bs (p + 14 + 3 * k) 3 with ⟨h, _⟩ | ⟨_, h⟩; rw [h4] at h; cases h; exact h
                  have HM := Lib.hid (HNO.out 4 (dyn_f H1.out (by have := HA1.out; omega) H2.out (by have := HA2.out; omega) H3.out (by have := HCC.out; simp only [Int.toNat_natCast]; omega)) (by decide))
                  clear h4 h5
                  obtain ⟨v0, hco⟩ := RowI.someCell HD1.out.row ho
                  have hcf := RowI.frozen HD1.out.row ok
                  go_wp2_with fail
                  refine HT.out.mono ?_
                  rintro e w7 ⟨rfl, m, rfl⟩
                  replace hco : (wr.drewN m).cell? _ = _ := hco
                  replace hcf : (wr.drewN m).frozen? _ = _ := hcf
                  clear HT
                  have HB7 := Lib.hid (Below.drewN (HH.out.belowL (chgG HD1.out.chg)) m)
                  go_wp2
                  go_ret
                  exact blk_no HM.out (by decide) (HB7.out.setCell (by have := (RowI.base HD1.out.row).1; have := HH.out.low; have := HH.out.cel.blk; simp; omega) _)
                | some v =>
                  have HT := Lib.hid (iTake_yes L R G most (p + 14 + 3 * k) 3 bs out wr vo v HD1.out.inf (by decide) h4)
                  have hv : takeN bs (p + 14 + 3 * k) 3 = v := by rcases tk_some bs (p + 14 + 3 * k) 3 with ⟨h, _⟩ | ⟨h, _⟩; rw [h4] at h; injection h with h; exact h.symm; rw [h4] at h; cases h
                  rw [hv] at HST
                  clear h4 hv
                  go_wp2_with fail
                  refine HT.out.mono ?_
                  rintro e w7 ⟨rfl, hI7, hC7⟩
                  have hD7 := HD1.out.went hI7 hC7 hGs hPO
                  obtain ⟨v0, hco⟩ := RowI.someCell hD7.row ho
                  have hcf := RowI.frozen hD7.row ok
                  have HD8 := Lib.hid (hD7.put HH.out hne ok v)
                  rw [HST.out] at HD8
                  clear hI7 hC7 hD7 HT HD1
                  go_wp2
                  go_roundw
                  case rel => exact ⟨k + 1, by go_num, by omega, HD8.out⟩
                  case measure => simp [intOf]; omega
              · obtain rfl : k = cc := by omega
                have hp3 := hD1.inf.hp
                have HOW := Lib.hid (RowI.ints hD1.row)
                have hln := ownL_len bs (p + 14) k
                obtain ⟨nn, hnn⟩ : ∃ nn, m1 + b + 1 = nn := ⟨_, rfl⟩
                obtain ⟨m2, hm2⟩ : ∃ m2, m1 + b = m2 := ⟨_, rfl⟩
                have e5 : IntKind.i64.wrap ((m1 : Int) + (b : Int)) = (m2 : Int) := by rw [IntWalk.i64_in _ (by omega)]; omega
                have e6 : IntKind.i64.wrap ((m2 : Int) + 1) = (nn : Int) := by rw [IntWalk.i64_in _ (by omega)]; omega
                have hn3 : nn ≤ 316 := by have := HM3.out; omega
                have hn4 : 257 ≤ m1 ∧ m1 < nn := by have := HM1.out; omega
                obtain ⟨q, hq⟩ : ∃ q, p + 14 + 3 * k = q := ⟨_, rfl⟩
                have HTL := Lib.hid (fun O L hO hL => dyn_tailN (O := O) (L := L) H1.out H2.out H3.out HM1.out hnn HCC.out hq (by omega) (by have := HM3.out; omega) (by omega) hO hL)
                replace HTL := Lib.hid (HTL.out _ _ rfl rfl)
                rw [hq] at HD1
                generalize ownL bs (p + 14) k = own at *
                have HW := Lib.hid (by have := iWhole_any (some ⟨gF, 0, none⟩) 19 own false wr HOW.out (by omega); rwa [hln] at this : Calls Try.prog 109 #[.slice (some ⟨gF, 0, none⟩) 19 19, .bool false] wr (WholePost own false wr))
                clear hD1 hnn hm2 hq hp3 s1 s2
                go_wp2_with fail
                refine HW.out.mono ?_
                rintro e w8 ⟨hB8, hno, hyes⟩
                rw [wholeB_false] at hno hyes
                clear HW
                have HI8 := Lib.hid (HD1.out.inf.below hB8)
                have HC8 := Lib.hid (HD1.out.chg.trans (Chg.of_below (S := fun k => k = G) hB8) (fun _ _ h => h))
                have hsr := HD1.out.chg.size
                clear HD1 HOW
                cases hco : complete own with
                | false =>
                  obtain rfl := hno hco
                  have HM := Lib.hid (HNO.out 3 (by rw [HTL.out, if_pos hco]) (by decide))
                  clear hno hyes HTL hB8
                  go_wp2
                  go_ret
                  exact blk_no HM.out (by decide) (HH.out.belowL (chgG HC8.out))
                | true =>
                  obtain ⟨g8, rfl, hg8, hx8⟩ := hyes hco
                  have HTL2 := Lib.hid (HTL.out.trans (if_neg (by rw [hco]; decide)))
                  have hA8 : ApartI R G vo w8.heap.size g8 := fun k hk => .inl (by have := (HH.out.lt k hk).2; omega)
                  have HLS := Lib.hid (iLens_any L R G most q w8.heap.size g8 nn bs out own w8 vo HI8.out hx8 hA8 hln (by omega))
                  clear hno hyes HTL hB8 hx8 hA8 hco
                  simp only
                  generalize lensM bs own nn (nn + 1) q [] = LS at *
                  obtain ⟨er, q9, ls⟩ := LS
                  go_wp2_with fail
                  refine HLS.out.mono ?_
                  rintro e w9 ⟨hbad, hgood⟩
                  clear HLS
                  simp only at hbad hgood HTL2
                  by_cases her : er = 0
                  · subst her
                    obtain ⟨v9, rfl, hrow9, hl9, hI9, hC9⟩ := hgood rfl
                    clear hbad hgood
                    have HTL3 := Lib.hid (HTL2.out.trans (if_neg (by decide)))
                    have HI9 := Lib.hid hI9
                    have HC9 := Lib.hid (HC8.out.trans hC9 (fun _ _ h => h))
                    clear HTL2 hI9 hC9 HI8 HC8
                    obtain ⟨A9, c9, rfl⟩ := OwnS.shape hrow9
                    have hcap9 := OwnS.cap hrow9
                    have hint9 := OwnS.ints hrow9
                    rw [hl9] at hcap9
                    obtain ⟨b9, o9, rfl, hb9, hcell9⟩ := hint9 (by omega)
                    have k256 := hcell9 256 (by omega)
                    have HCELL := Lib.hid hcell9
                    have HLN := Lib.hid hl9
                    have hlt9 : (256 : Int) < (nn : Int) := by omega
                    rw [hl9]
                    clear hrow9 hint9 hcell9 hl9
                    by_cases hz : ls.getD 256 0 = 0
                    · have HM := Lib.hid (HNO.out 3 (by rw [HTL3.out, if_pos hz]) (by decide))
                      rw [hz] at k256
                      clear hz
                      go_wp2
                      go_ret
                      exact blk_no HM.out (by decide) (HH.out.belowL (chgG HC9.out))
                    · have HTL4 := Lib.hid (HTL3.out.trans (if_neg hz))
                      have d7 : (ls.getD 256 0 == 0) = false := by simpa using hz
                      have HIA : Hid (Ints .i64 w9 (some ⟨b9, o9, none⟩) (ls.take m1)) := Lib.hid fun _ => ⟨b9, o9, rfl, hb9, fun j hj => by
                        rw [List.length_take, HLN.out] at hj
                        rw [HCELL.out j (by have := HLN.out; omega), List.getD_eq_getElem?_getD, List.getD_eq_getElem?_getD, List.getElem?_take, if_pos (by omega)]⟩
                      have HIB : Hid (Ints .i64 w9 (some ⟨b9, o9 + m1, none⟩) (ls.drop m1)) := Lib.hid fun _ => ⟨b9, o9 + m1, rfl, hb9, fun j hj => by
                        rw [List.length_drop, HLN.out] at hj
                        rw [Nat.add_assoc, HCELL.out (m1 + j) (by have := HLN.out; omega), List.getD_eq_getElem?_getD, List.getD_eq_getElem?_getD, List.getElem?_drop]⟩
                      have HLA : Hid ((ls.take m1).length = m1) := Lib.hid (by rw [List.length_take, HLN.out]; omega)
                      have HLB : Hid ((ls.drop m1).length = nn - m1) := Lib.hid (by rw [List.length_drop, HLN.out])
                      have t1 : (m1 : Int) ≤ (nn : Int) := by omega
                      have t2 : (nn : Int) ≤ (c9 : Int) := by omega
                      have t3 : (m1 : Int) ≤ (c9 : Int) := by omega
                      have t4 : ¬ c9 = m1 := by omega
                      clear HTL3 hz
                      generalize ls.getD 256 0 = x256 at *
                      clear HCELL HLN
                      have HW1 := Lib.hid (by have := iWhole_any (some ⟨b9, o9, none⟩) c9 (ls.take m1) false w9 HIA.out (by rw [HLA.out]; omega); rwa [HLA.out] at this : Calls Try.prog 109 #[.slice (some ⟨b9, o9, none⟩) m1 c9, .bool false] w9 (WholePost (ls.take m1) false w9))
                      go_wp2_with fail
                      refine HW1.out.mono ?_
                      rintro e w10 ⟨hB10, hno, hyes⟩
                      clear HW1 k256 d7 HIA
                      have HI10 := Lib.hid (HI9.out.below hB10)
                      have HC10 := Lib.hid (HC9.out.trans (Chg.of_below (S := fun k => k = G) hB10) (fun _ _ h => h))
                      replace HIB := Lib.hid (HIB.out.below hB10)
                      have hs9 := HC9.out.size
                      have HB10 := Lib.hid hB10
                      clear hB10 HI9 HC9
                      cases hw1 : wholeB (ls.take m1) false with
                      | false =>
                        obtain rfl := hno hw1
                        have HM := Lib.hid (HNO.out 3 (by rw [HTL4.out, if_pos hw1]) (by decide))
                        clear hno hyes HTL4 hw1
                        go_wp2
                        go_ret
                        exact blk_no HM.out (by decide) (HH.out.belowL (chgG HC10.out))
                      | true =>
                        obtain ⟨g10, rfl, hg10, hx10⟩ := hyes hw1
                        have HTL5 := Lib.hid (HTL4.out.trans (if_neg (by rw [hw1]; decide)))
                        have HX10 := Lib.hid hx10
                        clear hno hyes HTL4 hw1 hx10
                        have HW2 := Lib.hid (by have := iWhole_any (some ⟨b9, o9 + m1, none⟩) (c9 - m1) (ls.drop m1) true w10 HIB.out (by rw [HLB.out]; omega); rwa [HLB.out] at this : Calls Try.prog 109 #[.slice (some ⟨b9, o9 + m1, none⟩) (nn - m1) (c9 - m1), .bool true] w10 (WholePost (ls.drop m1) true w10))
                        simp only
                        go_wp2_with fail
                        refine HW2.out.mono ?_
                        rintro e w11 ⟨hB11, hno, hyes⟩
                        clear HW2
                        have HI11 := Lib.hid (HI10.out.below hB11)
                        have HC11 := Lib.hid (HC10.out.trans (Chg.of_below (S := fun k => k = G) hB11) (fun _ _ h => h))
                        have HX11 := Lib.hid (HX10.out.same hB11)
                        have hs10 := HB10.out.size
                        clear HI10 HX10 hB11
                        cases hw2 : wholeB (ls.drop m1) true with
                        | false =>
                          obtain rfl := hno hw2
                          have HM := Lib.hid (HNO.out 3 (by rw [HTL5.out, if_pos hw2]) (by decide))
                          clear hno hyes HTL5 hw2
                          go_wp2
                          go_ret
                          exact blk_no HM.out (by decide) (HH.out.belowL (chgG HC11.out))
                        | true =>
                          obtain ⟨g11, rfl, hg11, hx11⟩ := hyes hw2
                          have HM := Lib.hid (HOK.out _ _ _ (HTL5.out.trans (if_neg (by rw [hw2]; decide))))
                          have HS := Lib.hid (iSymbols_any L R G most q9 w10.heap.size g10 w11.heap.size g11 F bs out (ls.take m1) (ls.drop m1) w11 vo HI11.out HX11.out (fun k hk => .inl (by have := (HH.out.lt k hk).2; omega)) hx11 (fun k hk => .inl (by have := (HH.out.lt k hk).2; have := HC10.out.size; omega)) hF)
                          clear hno hyes HTL5 hw2 hx11
                          rw [← HM.out] at HS
                          simp only
                          go_wp2_with fail
                          refine HS.out.mono ?_
                          rintro e w12 hP
                          have hP2 := Lib.hid (hP.behind HH.out HC11.out)
                          obtain ⟨rfl, _⟩ := hP
                          clear HS
                          go_wp2
                          go_ret
                          exact hP2.out
                  · obtain ⟨rfl, hB9⟩ := hbad her
                    have d7 : (er == 0) = false := by simpa using her
                    have d8 : (er != 0) = true := by simpa using her
                    have HM := Lib.hid (HNO.out er (by rw [HTL2.out, if_pos her]) her)
                    have HB9 := Lib.hid ((HH.out.belowL (chgG HC8.out)).trans hB9)
                    clear hbad hgood HTL2 hB9
                    go_wp2
                    go_ret
                    exact blk_no HM.out her HB9.out
end Go.Proofs.Ytoeipgbnjcgbjaa
