/- The document's tree walked (printed by genobse.py out of XObSe.src). -/
import Derived.Test.YtihanglnjghcfaaGreatDoorGCt16
namespace Go.Proofs.YtihanglnjghcfaaGreatDoor
open Go.RowKit
set_option linter.unusedVariables false
set_option linter.unusedSimpArgs false

set_option maxRecDepth 100000 in
theorem rzero_any (w : World) : Calls Tryz.prog 69 #[] w fun e w' => e = .returned (.string zeroS) ∧ w = w' := by
 unfold zeroS
 go_enter Tryz.func69, Tryz.ntmps69
 go_wp2
 go_ret
 exact ⟨rfl, rfl⟩
theorem zeroS_list : zeroS.data.toList = List.replicate 40 48 := by kernel_rfl
theorem hexS_zero (id : List UInt8) (h : id.length = 20) : ((hexS id).toList == zeroS.toList) = id.all (· == 0) := by
 rw [← zero_hexS]
 unfold zeroB
 rw [Lib.toList_data, Lib.toList_data, zeroS_list, Bool.eq_iff_iff, beq_iff_eq, List.all_eq_true, List.eq_replicate_iff]
 constructor
 · rintro ⟨_, h2⟩ x hx
   rw [beq_iff_eq]; exact h2 x hx
 · intro h2
   refine ⟨by rw [← Lib.size_eq, hexS_size, h], fun x hx => ?_⟩
   have := h2 x hx
   rwa [beq_iff_eq] at this
/-- An entry read the document's way. -/
theorem entU_doc {l : List UInt8} {i j : Nat} (h1 : l[i]? = some 32) (n1 : ∀ k, k < i → l[k]? ≠ some 32) (h2 : (l.drop (i + 1))[j]? = some 0) (n2 : ∀ k, k < j → (l.drop (i + 1))[k]? ≠ some 0) :
 entU l = if modeB (l.take i) = false ∨ partU ((l.drop (i + 1)).take j) = false ∨ ((l.drop (i + 1)).drop (j + 1)).length < 20 ∨ (((l.drop (i + 1)).drop (j + 1)).take 20).all (· == 0) = true then none
  else some (⟨bk (l.take i), bk ((l.drop (i + 1)).take j), hexS (((l.drop (i + 1)).drop (j + 1)).take 20)⟩, ((l.drop (i + 1)).drop (j + 1)).drop 20) := by
 have e1 := indexByte_at h1 n1
 have e2 := indexByte_at h2 n2
 unfold entU
 rw [e1, if_neg (by omega)]
 simp only [Int.toNat_natCast]
 rw [e2]
 by_cases c1 : modeB (l.take i) = false
 · rw [if_pos c1, if_pos (.inl c1)]
 · rw [if_neg c1, if_neg (by omega)]
   simp only [Int.toNat_natCast]
   by_cases c2 : partU ((l.drop (i + 1)).take j) = false ∨ ((l.drop (i + 1)).drop (j + 1)).length < 20
   · rw [if_pos c2, if_pos (by rcases c2 with h | h; exact .inr (.inl h); exact .inr (.inr (.inl h)))]
   · rw [if_neg c2]
     by_cases c3 : (((l.drop (i + 1)).drop (j + 1)).take 20).all (· == 0) = true
     · rw [if_pos c3, if_pos (.inr (.inr (.inr c3)))]
     · rw [if_neg c3, if_neg (by rintro (h | h | h | h); exact c1 h; exact c2 (.inl h); exact c2 (.inr h); exact c3 h)]
theorem entU_doc1 {l : List UInt8} (h : (32 : UInt8) ∉ l) : entU l = none := by
 unfold entU
 rw [indexByte_not h]; rfl
theorem entU_doc2 {l : List UInt8} {i : Nat} (h1 : l[i]? = some 32) (n1 : ∀ k, k < i → l[k]? ≠ some 32) (h2 : (0 : UInt8) ∉ l.drop (i + 1)) : entU l = none := by
 unfold entU
 rw [indexByte_at h1 n1, if_neg (by omega)]
 simp only [Int.toNat_natCast]
 split
 · rfl
 · rw [indexByte_not h2]; rfl
theorem entU_doc3 {l : List UInt8} {i : Nat} (h1 : l[i]? = some 32) (n1 : ∀ k, k < i → l[k]? ≠ some 32) (h2 : modeB (l.take i) = false) : entU l = none := by
 unfold entU
 rw [indexByte_at h1 n1, if_neg (by omega)]
 simp only [Int.toNat_natCast]
 rw [if_pos h2]
set_option maxRecDepth 100000 in
set_option maxHeartbeats 8000000 in
theorem rtree_any (s : ByteArray) (w : World) (hs : s.size ≤ 8796093022000) : Calls Tryz.prog 49 #[.string s] w (RTree s.data.toList w) := by
 have HS := Lib.hid hs
 have HPO : Hid (∀ e w', RTree s.data.toList w e w' = (Below w.heap.size w w' ∧ ((treeF s.data.toList = none ∧ e = .returned (.tuple #[.slice none 0 0, .bool false])) ∨ ∃ L A c, treeF s.data.toList = some L ∧ e = .returned (.tuple #[.slice A L.length c, .bool true]) ∧ OwnS w' w.heap.size 116 3 (.slice A L.length c) L.length (entVs L)))) := Lib.hid (fun _ _ => rfl)
 have HTF : Hid (treeF s.data.toList = treeU (s.size + 1) s.data.toList []) := Lib.hid (by rw [Lib.size_eq]; rfl)
 generalize RTree s.data.toList w = POST at *
 obtain ⟨i0, hi, hz0, hz1, hz2⟩ := info_parts info_ent
 clear hs
 go_enter Tryz.func49, Tryz.ntmps49
 go_wp2
 go_loopw [0, 4] (fun v0 v4 wr => ∃ (s2 : ByteArray) (L : List Ent) (f : Nat) (v : Value), v0 = .string s2 ∧ v4 = v ∧ OwnS wr w.heap.size 116 3 v L.length (entVs L) ∧ Below w.heap.size w wr ∧ s2.size < f ∧ L.length * 22 + s2.size ≤ s.size ∧ treeF s.data.toList = treeU f s2.data.toList L ∧ ∀ y ∈ L, y.n.size ≤ s.size) (fun v0 _ _ => sLen v0)
 case atStart => exact ⟨s, [], s.size + 1, _, rfl, rfl, OwnS.nil _ _ _ _, Below.refl _ _, Nat.lt_succ_self _, by simp, HTF.out, fun y hy => by cases hy⟩
 case round =>
  clear HTF
  obtain ⟨s2, L, f, v, rfl, rfl, ho, hb, hf, hLl, htf, hysz⟩ := hrel
  obtain ⟨Av, cv, rfl⟩ := ho.shape
  have HYS := Lib.hid hysz
  have HO := Lib.hid ho
  have HB := Lib.hid hb
  have HTF := Lib.hid htf
  have HN : Hid (s2.size < f ∧ L.length * 22 + s2.size ≤ s.size) := Lib.hid ⟨hf, hLl⟩
  clear hysz ho hb htf hf hLl
  by_cases h0 : s2.size = 0
  · have hl : s2.data.toList = [] := List.eq_nil_of_length_eq_zero (by rw [← Lib.size_eq]; exact h0)
    have q0 : (s2.toList == []) = true := by rw [Lib.toList_data, hl]; rfl
    have q0' : s2.toList.isEmpty = true := by rw [Lib.toList_data, hl]; rfl
    have HYES : Hid (treeF s.data.toList = some L) := Lib.hid (by
     obtain ⟨f', rfl⟩ : ∃ f', f = f' + 1 := ⟨f - 1, by have := HN.out; omega⟩
     rw [HTF.out, treeU, if_pos hl])
    clear h0 hl
    go_wp2
    rw [HPO.out]
    exact ⟨HB.out, .inr ⟨L, Av, cv, HYES.out, rfl, HO.out⟩⟩
  · have hne : s2.data.toList ≠ [] := fun hc => h0 (by rw [Lib.size_eq, hc]; rfl)
    have q0 : (s2.toList == []) = false := by rw [beq_eq_false_iff_ne, Lib.toList_data]; exact hne
    have q0' : s2.toList.isEmpty = false := by rw [Lib.toList_data, List.isEmpty_eq_false_iff]; exact hne
    have HNX : Hid (∀ (hx : entU s2.data.toList = none), treeF s.data.toList = none) := Lib.hid (fun hx => by
     obtain ⟨f', rfl⟩ : ∃ f', f = f' + 1 := ⟨f - 1, by have := HN.out; omega⟩
     rw [HTF.out, treeU, if_neg hne, hx])
    have HNE := Lib.hid hne
    clear hne h0
    go_wp2_with fail
    refine (upto_any s2 32 wr (by have := HN.out; have := HS.out; omega)).mono ?_
    rintro e w1 ⟨hb1, ⟨hno, rfl⟩ | ⟨i, hi1, hx1, hno1, rfl⟩⟩
    · have HB1 := Lib.hid (HB.out.trans (hb1.mono HB.out.size))
      have HNO := Lib.hid (HNX.out (entU_doc1 hno))
      clear hb1 hno
      go_wp2
      rw [HPO.out]
      exact ⟨HB1.out, .inl ⟨HNO.out, rfl⟩⟩
    · have HB1 := Lib.hid (HB.out.trans (hb1.mono HB.out.size))
      have HO1 := Lib.hid (HO.out.lowB hb1)
      have HX1 := Lib.hid hx1
      have HN1 := Lib.hid hno1
      have HI1 := Lib.hid hi1
      have e1 : (s2.extract 0 i).data.toList = s2.data.toList.take i := by rw [bk_ext0, bk_list]
      have e2 : (s2.extract (i + 1) s2.size).data.toList = s2.data.toList.drop (i + 1) := by rw [bk_extE, bk_list]
      have z1 : (s2.extract 0 i).size ≤ s2.size := by rw [ByteArray.size_extract]; omega
      have z2 : (s2.extract (i + 1) s2.size).size ≤ s2.size := by rw [ByteArray.size_extract]; omega
      generalize s2.extract 0 i = xm at *
      generalize s2.extract (i + 1) s2.size = s3 at *
      have HE1 := Lib.hid e1
      have HE2 := Lib.hid e2
      have HZ1 : Hid (xm.size ≤ s2.size ∧ s3.size ≤ s2.size) := Lib.hid ⟨z1, z2⟩
      clear hb1 hx1 hno1 hi1 e1 e2 z1 z2 HB HO
      go_wp2_with fail
      refine (mode_any xm w1).mono ?_
      rintro e w2 ⟨rfl, rfl⟩
      cases hm : modeB xm.data.toList
      · have HNO := Lib.hid (HNX.out (entU_doc3 HX1.out HN1.out (by rw [← HE1.out]; exact hm)))
        clear hm
        go_wp2
        rw [HPO.out]
        exact ⟨HB1.out, .inl ⟨HNO.out, rfl⟩⟩
      · have HM := Lib.hid hm
        clear hm
        go_wp2_with fail
        refine (upto_any s3 0 w2 (by have := HZ1.out; have := HN.out; have := HS.out; omega)).mono ?_
        rintro e w3 ⟨hb3, ⟨hno, rfl⟩ | ⟨j, hj1, hx3, hno3, rfl⟩⟩
        · have HB3 := Lib.hid (HB1.out.trans (hb3.mono HB1.out.size))
          have HNO := Lib.hid (HNX.out (entU_doc2 HX1.out HN1.out (by rw [← HE2.out]; exact hno)))
          clear hb3 hno
          go_wp2
          rw [HPO.out]
          exact ⟨HB3.out, .inl ⟨HNO.out, rfl⟩⟩
        · have HB3 := Lib.hid (HB1.out.trans (hb3.mono HB1.out.size))
          have HO3 := Lib.hid (HO1.out.lowB hb3)
          have HENT := Lib.hid (entU_doc HX1.out HN1.out (by rw [← HE2.out]; exact hx3) (by rw [← HE2.out]; exact hno3))
          have e3 : (s3.extract 0 j).data.toList = s3.data.toList.take j := by rw [bk_ext0, bk_list]
          have e4 : (s3.extract (j + 1) s3.size).data.toList = s3.data.toList.drop (j + 1) := by rw [bk_extE, bk_list]
          have z3 : (s3.extract 0 j).size ≤ s3.size := by rw [ByteArray.size_extract]; omega
          have z4 : (s3.extract (j + 1) s3.size).size + i + j + 2 = s2.size := by
           have h1 := (List.getElem?_eq_some_iff.1 HX1.out).1
           have h2 := (List.getElem?_eq_some_iff.1 hx3).1
           rw [Lib.size_eq, e4, HE2.out, List.length_drop, List.length_drop, Lib.size_eq]
           rw [HE2.out, List.length_drop] at h2
           omega
          rw [← HE1.out, ← HE2.out, ← e3, ← e4, bk_of, bk_of] at HENT
          generalize s3.extract 0 j = xn at *
          generalize s3.extract (j + 1) s3.size = q at *
          have HE4 := Lib.hid e4
          have HZ3 : Hid (xn.size ≤ s3.size ∧ q.size + i + j + 2 = s2.size) := Lib.hid ⟨z3, z4⟩
          clear hb3 hx3 hno3 hj1 e3 e4 z3 z4 HB1 HO1
          go_wp2_with fail
          refine (part_any xn w3 (by have := HZ3.out; have := HZ1.out; have := HN.out; have := HS.out; omega)).mono ?_
          rintro e w4 ⟨rfl, hb4⟩
          have HB4 := Lib.hid (HB3.out.trans (hb4.mono HB3.out.size))
          have HO4 := Lib.hid (HO3.out.lowB hb4)
          clear hb4 HB3 HO3
          cases hp : partU xn.data.toList
          · have HNO := Lib.hid (HNX.out (by rw [HENT.out, if_pos (.inr (.inl hp))]))
            clear hp
            go_wp2
            rw [HPO.out]
            exact ⟨HB4.out, .inl ⟨HNO.out, rfl⟩⟩
          · have HP := Lib.hid hp
            clear hp
            by_cases h20 : q.size < 20
            · have HNO := Lib.hid (HNX.out (by rw [HENT.out, if_pos (.inr (.inr (.inl (by rw [← Lib.size_eq]; exact h20))))]))
              have d20 : decide ((q.size : Int) < 20) = true := decide_eq_true (by omega)
              have d20' : decide (q.size < 20) = true := decide_eq_true h20
              clear h20
              go_wp2
              rw [HPO.out]
              exact ⟨HB4.out, .inl ⟨HNO.out, rfl⟩⟩
            · have d20 : decide ((q.size : Int) < 20) = false := decide_eq_false (by omega)
              have d20' : decide (q.size < 20) = false := decide_eq_false h20
              have hq20 : (20 : Int) ≤ (q.size : Int) := by omega
              have hqs : q.size ≤ 8796093022000 := by have := HZ3.out; have := HN.out; have := HS.out; omega
              have HQ : Hid (20 ≤ q.size) := Lib.hid (by omega)
              have z5 : (q.extract 0 20).size = 20 := by rw [ByteArray.size_extract]; omega
              have e5 : (q.extract 0 20).data.toList = q.data.toList.take 20 := by rw [bk_ext0, bk_list]
              obtain ⟨xi, hxi⟩ : ∃ xi, xi = strOfNums (hexL (bytesOf (q.extract 0 20))) := ⟨_, rfl⟩
              have HXI : Hid (xi = hexS (q.data.toList.take 20)) := Lib.hid (by rw [hxi]; unfold hexS; rw [← e5, bk_of])
              have HHEX := Lib.hid (fun A c W (hI : Ints .u8 W A (bytesOf (q.extract 0 20))) => hexR_any A 20 c (bytesOf (q.extract 0 20)) W hI (by rw [bytesOf_len]; exact z5) (bytesOf_ok _) (by decide))
              rw [← hxi] at HHEX
              have HZ5 := Lib.hid z5
              have hqx : (q.extract 0 20).size ≤ 140737488351300 := by omega
              clear h20 e5 hxi z5
              go_upto_region 9 with (fail)
              go_upto_region 10 with (first
               | (have hx5 := hb5; go_at_call 56; refine (HHEX.out A5 c5 w5 ho5.ints).mono ?_; rintro e w6 ⟨rfl, hb6⟩)
               | (refine wpList_convO rfl (.tmp 48) rfl (q.extract 0 20) 20 (bytesOf (q.extract 0 20)) rfl HZ5.out rfl hqx ?_; intro A5 c5 w5 ho5 hc5 hm5 hb5))
              have hl7 : Below w6.heap.size w6 (w6.alloc (.cells #[.string xm, .string xn, .string xi] 116)) := (Below.refl _ _).alloc (Nat.le_refl _) _
              have HC7 := Lib.hid (entF_new w6 ⟨xm, xn, xi⟩)
              have HO7 := Lib.hid (((HO4.out.lowB hb5).lowB hb6).lowB hl7)
              have HB7 := Lib.hid (((HB4.out.trans (hb5.mono HB4.out.size)).trans (hb6.mono (HB4.out.trans (hb5.mono HB4.out.size)).size)).trans (hl7.mono ((HB4.out.trans (hb5.mono HB4.out.size)).trans (hb6.mono (HB4.out.trans (hb5.mono HB4.out.size)).size)).size))
              have HG4 : Hid (w.heap.size ≤ w6.heap.size) := Lib.hid (((HB4.out.trans (hb5.mono HB4.out.size)).trans (hb6.mono (HB4.out.trans (hb5.mono HB4.out.size)).size)).size)
              clear hl7 ho5 hc5 hm5 hb5 hb6 HO4 HB4 HHEX hqx d20 d20'
              generalize w6.alloc (.cells #[.string xm, .string xn, .string xi] 116) = w7 at *
              generalize w6.heap.size = g at *
              generalize hzu : (q.data.toList.take 20).all (· == 0) = zu at *
              have hze : (xi.toList == zeroS.toList) = zu := by rw [HXI.out, hexS_zero _ (by rw [List.length_take, ← Lib.size_eq]; have := HQ.out; omega), hzu]
              have HEN : Hid (zu = true → entU s2.data.toList = none) := Lib.hid (fun h => by rw [HENT.out, if_pos (.inr (.inr (.inr h)))])
              have HEY : Hid (zu = false → entU s2.data.toList = some (⟨xm, xn, xi⟩, q.data.toList.drop 20)) := Lib.hid (fun h => by
               rw [HENT.out, if_neg (by rintro (h1 | h1 | h1 | h1); exact absurd (HM.out.symm.trans h1) (by decide); exact absurd (HP.out.symm.trans h1) (by decide); (have := HQ.out; rw [← Lib.size_eq] at h1; omega); exact absurd (h.symm.trans h1) (by decide)), HXI.out])
              have HZU := Lib.hid hzu
              clear hzu HENT
              have HZN : Hid (xn.size ≤ s.size) := Lib.hid (by have := HZ3.out; have := HZ1.out; have := HN.out; omega)
              go_cut [71] (fun v wx => (∃ bd, v = .bool bd ∧ bd = (zu || !lastOk L ⟨xm, xn, xi⟩)) ∧ Below w7.heap.size w7 wx)
              case first => as_aux_lemma =>
               cases zu
               case true =>
                refine wp_region_ph (by kernel_rfl) [] [.span 0 0, .span 0 0, .span 0 0, .span 0 0, .span 0 0, .span 0 0, .span 0 0, .span 0 0, .span 0 0, .span 0 0, .span 0 0, .span 0 0, .span 0 0, .span 0 0, .span 0 0, .span 0 0, .span 0 0, .span 0 0, .span 0 0, .span 0 0] [fun z9 => z9 = .pointer (some ⟨g, 2, none⟩), fun z9 => z9 = .string xi, fun z9 => z9 = .string zeroS, fun z9 => z9 = .bool true, fun z9 => z9 = .bool true, fun z9 => z9 = undef, fun z9 => z9 = undef, fun z9 => z9 = undef, fun z9 => z9 = undef, fun z9 => z9 = undef, fun z9 => z9 = undef, fun z9 => z9 = undef, fun z9 => z9 = undef, fun z9 => z9 = undef, fun z9 => z9 = undef, fun z9 => z9 = undef, fun z9 => z9 = undef, fun z9 => z9 = undef, fun z9 => z9 = undef, fun z9 => z9 = .bool true] ((fun _ w => Below w7.heap.size w7 w)) (by kernel_rfl) (by kernel_rfl) (by kernel_rfl) (by kernel_rfl) (by kernel_rfl) (by kernel_rfl) rfl rfl ((Below.refl _ _).drew) ?steps ?done
                case steps =>
                 refine ⟨?_, ?_, ?_, ?_, ?_, ?_, ?_, ?_, ?_, ?_, ?_, ?_, ?_, ?_, ?_, ?_, ?_, ?_, ?_, ?_, trivial⟩
                 · intro us au w1 k0 hlo hhi ha hd hst hI
                   obtain rfl : k0 = 0 := by omega
                   have q10 := slot_far (t := 10) (v := .pointer (some ⟨g, 0, none⟩)) ha (by kernel_rfl) (by kernel_rfl)
                   have p10 := slot_norm q10
                   clear ha hd hst
                   exact StepI.pure (v := .pointer (some ⟨g, 2, none⟩)) rfl rfl (by go_simp) ⟨rfl, hI⟩
                 · intro us au w1 k1 hlo hhi ha hd hst hI
                   obtain rfl : k1 = 0 := by omega
                   have e0 := hd 0 _ (by kernel_rfl) rfl
                   have q52 := slot_at (t := 52) 0 ha (by kernel_rfl) (by kernel_rfl) (by kernel_rfl) e0
                   have p52 := slot_norm q52
                   clear ha hd hst
                   have kk : w1.cell? ⟨g, 2, none⟩ = some (.string xi) := (HC7.out.below hI HC7.out.blk).cell 2 (by decide)
                   exact StepI.pure (v := .string xi) rfl rfl (by go_simp) ⟨rfl, hI⟩
                 · intro us au w1 k2 hlo hhi ha hd hst hI
                   obtain rfl : k2 = 0 := by omega
                   clear ha hd hst
                   refine StepI.call (f := 69) (args := #[]) rfl rfl (by go_simp) ?_
                   refine (rzero_any w1).mono ?_
                   rintro e w5 ⟨rfl, rfl⟩
                   exact ⟨_, rfl, rfl, hI⟩
                 · intro us au w1 k3 hlo hhi ha hd hst hI
                   obtain rfl : k3 = 0 := by omega
                   have e1 := hd 1 _ (by kernel_rfl) rfl
                   have e2 := hd 2 _ (by kernel_rfl) rfl
                   have q53 := slot_at (t := 53) 1 ha (by kernel_rfl) (by kernel_rfl) (by kernel_rfl) e1
                   have p53 := slot_norm q53
                   have q54 := slot_at (t := 54) 2 ha (by kernel_rfl) (by kernel_rfl) (by kernel_rfl) e2
                   have p54 := slot_norm q54
                   clear ha hd hst
                   exact StepI.pure (v := .bool true) rfl rfl (by go_simp) ⟨rfl, hI⟩
                 · intro us au w1 k4 hlo hhi ha hd hst hI
                   obtain rfl : k4 = 0 := by omega
                   have e3 := hd 3 _ (by kernel_rfl) rfl
                   have q55 := slot_at (t := 55) 3 ha (by kernel_rfl) (by kernel_rfl) (by kernel_rfl) e3
                   have p55 := slot_norm q55
                   clear ha hd hst
                   exact StepI.pure (v := .bool true) rfl rfl (by go_simp) ⟨rfl, hI⟩
                 · intro us au w1 k5 hlo hhi ha hd hst hI
                   obtain rfl : k5 = 0 := by omega
                   have e4 := hd 4 _ (by kernel_rfl) rfl
                   have hg := slot_at (t := 56) 4 ha (by kernel_rfl) (by kernel_rfl) (by kernel_rfl) e4
                   exact StepI.skip rfl (unwanted_at rfl rfl hg rfl) ⟨rfl, hI⟩
                 · intro us au w1 k6 hlo hhi ha hd hst hI
                   obtain rfl : k6 = 0 := by omega
                   have e4 := hd 4 _ (by kernel_rfl) rfl
                   have hg := slot_at (t := 56) 4 ha (by kernel_rfl) (by kernel_rfl) (by kernel_rfl) e4
                   exact StepI.skip rfl (unwanted_at rfl rfl hg rfl) ⟨rfl, hI⟩
                 · intro us au w1 k7 hlo hhi ha hd hst hI
                   obtain rfl : k7 = 0 := by omega
                   have e4 := hd 4 _ (by kernel_rfl) rfl
                   have hg := slot_at (t := 56) 4 ha (by kernel_rfl) (by kernel_rfl) (by kernel_rfl) e4
                   exact StepI.skip rfl (unwanted_at rfl rfl hg rfl) ⟨rfl, hI⟩
                 · intro us au w1 k8 hlo hhi ha hd hst hI
                   obtain rfl : k8 = 0 := by omega
                   have e4 := hd 4 _ (by kernel_rfl) rfl
                   have hg := slot_at (t := 56) 4 ha (by kernel_rfl) (by kernel_rfl) (by kernel_rfl) e4
                   exact StepI.skip rfl (unwanted_at rfl rfl hg rfl) ⟨rfl, hI⟩
                 · intro us au w1 k9 hlo hhi ha hd hst hI
                   obtain rfl : k9 = 0 := by omega
                   have e8 := hd 8 _ (by kernel_rfl) rfl
                   have hg := slot_at (t := 60) 8 ha (by kernel_rfl) (by kernel_rfl) (by kernel_rfl) e8
                   exact StepI.skip rfl (unwanted_undef rfl rfl hg) ⟨rfl, hI⟩
                 · intro us au w1 k10 hlo hhi ha hd hst hI
                   obtain rfl : k10 = 0 := by omega
                   have e8 := hd 8 _ (by kernel_rfl) rfl
                   have hg := slot_at (t := 60) 8 ha (by kernel_rfl) (by kernel_rfl) (by kernel_rfl) e8
                   exact StepI.skip rfl (unwanted_undef rfl rfl hg) ⟨rfl, hI⟩
                 · intro us au w1 k11 hlo hhi ha hd hst hI
                   obtain rfl : k11 = 0 := by omega
                   have e8 := hd 8 _ (by kernel_rfl) rfl
                   have hg := slot_at (t := 60) 8 ha (by kernel_rfl) (by kernel_rfl) (by kernel_rfl) e8
                   exact StepI.skip rfl (unwanted_undef rfl rfl hg) ⟨rfl, hI⟩
                 · intro us au w1 k12 hlo hhi ha hd hst hI
                   obtain rfl : k12 = 0 := by omega
                   have e8 := hd 8 _ (by kernel_rfl) rfl
                   have hg := slot_at (t := 60) 8 ha (by kernel_rfl) (by kernel_rfl) (by kernel_rfl) e8
                   exact StepI.skip rfl (unwanted_undef rfl rfl hg) ⟨rfl, hI⟩
                 · intro us au w1 k13 hlo hhi ha hd hst hI
                   obtain rfl : k13 = 0 := by omega
                   have e8 := hd 8 _ (by kernel_rfl) rfl
                   have hg := slot_at (t := 60) 8 ha (by kernel_rfl) (by kernel_rfl) (by kernel_rfl) e8
                   exact StepI.skip rfl (unwanted_undef rfl rfl hg) ⟨rfl, hI⟩
                 · intro us au w1 k14 hlo hhi ha hd hst hI
                   obtain rfl : k14 = 0 := by omega
                   have e8 := hd 8 _ (by kernel_rfl) rfl
                   have hg := slot_at (t := 60) 8 ha (by kernel_rfl) (by kernel_rfl) (by kernel_rfl) e8
                   exact StepI.skip rfl (unwanted_undef rfl rfl hg) ⟨rfl, hI⟩
                 · intro us au w1 k15 hlo hhi ha hd hst hI
                   obtain rfl : k15 = 0 := by omega
                   have e8 := hd 8 _ (by kernel_rfl) rfl
                   have hg := slot_at (t := 60) 8 ha (by kernel_rfl) (by kernel_rfl) (by kernel_rfl) e8
                   exact StepI.skip rfl (unwanted_undef rfl rfl hg) ⟨rfl, hI⟩
                 · intro us au w1 k16 hlo hhi ha hd hst hI
                   obtain rfl : k16 = 0 := by omega
                   have e8 := hd 8 _ (by kernel_rfl) rfl
                   have hg := slot_at (t := 60) 8 ha (by kernel_rfl) (by kernel_rfl) (by kernel_rfl) e8
                   exact StepI.skip rfl (unwanted_undef rfl rfl hg) ⟨rfl, hI⟩
                 · intro us au w1 k17 hlo hhi ha hd hst hI
                   obtain rfl : k17 = 0 := by omega
                   have e8 := hd 8 _ (by kernel_rfl) rfl
                   have hg := slot_at (t := 60) 8 ha (by kernel_rfl) (by kernel_rfl) (by kernel_rfl) e8
                   exact StepI.skip rfl (unwanted_undef rfl rfl hg) ⟨rfl, hI⟩
                 · intro us au w1 k18 hlo hhi ha hd hst hI
                   obtain rfl : k18 = 0 := by omega
                   have e4 := hd 4 _ (by kernel_rfl) rfl
                   have hg := slot_at (t := 56) 4 ha (by kernel_rfl) (by kernel_rfl) (by kernel_rfl) e4
                   exact StepI.skip rfl (unwanted_at rfl rfl hg rfl) ⟨rfl, hI⟩
                 · intro us au w1 k19 hlo hhi ha hd hst hI
                   obtain rfl : k19 = 0 := by omega
                   have e4 := hd 4 _ (by kernel_rfl) rfl
                   have e18 := hd 18 _ (by kernel_rfl) rfl
                   have q56 := slot_at (t := 56) 4 ha (by kernel_rfl) (by kernel_rfl) (by kernel_rfl) e4
                   have p56 := slot_norm q56
                   have q70 := slot_at (t := 70) 18 ha (by kernel_rfl) (by kernel_rfl) (by kernel_rfl) e18
                   have p70 := slot_norm q70
                   clear ha hd hst
                   exact StepI.pure (v := .bool true) rfl rfl (by go_simp) ⟨rfl, hI⟩
                case done =>
                 intro us w1 hI hd
                 have e19 := hd 19 _ (by decide) rfl
                 have HBQ := Lib.hid hI
                 clear hd hI
                 simp only [putAll]
                 go_simp
                 go_wp2
                 go_meet
                 exact ⟨⟨_, rfl, by simp⟩, HBQ.out⟩
               case false =>
                by_cases hL0 : L.length = 0
                · have HLO : Hid (lastOk L ⟨xm, xn, xi⟩ = true) := Lib.hid (by rw [List.eq_nil_of_length_eq_zero hL0]; rfl)
                  have dl : decide ((0 : Int) < (L.length : Int)) = false := decide_eq_false (by omega)
                  have dl' : decide (0 < L.length) = false := decide_eq_false (by omega)
                  clear hL0
                  refine wp_region_ph (by kernel_rfl) [] [.span 0 0, .span 0 0, .span 0 0, .span 0 0, .span 0 0, .span 0 0, .span 0 0, .span 0 0, .span 0 0, .span 0 0, .span 0 0, .span 0 0, .span 0 0, .span 0 0, .span 0 0, .span 0 0, .span 0 0, .span 0 0, .span 0 0, .span 0 0] [fun z9 => z9 = .pointer (some ⟨g, 2, none⟩), fun z9 => z9 = .string xi, fun z9 => z9 = .string zeroS, fun z9 => z9 = .bool false, fun z9 => z9 = .bool false, fun z9 => z9 = .slice Av L.length cv, fun z9 => z9 = .int .i64 (L.length : Int), fun z9 => z9 = .bool false, fun z9 => z9 = .bool false, fun z9 => z9 = undef, fun z9 => z9 = undef, fun z9 => z9 = undef, fun z9 => z9 = undef, fun z9 => z9 = undef, fun z9 => z9 = undef, fun z9 => z9 = undef, fun z9 => z9 = undef, fun z9 => z9 = undef, fun z9 => z9 = .bool false, fun z9 => z9 = .bool false] ((fun _ w => Below w7.heap.size w7 w)) (by kernel_rfl) (by kernel_rfl) (by kernel_rfl) (by kernel_rfl) (by kernel_rfl) (by kernel_rfl) rfl rfl ((Below.refl _ _).drew) ?steps ?done
                  case steps =>
                   refine ⟨?_, ?_, ?_, ?_, ?_, ?_, ?_, ?_, ?_, ?_, ?_, ?_, ?_, ?_, ?_, ?_, ?_, ?_, ?_, ?_, trivial⟩
                   · intro us au w1 k0 hlo hhi ha hd hst hI
                     obtain rfl : k0 = 0 := by omega
                     have q10 := slot_far (t := 10) (v := .pointer (some ⟨g, 0, none⟩)) ha (by kernel_rfl) (by kernel_rfl)
                     have p10 := slot_norm q10
                     clear ha hd hst
                     exact StepI.pure (v := .pointer (some ⟨g, 2, none⟩)) rfl rfl (by go_simp) ⟨rfl, hI⟩
                   · intro us au w1 k1 hlo hhi ha hd hst hI
                     obtain rfl : k1 = 0 := by omega
                     have e0 := hd 0 _ (by kernel_rfl) rfl
                     have q52 := slot_at (t := 52) 0 ha (by kernel_rfl) (by kernel_rfl) (by kernel_rfl) e0
                     have p52 := slot_norm q52
                     clear ha hd hst
                     have kk : w1.cell? ⟨g, 2, none⟩ = some (.string xi) := (HC7.out.below hI HC7.out.blk).cell 2 (by decide)
                     exact StepI.pure (v := .string xi) rfl rfl (by go_simp) ⟨rfl, hI⟩
                   · intro us au w1 k2 hlo hhi ha hd hst hI
                     obtain rfl : k2 = 0 := by omega
                     clear ha hd hst
                     refine StepI.call (f := 69) (args := #[]) rfl rfl (by go_simp) ?_
                     refine (rzero_any w1).mono ?_
                     rintro e w5 ⟨rfl, rfl⟩
                     exact ⟨_, rfl, rfl, hI⟩
                   · intro us au w1 k3 hlo hhi ha hd hst hI
                     obtain rfl : k3 = 0 := by omega
                     have e1 := hd 1 _ (by kernel_rfl) rfl
                     have e2 := hd 2 _ (by kernel_rfl) rfl
                     have q53 := slot_at (t := 53) 1 ha (by kernel_rfl) (by kernel_rfl) (by kernel_rfl) e1
                     have p53 := slot_norm q53
                     have q54 := slot_at (t := 54) 2 ha (by kernel_rfl) (by kernel_rfl) (by kernel_rfl) e2
                     have p54 := slot_norm q54
                     clear ha hd hst
                     exact StepI.pure (v := .bool false) rfl rfl (by go_simp) ⟨rfl, hI⟩
                   · intro us au w1 k4 hlo hhi ha hd hst hI
                     obtain rfl : k4 = 0 := by omega
                     have e3 := hd 3 _ (by kernel_rfl) rfl
                     have q55 := slot_at (t := 55) 3 ha (by kernel_rfl) (by kernel_rfl) (by kernel_rfl) e3
                     have p55 := slot_norm q55
                     clear ha hd hst
                     exact StepI.pure (v := .bool false) rfl rfl (by go_simp) ⟨rfl, hI⟩
                   · intro us au w1 k5 hlo hhi ha hd hst hI
                     obtain rfl : k5 = 0 := by omega
                     have e4 := hd 4 _ (by kernel_rfl) rfl
                     have q4 := slot_far (t := 4) (v := .slice Av L.length cv) ha (by kernel_rfl) (by kernel_rfl)
                     have p4 := slot_norm q4
                     have hg := slot_at (t := 56) 4 ha (by kernel_rfl) (by kernel_rfl) (by kernel_rfl) e4
                     clear ha hd hst
                     exact StepI.pure (v := .slice Av L.length cv) rfl (wanted_at rfl rfl hg) (by go_simp) ⟨rfl, hI⟩
                   · intro us au w1 k6 hlo hhi ha hd hst hI
                     obtain rfl : k6 = 0 := by omega
                     have e5 := hd 5 _ (by kernel_rfl) rfl
                     have e4 := hd 4 _ (by kernel_rfl) rfl
                     have q57 := slot_at (t := 57) 5 ha (by kernel_rfl) (by kernel_rfl) (by kernel_rfl) e5
                     have p57 := slot_norm q57
                     have hg := slot_at (t := 56) 4 ha (by kernel_rfl) (by kernel_rfl) (by kernel_rfl) e4
                     clear ha hd hst
                     exact StepI.pure (v := .int .i64 (L.length : Int)) rfl (wanted_at rfl rfl hg) (by go_simp) ⟨rfl, hI⟩
                   · intro us au w1 k7 hlo hhi ha hd hst hI
                     obtain rfl : k7 = 0 := by omega
                     have e6 := hd 6 _ (by kernel_rfl) rfl
                     have e4 := hd 4 _ (by kernel_rfl) rfl
                     have q58 := slot_at (t := 58) 6 ha (by kernel_rfl) (by kernel_rfl) (by kernel_rfl) e6
                     have p58 := slot_norm q58
                     have hg := slot_at (t := 56) 4 ha (by kernel_rfl) (by kernel_rfl) (by kernel_rfl) e4
                     clear ha hd hst
                     exact StepI.pure (v := .bool false) rfl (wanted_at rfl rfl hg) (by go_simp) ⟨rfl, hI⟩
                   · intro us au w1 k8 hlo hhi ha hd hst hI
                     obtain rfl : k8 = 0 := by omega
                     have e7 := hd 7 _ (by kernel_rfl) rfl
                     have e4 := hd 4 _ (by kernel_rfl) rfl
                     have q59 := slot_at (t := 59) 7 ha (by kernel_rfl) (by kernel_rfl) (by kernel_rfl) e7
                     have p59 := slot_norm q59
                     have hg := slot_at (t := 56) 4 ha (by kernel_rfl) (by kernel_rfl) (by kernel_rfl) e4
                     clear ha hd hst
                     exact StepI.pure (v := .bool false) rfl (wanted_at rfl rfl hg) (by go_simp) ⟨rfl, hI⟩
                   · intro us au w1 k9 hlo hhi ha hd hst hI
                     obtain rfl : k9 = 0 := by omega
                     have e8 := hd 8 _ (by kernel_rfl) rfl
                     have hg := slot_at (t := 60) 8 ha (by kernel_rfl) (by kernel_rfl) (by kernel_rfl) e8
                     exact StepI.skip rfl (unwanted_at rfl rfl hg rfl) ⟨rfl, hI⟩
                   · intro us au w1 k10 hlo hhi ha hd hst hI
                     obtain rfl : k10 = 0 := by omega
                     have e8 := hd 8 _ (by kernel_rfl) rfl
                     have hg := slot_at (t := 60) 8 ha (by kernel_rfl) (by kernel_rfl) (by kernel_rfl) e8
                     exact StepI.skip rfl (unwanted_at rfl rfl hg rfl) ⟨rfl, hI⟩
                   · intro us au w1 k11 hlo hhi ha hd hst hI
                     obtain rfl : k11 = 0 := by omega
                     have e8 := hd 8 _ (by kernel_rfl) rfl
                     have hg := slot_at (t := 60) 8 ha (by kernel_rfl) (by kernel_rfl) (by kernel_rfl) e8
                     exact StepI.skip rfl (unwanted_at rfl rfl hg rfl) ⟨rfl, hI⟩
                   · intro us au w1 k12 hlo hhi ha hd hst hI
                     obtain rfl : k12 = 0 := by omega
                     have e8 := hd 8 _ (by kernel_rfl) rfl
                     have hg := slot_at (t := 60) 8 ha (by kernel_rfl) (by kernel_rfl) (by kernel_rfl) e8
                     exact StepI.skip rfl (unwanted_at rfl rfl hg rfl) ⟨rfl, hI⟩
                   · intro us au w1 k13 hlo hhi ha hd hst hI
                     obtain rfl : k13 = 0 := by omega
                     have e8 := hd 8 _ (by kernel_rfl) rfl
                     have hg := slot_at (t := 60) 8 ha (by kernel_rfl) (by kernel_rfl) (by kernel_rfl) e8
                     exact StepI.skip rfl (unwanted_at rfl rfl hg rfl) ⟨rfl, hI⟩
                   · intro us au w1 k14 hlo hhi ha hd hst hI
                     obtain rfl : k14 = 0 := by omega
                     have e8 := hd 8 _ (by kernel_rfl) rfl
                     have hg := slot_at (t := 60) 8 ha (by kernel_rfl) (by kernel_rfl) (by kernel_rfl) e8
                     exact StepI.skip rfl (unwanted_at rfl rfl hg rfl) ⟨rfl, hI⟩
                   · intro us au w1 k15 hlo hhi ha hd hst hI
                     obtain rfl : k15 = 0 := by omega
                     have e8 := hd 8 _ (by kernel_rfl) rfl
                     have hg := slot_at (t := 60) 8 ha (by kernel_rfl) (by kernel_rfl) (by kernel_rfl) e8
                     exact StepI.skip rfl (unwanted_at rfl rfl hg rfl) ⟨rfl, hI⟩
                   · intro us au w1 k16 hlo hhi ha hd hst hI
                     obtain rfl : k16 = 0 := by omega
                     have e8 := hd 8 _ (by kernel_rfl) rfl
                     have hg := slot_at (t := 60) 8 ha (by kernel_rfl) (by kernel_rfl) (by kernel_rfl) e8
                     exact StepI.skip rfl (unwanted_at rfl rfl hg rfl) ⟨rfl, hI⟩
                   · intro us au w1 k17 hlo hhi ha hd hst hI
                     obtain rfl : k17 = 0 := by omega
                     have e8 := hd 8 _ (by kernel_rfl) rfl
                     have hg := slot_at (t := 60) 8 ha (by kernel_rfl) (by kernel_rfl) (by kernel_rfl) e8
                     exact StepI.skip rfl (unwanted_at rfl rfl hg rfl) ⟨rfl, hI⟩
                   · intro us au w1 k18 hlo hhi ha hd hst hI
                     obtain rfl : k18 = 0 := by omega
                     have e8 := hd 8 _ (by kernel_rfl) rfl
                     have e17 := hd 17 _ (by kernel_rfl) rfl
                     have e4 := hd 4 _ (by kernel_rfl) rfl
                     have q60 := slot_at (t := 60) 8 ha (by kernel_rfl) (by kernel_rfl) (by kernel_rfl) e8
                     have p60 := slot_norm q60
                     have q69 := slot_at (t := 69) 17 ha (by kernel_rfl) (by kernel_rfl) (by kernel_rfl) e17
                     have p69 := slot_norm q69
                     have hg := slot_at (t := 56) 4 ha (by kernel_rfl) (by kernel_rfl) (by kernel_rfl) e4
                     clear ha hd hst
                     exact StepI.pure (v := .bool false) rfl (wanted_at rfl rfl hg) (by go_simp) ⟨rfl, hI⟩
                   · intro us au w1 k19 hlo hhi ha hd hst hI
                     obtain rfl : k19 = 0 := by omega
                     have e4 := hd 4 _ (by kernel_rfl) rfl
                     have e18 := hd 18 _ (by kernel_rfl) rfl
                     have q56 := slot_at (t := 56) 4 ha (by kernel_rfl) (by kernel_rfl) (by kernel_rfl) e4
                     have p56 := slot_norm q56
                     have q70 := slot_at (t := 70) 18 ha (by kernel_rfl) (by kernel_rfl) (by kernel_rfl) e18
                     have p70 := slot_norm q70
                     clear ha hd hst
                     exact StepI.pure (v := .bool false) rfl rfl (by go_simp) ⟨rfl, hI⟩
                  case done =>
                   intro us w1 hI hd
                   have e19 := hd 19 _ (by decide) rfl
                   have HBQ := Lib.hid hI
                   clear hd hI
                   simp only [putAll]
                   go_simp
                   go_wp2
                   go_meet
                   exact ⟨⟨_, rfl, by rw [HLO.out]; simp⟩, HBQ.out⟩
                · have dl : decide ((0 : Int) < (L.length : Int)) = true := decide_eq_true (by omega)
                  have dl' : decide (0 < L.length) = true := decide_eq_true (by omega)
                  obtain ⟨lq, hlq⟩ : ∃ lq : Nat, lq = L.length - 1 := ⟨_, rfl⟩
                  obtain ⟨y, hy⟩ : ∃ y, L[lq]? = some y := ⟨_, List.getElem?_eq_getElem (by omega)⟩
                  have HLO : Hid (lastOk L ⟨xm, xn, xi⟩ = lessB y.m y.n xm xn) := Lib.hid (by
                   unfold lastOk
                   rw [List.getLast?_eq_getElem?, ← hlq, hy])
                  have hysz := HYS.out y (List.mem_of_getElem? hy)
                  obtain ⟨eb, eo, rfl, hebl, hecell⟩ := HO7.out.entsAt (by omega)
                  have HY0 := Lib.hid (fun w1 (hb : Below w7.heap.size w7 w1) => (hb.cell (p := ⟨eb, eo + lq * 3, none⟩) hebl).trans (hecell lq y hy).1)
                  have HY1 := Lib.hid (fun w1 (hb : Below w7.heap.size w7 w1) => (hb.cell (p := ⟨eb, eo + lq * 3 + 1, none⟩) hebl).trans (hecell lq y hy).2.1)
                  have HY2 := Lib.hid (fun w1 (hb : Below w7.heap.size w7 w1) => (hb.cell (p := ⟨eb, eo + lq * 3 + 2, none⟩) hebl).trans (hecell lq y hy).2.2)
                  have HLS := Lib.hid (fun w1 => lessR_any y.m y.n y.i xm xn xi w1 (by have := HS.out; omega) (by have := HZN.out; have := HS.out; omega))
                  have ql : IntKind.i64.wrap ((L.length : Int) - 1) = (lq : Int) := by rw [IntWalk.i64_in _ (by have := HN.out; have := HS.out; omega)]; omega
                  have qlt : lq < L.length := by omega
                  generalize lessB y.m y.n xm xn = lb at *
                  clear hy hysz hecell hebl hlq
                  refine wp_region_ph (by kernel_rfl) [] [.span 0 0, .span 0 0, .span 0 0, .span 0 0, .span 0 0, .span 0 0, .span 0 0, .span 0 0, .span 0 0, .span 0 0, .span 0 0, .span 0 0, .span 0 0, .span 0 0, .span 0 0, .span 0 0, .span 0 0, .span 0 0, .span 0 0, .span 0 0] [fun z9 => z9 = .pointer (some ⟨g, 2, none⟩), fun z9 => z9 = .string xi, fun z9 => z9 = .string zeroS, fun z9 => z9 = .bool false, fun z9 => z9 = .bool false, fun z9 => z9 = .slice (some ⟨eb, eo, none⟩) L.length cv, fun z9 => z9 = .int .i64 (L.length : Int), fun z9 => z9 = .bool true, fun z9 => z9 = .bool true, fun z9 => z9 = .slice (some ⟨eb, eo, none⟩) L.length cv, fun z9 => z9 = .slice (some ⟨eb, eo, none⟩) L.length cv, fun z9 => z9 = .int .i64 (L.length : Int), fun z9 => z9 = .int .i64 (lq : Int), fun z9 => z9 = .pointer (some ⟨eb, eo + lq * 3, none⟩), fun z9 => z9 = .agg #[.string y.m, .string y.n, .string y.i], fun z9 => z9 = .agg #[.string xm, .string xn, .string xi], fun z9 => z9 = .bool lb, fun z9 => z9 = .bool (!lb), fun z9 => z9 = .bool (!lb), fun z9 => z9 = .bool (!lb)] ((fun _ w => Below w7.heap.size w7 w)) (by kernel_rfl) (by kernel_rfl) (by kernel_rfl) (by kernel_rfl) (by kernel_rfl) (by kernel_rfl) rfl rfl ((Below.refl _ _).drew) ?steps ?done
                  case steps =>
                   refine ⟨?_, ?_, ?_, ?_, ?_, ?_, ?_, ?_, ?_, ?_, ?_, ?_, ?_, ?_, ?_, ?_, ?_, ?_, ?_, ?_, trivial⟩
                   · intro us au w1 k0 hlo hhi ha hd hst hI
                     obtain rfl : k0 = 0 := by omega
                     have q10 := slot_far (t := 10) (v := .pointer (some ⟨g, 0, none⟩)) ha (by kernel_rfl) (by kernel_rfl)
                     have p10 := slot_norm q10
                     clear ha hd hst
                     exact StepI.pure (v := .pointer (some ⟨g, 2, none⟩)) rfl rfl (by go_simp) ⟨rfl, hI⟩
                   · intro us au w1 k1 hlo hhi ha hd hst hI
                     obtain rfl : k1 = 0 := by omega
                     have e0 := hd 0 _ (by kernel_rfl) rfl
                     have q52 := slot_at (t := 52) 0 ha (by kernel_rfl) (by kernel_rfl) (by kernel_rfl) e0
                     have p52 := slot_norm q52
                     clear ha hd hst
                     have kk : w1.cell? ⟨g, 2, none⟩ = some (.string xi) := (HC7.out.below hI HC7.out.blk).cell 2 (by decide)
                     exact StepI.pure (v := .string xi) rfl rfl (by go_simp) ⟨rfl, hI⟩
                   · intro us au w1 k2 hlo hhi ha hd hst hI
                     obtain rfl : k2 = 0 := by omega
                     clear ha hd hst
                     refine StepI.call (f := 69) (args := #[]) rfl rfl (by go_simp) ?_
                     refine (rzero_any w1).mono ?_
                     rintro e w5 ⟨rfl, rfl⟩
                     exact ⟨_, rfl, rfl, hI⟩
                   · intro us au w1 k3 hlo hhi ha hd hst hI
                     obtain rfl : k3 = 0 := by omega
                     have e1 := hd 1 _ (by kernel_rfl) rfl
                     have e2 := hd 2 _ (by kernel_rfl) rfl
                     have q53 := slot_at (t := 53) 1 ha (by kernel_rfl) (by kernel_rfl) (by kernel_rfl) e1
                     have p53 := slot_norm q53
                     have q54 := slot_at (t := 54) 2 ha (by kernel_rfl) (by kernel_rfl) (by kernel_rfl) e2
                     have p54 := slot_norm q54
                     clear ha hd hst
                     exact StepI.pure (v := .bool false) rfl rfl (by go_simp) ⟨rfl, hI⟩
                   · intro us au w1 k4 hlo hhi ha hd hst hI
                     obtain rfl : k4 = 0 := by omega
                     have e3 := hd 3 _ (by kernel_rfl) rfl
                     have q55 := slot_at (t := 55) 3 ha (by kernel_rfl) (by kernel_rfl) (by kernel_rfl) e3
                     have p55 := slot_norm q55
                     clear ha hd hst
                     exact StepI.pure (v := .bool false) rfl rfl (by go_simp) ⟨rfl, hI⟩
                   · intro us au w1 k5 hlo hhi ha hd hst hI
                     obtain rfl : k5 = 0 := by omega
                     have e4 := hd 4 _ (by kernel_rfl) rfl
                     have q4 := slot_far (t := 4) (v := .slice (some ⟨eb, eo, none⟩) L.length cv) ha (by kernel_rfl) (by kernel_rfl)
                     have p4 := slot_norm q4
                     have hg := slot_at (t := 56) 4 ha (by kernel_rfl) (by kernel_rfl) (by kernel_rfl) e4
                     clear ha hd hst
                     exact StepI.pure (v := .slice (some ⟨eb, eo, none⟩) L.length cv) rfl (wanted_at rfl rfl hg) (by go_simp) ⟨rfl, hI⟩
                   · intro us au w1 k6 hlo hhi ha hd hst hI
                     obtain rfl : k6 = 0 := by omega
                     have e5 := hd 5 _ (by kernel_rfl) rfl
                     have e4 := hd 4 _ (by kernel_rfl) rfl
                     have q57 := slot_at (t := 57) 5 ha (by kernel_rfl) (by kernel_rfl) (by kernel_rfl) e5
                     have p57 := slot_norm q57
                     have hg := slot_at (t := 56) 4 ha (by kernel_rfl) (by kernel_rfl) (by kernel_rfl) e4
                     clear ha hd hst
                     exact StepI.pure (v := .int .i64 (L.length : Int)) rfl (wanted_at rfl rfl hg) (by go_simp) ⟨rfl, hI⟩
                   · intro us au w1 k7 hlo hhi ha hd hst hI
                     obtain rfl : k7 = 0 := by omega
                     have e6 := hd 6 _ (by kernel_rfl) rfl
                     have e4 := hd 4 _ (by kernel_rfl) rfl
                     have q58 := slot_at (t := 58) 6 ha (by kernel_rfl) (by kernel_rfl) (by kernel_rfl) e6
                     have p58 := slot_norm q58
                     have hg := slot_at (t := 56) 4 ha (by kernel_rfl) (by kernel_rfl) (by kernel_rfl) e4
                     clear ha hd hst
                     exact StepI.pure (v := .bool true) rfl (wanted_at rfl rfl hg) (by go_simp) ⟨rfl, hI⟩
                   · intro us au w1 k8 hlo hhi ha hd hst hI
                     obtain rfl : k8 = 0 := by omega
                     have e7 := hd 7 _ (by kernel_rfl) rfl
                     have e4 := hd 4 _ (by kernel_rfl) rfl
                     have q59 := slot_at (t := 59) 7 ha (by kernel_rfl) (by kernel_rfl) (by kernel_rfl) e7
                     have p59 := slot_norm q59
                     have hg := slot_at (t := 56) 4 ha (by kernel_rfl) (by kernel_rfl) (by kernel_rfl) e4
                     clear ha hd hst
                     exact StepI.pure (v := .bool true) rfl (wanted_at rfl rfl hg) (by go_simp) ⟨rfl, hI⟩
                   · intro us au w1 k9 hlo hhi ha hd hst hI
                     obtain rfl : k9 = 0 := by omega
                     have e8 := hd 8 _ (by kernel_rfl) rfl
                     have q4 := slot_far (t := 4) (v := .slice (some ⟨eb, eo, none⟩) L.length cv) ha (by kernel_rfl) (by kernel_rfl)
                     have p4 := slot_norm q4
                     have hg := slot_at (t := 60) 8 ha (by kernel_rfl) (by kernel_rfl) (by kernel_rfl) e8
                     clear ha hd hst
                     exact StepI.pure (v := .slice (some ⟨eb, eo, none⟩) L.length cv) rfl (wanted_at rfl rfl hg) (by go_simp) ⟨rfl, hI⟩
                   · intro us au w1 k10 hlo hhi ha hd hst hI
                     obtain rfl : k10 = 0 := by omega
                     have e8 := hd 8 _ (by kernel_rfl) rfl
                     have q4 := slot_far (t := 4) (v := .slice (some ⟨eb, eo, none⟩) L.length cv) ha (by kernel_rfl) (by kernel_rfl)
                     have p4 := slot_norm q4
                     have hg := slot_at (t := 60) 8 ha (by kernel_rfl) (by kernel_rfl) (by kernel_rfl) e8
                     clear ha hd hst
                     exact StepI.pure (v := .slice (some ⟨eb, eo, none⟩) L.length cv) rfl (wanted_at rfl rfl hg) (by go_simp) ⟨rfl, hI⟩
                   · intro us au w1 k11 hlo hhi ha hd hst hI
                     obtain rfl : k11 = 0 := by omega
                     have e10 := hd 10 _ (by kernel_rfl) rfl
                     have e8 := hd 8 _ (by kernel_rfl) rfl
                     have q62 := slot_at (t := 62) 10 ha (by kernel_rfl) (by kernel_rfl) (by kernel_rfl) e10
                     have p62 := slot_norm q62
                     have hg := slot_at (t := 60) 8 ha (by kernel_rfl) (by kernel_rfl) (by kernel_rfl) e8
                     clear ha hd hst
                     exact StepI.pure (v := .int .i64 (L.length : Int)) rfl (wanted_at rfl rfl hg) (by go_simp) ⟨rfl, hI⟩
                   · intro us au w1 k12 hlo hhi ha hd hst hI
                     obtain rfl : k12 = 0 := by omega
                     have e11 := hd 11 _ (by kernel_rfl) rfl
                     have e8 := hd 8 _ (by kernel_rfl) rfl
                     have q63 := slot_at (t := 63) 11 ha (by kernel_rfl) (by kernel_rfl) (by kernel_rfl) e11
                     have p63 := slot_norm q63
                     have hg := slot_at (t := 60) 8 ha (by kernel_rfl) (by kernel_rfl) (by kernel_rfl) e8
                     clear ha hd hst
                     exact StepI.pure (v := .int .i64 (lq : Int)) rfl (wanted_at rfl rfl hg) (by go_simp) ⟨rfl, hI⟩
                   · intro us au w1 k13 hlo hhi ha hd hst hI
                     obtain rfl : k13 = 0 := by omega
                     have e9 := hd 9 _ (by kernel_rfl) rfl
                     have e12 := hd 12 _ (by kernel_rfl) rfl
                     have e8 := hd 8 _ (by kernel_rfl) rfl
                     have q61 := slot_at (t := 61) 9 ha (by kernel_rfl) (by kernel_rfl) (by kernel_rfl) e9
                     have p61 := slot_norm q61
                     have q64 := slot_at (t := 64) 12 ha (by kernel_rfl) (by kernel_rfl) (by kernel_rfl) e12
                     have p64 := slot_norm q64
                     have hg := slot_at (t := 60) 8 ha (by kernel_rfl) (by kernel_rfl) (by kernel_rfl) e8
                     clear ha hd hst
                     exact StepI.pure (v := .pointer (some ⟨eb, eo + lq * 3, none⟩)) rfl (wanted_at rfl rfl hg) (by go_simp) ⟨rfl, hI⟩
                   · intro us au w1 k14 hlo hhi ha hd hst hI
                     obtain rfl : k14 = 0 := by omega
                     have e13 := hd 13 _ (by kernel_rfl) rfl
                     have e8 := hd 8 _ (by kernel_rfl) rfl
                     have q65 := slot_at (t := 65) 13 ha (by kernel_rfl) (by kernel_rfl) (by kernel_rfl) e13
                     have p65 := slot_norm q65
                     have hg := slot_at (t := 60) 8 ha (by kernel_rfl) (by kernel_rfl) (by kernel_rfl) e8
                     clear ha hd hst
                     have ky0 := HY0.out w1 hI
                     have ky1 := HY1.out w1 hI
                     have ky2 := HY2.out w1 hI
                     exact StepI.pure (v := .agg #[.string y.m, .string y.n, .string y.i]) rfl (wanted_at rfl rfl hg) (by go_simp) ⟨rfl, hI⟩
                   · intro us au w1 k15 hlo hhi ha hd hst hI
                     obtain rfl : k15 = 0 := by omega
                     have e8 := hd 8 _ (by kernel_rfl) rfl
                     have q10 := slot_far (t := 10) (v := .pointer (some ⟨g, 0, none⟩)) ha (by kernel_rfl) (by kernel_rfl)
                     have p10 := slot_norm q10
                     have hg := slot_at (t := 60) 8 ha (by kernel_rfl) (by kernel_rfl) (by kernel_rfl) e8
                     clear ha hd hst
                     have hcx := HC7.out.below hI HC7.out.blk
                     have kx0 : w1.cell? ⟨g, 0, none⟩ = some (.string xm) := hcx.cell 0 (by decide)
                     have kx1 : w1.cell? ⟨g, 1, none⟩ = some (.string xn) := hcx.cell 1 (by decide)
                     have kx2 : w1.cell? ⟨g, 2, none⟩ = some (.string xi) := hcx.cell 2 (by decide)
                     exact StepI.pure (v := .agg #[.string xm, .string xn, .string xi]) rfl (wanted_at rfl rfl hg) (by go_simp) ⟨rfl, hI⟩
                   · intro us au w1 k16 hlo hhi ha hd hst hI
                     obtain rfl : k16 = 0 := by omega
                     have e14 := hd 14 _ (by kernel_rfl) rfl
                     have e15 := hd 15 _ (by kernel_rfl) rfl
                     have e8 := hd 8 _ (by kernel_rfl) rfl
                     have q66 := slot_at (t := 66) 14 ha (by kernel_rfl) (by kernel_rfl) (by kernel_rfl) e14
                     have p66 := slot_norm q66
                     have q67 := slot_at (t := 67) 15 ha (by kernel_rfl) (by kernel_rfl) (by kernel_rfl) e15
                     have p67 := slot_norm q67
                     have hg := slot_at (t := 60) 8 ha (by kernel_rfl) (by kernel_rfl) (by kernel_rfl) e8
                     clear ha hd hst
                     refine StepI.call (f := 70) (args := #[.agg #[.string y.m, .string y.n, .string y.i], .agg #[.string xm, .string xn, .string xi]]) rfl (wanted_at rfl rfl hg) (by go_simp) ?_
                     refine (HLS.out w1).mono ?_
                     rintro e w5 ⟨rfl, hb⟩
                     exact ⟨_, rfl, rfl, Below.trans hI (hb.mono (Below.size hI))⟩
                   · intro us au w1 k17 hlo hhi ha hd hst hI
                     obtain rfl : k17 = 0 := by omega
                     have e16 := hd 16 _ (by kernel_rfl) rfl
                     have e8 := hd 8 _ (by kernel_rfl) rfl
                     have q68 := slot_at (t := 68) 16 ha (by kernel_rfl) (by kernel_rfl) (by kernel_rfl) e16
                     have p68 := slot_norm q68
                     have hg := slot_at (t := 60) 8 ha (by kernel_rfl) (by kernel_rfl) (by kernel_rfl) e8
                     clear ha hd hst
                     exact StepI.pure (v := .bool (!lb)) rfl (wanted_at rfl rfl hg) (by go_simp) ⟨rfl, hI⟩
                   · intro us au w1 k18 hlo hhi ha hd hst hI
                     obtain rfl : k18 = 0 := by omega
                     have e8 := hd 8 _ (by kernel_rfl) rfl
                     have e17 := hd 17 _ (by kernel_rfl) rfl
                     have e4 := hd 4 _ (by kernel_rfl) rfl
                     have q60 := slot_at (t := 60) 8 ha (by kernel_rfl) (by kernel_rfl) (by kernel_rfl) e8
                     have p60 := slot_norm q60
                     have q69 := slot_at (t := 69) 17 ha (by kernel_rfl) (by kernel_rfl) (by kernel_rfl) e17
                     have p69 := slot_norm q69
                     have hg := slot_at (t := 56) 4 ha (by kernel_rfl) (by kernel_rfl) (by kernel_rfl) e4
                     clear ha hd hst
                     exact StepI.pure (v := .bool (!lb)) rfl (wanted_at rfl rfl hg) (by go_simp) ⟨rfl, hI⟩
                   · intro us au w1 k19 hlo hhi ha hd hst hI
                     obtain rfl : k19 = 0 := by omega
                     have e4 := hd 4 _ (by kernel_rfl) rfl
                     have e18 := hd 18 _ (by kernel_rfl) rfl
                     have q56 := slot_at (t := 56) 4 ha (by kernel_rfl) (by kernel_rfl) (by kernel_rfl) e4
                     have p56 := slot_norm q56
                     have q70 := slot_at (t := 70) 18 ha (by kernel_rfl) (by kernel_rfl) (by kernel_rfl) e18
                     have p70 := slot_norm q70
                     clear ha hd hst
                     exact StepI.pure (v := .bool (!lb)) rfl rfl (by go_simp) ⟨rfl, hI⟩
                  case done =>
                   intro us w1 hI hd
                   have e19 := hd 19 _ (by decide) rfl
                   have HBQ := Lib.hid hI
                   clear hd hI
                   simp only [putAll]
                   go_simp
                   go_wp2
                   go_meet
                   exact ⟨⟨_, rfl, by rw [HLO.out]; simp⟩, HBQ.out⟩
              case rest =>
               obtain ⟨⟨bd, rfl, hbd⟩, hbw⟩ := hcut
               have HBC := Lib.hid (HB7.out.trans (hbw.mono HB7.out.size))
               have HOC := Lib.hid (HO7.out.lowB hbw)
               have HCC := Lib.hid (HC7.out.below hbw HC7.out.blk)
               have HSTEP : Hid (treeF s.data.toList = if bd = true ∨ xn.data.toList ∈ L.map (fun y => y.n.data.toList) then none else treeU (f - 1) (q.data.toList.drop 20) (L ++ [⟨xm, xn, xi⟩])) := Lib.hid (by
                obtain ⟨f', rfl⟩ : ∃ f', f = f' + 1 := ⟨f - 1, by have := HN.out; omega⟩
                rw [HTF.out, treeU, if_neg HNE.out, hbd]
                cases zu
                · rw [HEY.out rfl]
                  show (if xn.data.toList ∈ L.map (fun y => y.n.data.toList) ∨ lastOk L ⟨xm, xn, xi⟩ = false then none else treeU f' (q.data.toList.drop 20) (L ++ [⟨xm, xn, xi⟩])) = _
                  by_cases hm : xn.data.toList ∈ L.map (fun y => y.n.data.toList)
                  · rw [if_pos (.inl hm), if_pos (.inr hm)]
                  · cases hlo : lastOk L ⟨xm, xn, xi⟩
                    · rw [if_pos (.inr rfl), if_pos (.inl (by simp))]
                    · rw [if_neg (by rintro (h | h); exact hm h; exact absurd h (by decide)), if_neg (by rintro (h | h); exact absurd h (by simp); exact hm h)]
                      rfl
                · rw [HEN.out rfl, if_pos (.inl (by simp))])
               clear hbd hbw hze HO7 HB7 HC7 HEN HEY
               cases bd
               case true =>
                have HNO : Hid (treeF s.data.toList = none) := Lib.hid (by rw [HSTEP.out, if_pos (.inl rfl)])
                go_wp2
                rw [HPO.out]
                exact ⟨HBC.out, .inl ⟨HNO.out, rfl⟩⟩
               case false =>
                go_wp2
                go_loopw [11] (fun v9 wx => ∃ k : Nat, v9 = .int .i64 (k : Int) ∧ k ≤ L.length ∧ wx = wc ∧ ∀ (j : Nat) (y : Ent), j < k → L[j]? = some y → y.n.data.toList ≠ xn.data.toList) (fun v9 _ => L.length - (intOf v9).toNat)
                case atStart => exact ⟨0, rfl, Nat.zero_le _, rfl, fun j y hj => by omega⟩
                case round =>
                 obtain ⟨k, rfl, hk, rfl, hno⟩ := hrel
                 have HNO2 := Lib.hid hno
                 have hLs : L.length ≤ 8796093022000 := by have := HN.out; have := HS.out; omega
                 clear hno
                 by_cases hlt : k < L.length
                 · obtain ⟨y, hy⟩ : ∃ y, L[k]? = some y := ⟨_, List.getElem?_eq_getElem hlt⟩
                   obtain ⟨eb, eo, rfl, hebl, hecell⟩ := HOC.out.entsAt (by omega)
                   have r1 := (hecell k y hy).2.1
                   have d2 : decide ((k : Int) < (L.length : Int)) = true := decide_eq_true (by omega)
                   have d2' : decide (k < L.length) = true := decide_eq_true hlt
                   clear hecell hebl
                   by_cases hyx : y.n.data.toList = xn.data.toList
                   · have HNO : Hid (treeF s.data.toList = none) := Lib.hid (by rw [HSTEP.out, if_pos (.inr (List.mem_map.2 ⟨y, List.mem_of_getElem? hy, hyx⟩))])
                     have q1 : (y.n.toList == xn.toList) = true := by rw [beq_iff_eq, Lib.toList_data, Lib.toList_data]; exact hyx
                     clear hy hyx
                     go_wp2
                     rw [HPO.out]
                     exact ⟨HBC.out, .inl ⟨HNO.out, rfl⟩⟩
                   · have q1 : (y.n.toList == xn.toList) = false := by rw [beq_eq_false_iff_ne, Lib.toList_data, Lib.toList_data]; exact hyx
                     have HNN : Hid (∀ (j : Nat) (y : Ent), j < k + 1 → L[j]? = some y → y.n.data.toList ≠ xn.data.toList) := Lib.hid (fun j y' hj hy' => by
                      by_cases e : j = k
                      · subst e; rw [hy] at hy'; injection hy' with hy'; rw [← hy']; exact hyx
                      · exact HNO2.out j y' (by omega) hy')
                     clear hy hyx
                     go_wp2
                     go_roundw
                     case rel => exact ⟨k + 1, by go_num, by omega, (by first | rfl | trivial), HNN.out⟩
                     case measure => simp [intOf]; omega
                 · obtain rfl : k = L.length := by omega
                   have d2 : decide ((L.length : Int) < (L.length : Int)) = false := decide_eq_false (by omega)
                   have d2' : decide (L.length < L.length) = false := decide_eq_false (by omega)
                   have HNXT : Hid (treeF s.data.toList = treeU (f - 1) (q.data.toList.drop 20) (L ++ [⟨xm, xn, xi⟩])) := Lib.hid (by
                    rw [HSTEP.out, if_neg]
                    rintro (h | h)
                    · exact absurd h (by decide)
                    · obtain ⟨y, hy, e⟩ := List.mem_map.1 h
                      obtain ⟨j, hj, ej⟩ := List.mem_iff_getElem.1 hy
                      exact HNO2.out j y hj (by rw [List.getElem?_eq_getElem hj, ej]) e)
                   have kx0 : wr.cell? ⟨g, 0, none⟩ = some (.string xm) := HCC.out.cell 0 (by decide)
                   have kx1 : wr.cell? ⟨g, 1, none⟩ = some (.string xn) := HCC.out.cell 1 (by decide)
                   have kx2 : wr.cell? ⟨g, 2, none⟩ = some (.string xi) := HCC.out.cell 2 (by decide)
                   have hl8 : Below wr.heap.size wr (wr.alloc (.cells #[.string xm, .string xn, .string xi] 116)) := (Below.refl _ _).alloc (Nat.le_refl _) _
                   have HO8 := Lib.hid (HOC.out.alloc (.cells #[.string xm, .string xn, .string xi] 116))
                   have HB8 := Lib.hid (HBC.out.trans (hl8.mono HBC.out.size))
                   have HSRC := Lib.hid (Src.ent (P := Tryz.prog) wr ⟨xm, xn, xi⟩ 116)
                   have hbs : w.heap.size ≤ (wr.alloc (.cells #[.string xm, .string xn, .string xi] 116)).heap.size := HB8.out.size
                   have hbyte : (L.length + 1) * 48 ≤ 140737488355328 := by have := HN.out; have := HS.out; omega
                   have hmax : L.length + 1 ≤ maxLen := by unfold maxLen; omega
                   have e20 : (q.extract 20 q.size).data.toList = q.data.toList.drop 20 := by rw [bk_extE, bk_list]
                   have z20 : (q.extract 20 q.size).size + 20 = q.size := by rw [ByteArray.size_extract]; have := HQ.out; omega
                   have HE20 := Lib.hid e20
                   have HZ20 := Lib.hid z20
                   clear hl8 e20 z20 HNO2
                   go_wp2_with (at_builtin; go_loud (refine wpList_append_S rfl (.tmp 85) (.tmp 87) 65 65 rfl i0 (.agg #[.string ⟨#[]⟩, .string ⟨#[]⟩, .string ⟨#[]⟩]) 48 (.slice 116) Tryz.underlying65 Tryz.underlying65 (fun _ h => by cases h) hi hz0 hz1 hz2 rfl rfl rfl HO8.out HSRC.out hmax hbyte hbs ?_; intro A9 c9 w9 ho9 hg9 hw9))
                   have HB9 := Lib.hid (HB8.out.grown hg9 hbs (fun j hj => (HO8.out.lt j hj).1))
                   have HO9 : Hid (OwnS w9 w.heap.size 116 3 (.slice A9 (L.length + 1) c9) (L ++ [(⟨xm, xn, xi⟩ : Ent)]).length (entVs (L ++ [⟨xm, xn, xi⟩]))) := Lib.hid (by
                    rw [List.length_append, entVs_snoc]
                    exact ho9)
                   have hlen1 : (L ++ [(⟨xm, xn, xi⟩ : Ent)]).length = L.length + 1 := by simp
                   have HLN := Lib.hid hlen1
                   clear ho9 hg9 hw9 hlen1
                   go_roundw
                   case rel =>
                    refine ⟨q.extract 20 q.size, L ++ [⟨xm, xn, xi⟩], f - 1, _, rfl, rfl, HO9.out, HB9.out, ?_, ?_, ?_, ?_⟩
                    · have := HZ20.out; have := HZ3.out; have := HN.out; omega
                    · rw [HLN.out]; have := HZ20.out; have := HZ3.out; have := HN.out; omega
                    · rw [HNXT.out, HE20.out]
                    · intro y hy
                      rcases List.mem_append.1 hy with hy | hy
                      · exact HYS.out y hy
                      · rw [List.mem_singleton.1 hy]; exact HZN.out
                   case measure => simp only [sLen]; have := HZ20.out; have := HZ3.out; omega
end Go.Proofs.YtihanglnjghcfaaGreatDoor
