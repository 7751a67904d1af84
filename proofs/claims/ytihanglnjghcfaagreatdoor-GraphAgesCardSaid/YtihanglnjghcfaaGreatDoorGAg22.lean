/- Whether a commit came ahead of another one: the document's Ancestor, walked. -/
import Derived.Test.YtihanglnjghcfaaGreatDoorGAg21
import Derived.Test.YtihanglnjghcfaaGreatDoorGAg14
namespace Go.Proofs.YtihanglnjghcfaaGreatDoor
open Go.RowKit Go.Maps
set_option linter.unusedVariables false
set_option linter.unusedSimpArgs false

set_option maxRecDepth 100000 in
set_option maxHeartbeats 8000000 in
theorem rancestor_any (w : World) (K : Nat → Prop) (r : Nat) (R : List Kn) (U : List Gid) (a b : Gid) (most : Int) (hR : RepAt w K r R) (hRl : R.length ≤ 1073741824) (hU : Univ (getK R) U) (hb : b ∈ U) :
    Calls Tryz.prog 24 #[.pointer (some ⟨r, 0, none⟩), .string (bk a), .string (bk b), .int .i64 most] w fun e w' => Below w.heap.size w w' ∧ e = .returned (ancV (ancRD (getK R) U most a b)) := by
  obtain ⟨i0, hi, hz0, hz1, hz2⟩ := info_parts info_str1
  have HR := Lib.hid hR
  have HRL := Lib.hid hRl
  have HU := Lib.hid hU
  have HBU := Lib.hid hb
  clear hR hRl hU hb
  by_cases hab : a = b
  · have q1 : ((bk a).toList == (bk b).toList) = true := by rw [hab]; simp
    have HRES : Hid (ancRD (getK R) U most a b = .ok true) := Lib.hid (by unfold ancRD; rw [if_pos hab])
    clear hab
    go_enter Tryz.func24, Tryz.ntmps24
    go_wp2
    go_ret2
    rw [HRES.out]
    exact ⟨Below.refl _ _, rfl⟩
  · have q1 : ((bk a).toList == (bk b).toList) = false := by rw [Lib.toList_data, Lib.toList_data, bk_list, bk_list, beq_eq_false_iff_ne]; exact hab
    have HI0 : Hid (RAncI R U a b most w 0 [b] (some ⟨w.heap.size, 0, none⟩) 1 (w.alloc (.cells #[.string (bk b)] 9))) := Lib.hid {
      low := (Below.refl _ _).alloc (Nat.le_refl _) _
      at' := DocS.one w b
      eq := by unfold ancRD; rw [if_neg hab]; rfl
      nd := by simp
      inU := fun x hx => by simp at hx; subst hx; exact HBU.out }
    clear hab
    go_enter Tryz.func24, Tryz.ntmps24
    go_upto_region 4 with (fail)
    generalize w.alloc (.cells #[.string (bk b)] 9) = w0 at *
    go_wp2
    go_loopw [10, 11] (fun v10 v11 wr => ∃ (i : Nat) (l : List Gid) (A2 : Option Addr) (c2 : Nat), v11 = .int .i64 i ∧ v10 = .slice A2 l.length c2 ∧ RAncI R U a b most w i l A2 c2 wr) (fun _ v11 _ => U.length - (intOf v11).toNat)
    case atStart => exact ⟨0, [b], _, _, rfl, rfl, HI0.out⟩
    case round =>
      clear HI0
      obtain ⟨i, l, A2, c2, rfl, rfl, hI⟩ := hrel
      have HI := Lib.hid hI
      have HLU : Hid (l.length ≤ U.length ∧ U.length ≤ 268435456) := Lib.hid ⟨nodup_sub_len l U hI.nd hI.inU, HU.out.num⟩
      clear hI
      generalize wr = w1 at *
      by_cases hlt : i < l.length
      · have d1 : decide ((i : Int) < (l.length : Int)) = true := decide_eq_true (by omega)
        have d1' : decide (i < l.length) = true := decide_eq_true hlt
        have HLT := Lib.hid hlt
        obtain ⟨n9, hn9⟩ : ∃ n9, U.length - i = n9 + 1 := ⟨U.length - i - 1, by have := HLU.out.1; omega⟩
        have HN9 := Lib.hid hn9
        obtain ⟨M, hM⟩ : ∃ M, max most 0 = M := ⟨_, rfl⟩
        have HM : Hid (max most 0 = M) := Lib.hid hM
        clear hn9
        by_cases hb : M ≤ (i : Int)
        · have d2 : decide (M ≤ (i : Int)) = true := decide_eq_true hb
          have HRES : Hid (ancRD (getK R) U most a b = .error 5) := Lib.hid (by rw [HI.out.eq, HN9.out]; exact ancD_big hlt (by rw [HM.out]; exact hb))
          clear hb hlt
          go_wp2
          go_ret2
          rw [HRES.out]
          exact ⟨HI.out.low, rfl⟩
        · have d2 : decide (M ≤ (i : Int)) = false := decide_eq_false hb
          have HNB : Hid (¬ max most 0 ≤ (i : Int)) := Lib.hid (by rw [HM.out]; exact hb)
          obtain ⟨x, hx⟩ : ∃ x, l[i]? = some x := ⟨_, List.getElem?_eq_getElem hlt⟩
          have HX := Lib.hid hx
          obtain ⟨b2, o2, rfl, hbl, f0⟩ := HI.out.at'.cell hx
          have HGE := Lib.hid (rget_any w1 K r R x (HR.out.below HI.out.low) HRL.out)
          have hle : ¬ (l.length : Int) ≤ i := by omega
          have hn0 : (0 : Int) ≤ i := by omega
          have hnl : (i : Int) < l.length := by omega
          have hw1 : IntKind.i64.wrap ((i : Int) + 1) = (i : Int) + 1 := IntWalk.i64_in _ (by have := HLU.out; omega)
          clear hb hlt hx hbl
          cases hgk : getK R x with
          | none =>
            have HRES : Hid (ancRD (getK R) U most a b = .error 61) := Lib.hid (by rw [HI.out.eq, HN9.out]; exact ancD_none HX.out (by have := HNB.out; omega) (by unfold gobG; rw [hgk]; rfl))
            rw [hgk] at HGE
            unfold getV zeroK at HGE
            clear hgk
            go_wp2_with fail
            refine HGE.out.mono ?_
            rintro e w2 ⟨rfl, hb2⟩
            have HB2 := Lib.hid hb2
            clear hb2
            go_wp2
            go_ret2
            rw [HRES.out]
            exact ⟨(HI.out.low.trans (HB2.out.mono HI.out.low.size)).alloc (by have := HI.out.low.size; have := HB2.out.size; omega) _, rfl⟩
          | some o9 =>
            have HG9 : Hid (gobG (getK R) x = some (gobK o9)) := Lib.hid (by unfold gobG; rw [hgk]; rfl)
            have HGX := Lib.hid hgk
            have HZ9 := Lib.hid (HU.out.sz _ _ hgk)
            rw [hgk] at HGE
            unfold getV knA at HGE
            clear hgk
            go_upto_region 12 with (go_at_call 29; refine HGE.out.mono ?_; rintro e w2 ⟨rfl, hb2⟩; have HB2 := Lib.hid hb2; clear hb2)
            have hB3 : Below w2.heap.size w2 (w2.alloc (.cells #[.int .i64 o9.kd, .string (bk o9.b), .string (bk o9.id)] 27)) := (Below.refl _ _).alloc (Nat.le_refl _) _
            have hC3 := Cel.new w2 27 #[.int .i64 o9.kd, .string (bk o9.b), .string (bk o9.id)] (fun j => (knA o9).getD j undef) (fun j hj => by
              have : j = 0 ∨ j = 1 ∨ j = 2 := by simp at hj; omega
              rcases this with rfl | rfl | rfl <;> rfl)
            generalize w2.alloc (.cells #[.int .i64 o9.kd, .string (bk o9.b), .string (bk o9.id)] 27) = w3 at *
            generalize hg3 : w2.heap.size = g3 at *
            have HG3 : Hid (w1.heap.size ≤ g3) := Lib.hid (by rw [← hg3]; exact HB2.out.size)
            have HB3 : Hid (Below w1.heap.size w1 w3) := Lib.hid (HB2.out.trans (hB3.mono HG3.out))
            have HC3 := Lib.hid hC3
            have kj0 : w3.cell? ⟨g3, 0, none⟩ = some (.int .i64 o9.kd) := HC3.out.cell 0 (show 0 < 3 by decide)
            have kj1 : w3.cell? ⟨g3, 1, none⟩ = some (.string (bk o9.b)) := HC3.out.cell 1 (show 1 < 3 by decide)
            have HPA := Lib.hid (rparse_any o9.kd o9.b w3 (by have := HZ9.out; omega))
            clear hB3 hC3 hg3 f0 HGE
            go_wp2_with fail
            refine HPA.out.mono ?_
            rintro e w6 ⟨hb6, ⟨hno, m9, hm9, rfl⟩ | ⟨x8, ks, rfl, h8⟩⟩
            · have HRES : Hid (ancRD (getK R) U most a b = .error 3) := Lib.hid (by rw [HI.out.eq, HN9.out]; exact ancD_bad HX.out (by have := HNB.out; omega) HG9.out (paOf_none hno))
              have HB6 : Hid (Below w.heap.size w w6) := Lib.hid ((HI.out.low.trans (HB3.out.mono HI.out.low.size)).trans (hb6.mono (by have h1 := HI.out.low.size; have h2 := HB3.out.size; omega)))
              have HB36 : Hid (Below w3.heap.size w3 w6) := Lib.hid hb6
              have hm9' : ¬ m9 = 0 := by simpa using hm9
              have hm9n : (m9 != 0) = true := by rw [bne, hm9]; rfl
              have hCZ := CelV.new w6 zeroV rfl
              have hB7 : Below w6.heap.size w6 (w6.alloc (.cells zeroV 67)) := (Below.refl _ _).alloc (Nat.le_refl _) _
              clear hb6 hno HPA kj0 kj1
              go_upto_region 13 with (refine wpList_store_part (vs := zeroV) (off := 0) rfl (.tmp 14) (.tmp 49) rfl rfl rfl hCZ info_o8 (Nat.le_refl 12) zeroV_one ?_; intro w7 hC7 hg7 hs7)
              have hb7 : Below w6.heap.size w6 w7 := hB7.grown hg7 (by simp) (fun k h => by injection h with h; exact Nat.le_of_eq h)
              have kj7 : w7.cell? ⟨g3, 0, none⟩ = some (.int .i64 o9.kd) := ((HC3.out.below HB36.out HC3.out.blk).below hb7 (by have := HC3.out.blk; have := HB36.out.size; omega)).cell 0 (show 0 < 3 by decide)
              have HBZ : Hid (Below w.heap.size w w7) := Lib.hid (HB6.out.trans (hb7.mono HB6.out.size))
              clear hC7 hg7 hs7 hB7 hCZ hb7
              go_wp2
              go_ret2
              rw [HRES.out]
              exact ⟨HBZ.out, rfl⟩
            · have HB6 : Hid (Below w3.heap.size w3 w6) := Lib.hid hb6
              have HV1 := Lib.hid h8.one
              have HPAR := Lib.hid h8.pa
              have hCZ := CelV.new w6 zeroV rfl
              have hB7 : Below w6.heap.size w6 (w6.alloc (.cells zeroV 67)) := (Below.refl _ _).alloc (Nat.le_refl _) _
              clear hb6 h8 HPA
              unfold Ob8.V at HV1 ⊢
              go_upto_region 13 with (refine wpList_store_part (vs := #[.int .i64 x8.kd, .string x8.d, x8.vL, .string x8.t, x8.vP, .string x8.a, .string x8.c, .string x8.o, .string x8.n, .int .i64 x8.ty, .string x8.g, .string x8.m]) (off := 0) rfl (.tmp 14) (.tmp 49) rfl rfl rfl hCZ info_o8 (Nat.le_refl 12) HV1.out ?_; intro w7 hC7 hg7 hs7; have hC7b := CelV.stored rfl hC7)
              have HCV := Lib.hid hC7b
              have hb7 : Below w6.heap.size w6 w7 := hB7.grown hg7 (by simp) (fun k h => by injection h with h; exact Nat.le_of_eq h)
              clear hC7 hC7b hg7 hs7 hB7 hCZ kj0 kj1
              have HC7 := Lib.hid ((HC3.out.below HB6.out HC3.out.blk).below hb7 (by have := HC3.out.blk; have := HB6.out.size; omega))
              have kj7 : w7.cell? ⟨g3, 0, none⟩ = some (.int .i64 o9.kd) := HC7.out.cell 0 (show 0 < 3 by decide)
              have HG7 : Hid (w3.heap.size ≤ w6.heap.size ∧ w6.heap.size ≤ w7.heap.size ∧ Below w6.heap.size w6 w7) := Lib.hid ⟨HB6.out.size, hb7.size, hb7⟩
              have HBW7 : Hid (Below w.heap.size w w7 ∧ Below w1.heap.size w1 w7) := Lib.hid (by
                have h1 := (HB3.out.trans (HB6.out.mono HB3.out.size)).trans (hb7.mono (by have := HB3.out.size; have := HB6.out.size; omega))
                exact ⟨HI.out.low.trans (h1.mono HI.out.low.size), h1⟩)
              clear hb7
              generalize hg7 : w6.heap.size = g7 at *
              by_cases hk1 : o9.kd = 1
              · obtain ⟨A5, c5, P, hpa, hvp, ho5⟩ := HPAR.out hk1
                have HO5 := Lib.hid ho5
                have HPN : Hid (P.length ≤ 268435456) := Lib.hid (by have := pa_num hpa; have := HZ9.out; omega)
                have HPU := Lib.hid (HU.out.pa HGX.out hpa)
                have HRES : Hid (ancRD (getK R) U most a b = match parD a l P with | none => .ok true | some m => ancD (gobG (getK R)) most a n9 (i + 1) m) := Lib.hid (by rw [HI.out.eq, HN9.out]; exact ancD_step HX.out (by have := HNB.out; omega) HG9.out hpa)
                have e1 : (o9.kd == 1) = true := by rw [beq_iff_eq]; exact hk1
                rw [hvp] at HCV
                have HK1 := Lib.hid hk1
                clear hpa ho5 hk1 HPAR
                rw [hvp]
                go_cut [57] (fun v wx => v = .bool false ∧ wx = w7)
                case first =>
                  go_wp2
                  go_meet
                  exact ⟨by first | rfl | (have h := HK1.out; simp [h]; done), by first | rfl | trivial⟩
                case rest =>
                 obtain ⟨rfl, hwc⟩ := hcut
                 have hwc2 := hwc.symm
                 subst hwc2
                 go_wp2
                 go_loopw [10, 16] (fun v10 v16 wr => ∃ (j : Nat) (l' : List Gid) (A3 : Option Addr) (c3 : Nat), v16 = .int .i64 j ∧ v10 = .slice A3 l'.length c3 ∧ j ≤ P.length ∧ DocS wr (fun k => (w.heap.size ≤ k ∧ k < w1.heap.size) ∨ w7.heap.size ≤ k) A3 c3 l' ∧ Chg (fun k => (w.heap.size ≤ k ∧ k < w1.heap.size) ∨ w7.heap.size ≤ k) w7 wr ∧ parD a l P = parD a l' (P.drop j) ∧ l'.Nodup ∧ ∀ q ∈ l', q ∈ U) (fun _ v16 _ => P.length - (intOf v16).toNat)
                 case atStart => exact ⟨0, l, _, c2, rfl, rfl, Nat.zero_le _, HI.out.at'.keep (Chg.of_below (S := fun k => w1.heap.size ≤ k) HBW7.out.2) (fun k _ h1 h2 => by omega) (fun k hk h => .inl ⟨hk, h⟩), Chg.refl _ _, by rw [List.drop_zero], HI.out.nd, HI.out.inU⟩
                 case round =>
                   obtain ⟨j, l', A3, c3, rfl, rfl, hj, hd, hc, hlk, hnd, hin⟩ := hrel
                   have HD := Lib.hid hd
                   have HC := Lib.hid hc
                   have HLK := Lib.hid hlk
                   have HND := Lib.hid hnd
                   have HIN := Lib.hid hin
                   have HLN : Hid (l'.length ≤ 268435456) := Lib.hid (by have := nodup_sub_len l' U hnd hin; have := HLU.out.2; omega)
                   have f4 : wr.cell? ⟨g7, 4, none⟩ = some (.slice A5 P.length c5) := (HCV.out.chg hc (by have := HG7.out; have := HB3.out.size; have := HCV.out.blk; rintro (h | h) <;> omega)).cell 4 (show 4 < 12 by decide)
                   clear hd hc hlk hnd hin kj7
                   by_cases hlt : j < P.length
                   · have d3 : decide ((j : Int) < (P.length : Int)) = true := decide_eq_true (by omega)
                     have d3' : decide (j < P.length) = true := decide_eq_true hlt
                     have hor : OwnS wr w3.heap.size 9 1 (.slice A5 P.length c5) P.length (strVs P) := (HO5.out.chg (Chg.of_below (S := fun k => w6.heap.size ≤ k) (by rw [hg7]; exact HG7.out.2.2)) (fun k hk h => by have := (HO5.out.lt k hk).2; omega)).chg HC.out (fun k hk h => by
                       have h1 := HO5.out.lt k hk
                       have h2 := HG7.out
                       have h3 := HB3.out.size
                       rcases h with h | h <;> omega)
                     obtain ⟨kb, ko, rfl, hkb, hkc⟩ := hor.strsAt (by rw [List.length_map]; omega)
                     generalize hyy : P[j] = y at *
                     have f1 : wr.cell? ⟨kb, ko + j, none⟩ = some (.string (bk y)) := hkc j (bk y) (by rw [List.getElem?_map, List.getElem?_eq_getElem hlt, hyy]; rfl)
                     have HDR : Hid (P.drop j = y :: P.drop (j + 1)) := Lib.hid (by rw [List.drop_eq_getElem_cons hlt, hyy])
                     have HYU : Hid (y ∈ U) := Lib.hid (HPU.out y (by rw [← hyy]; exact List.getElem_mem hlt))
                     have HKB : Hid (kb < wr.heap.size) := Lib.hid hkb
                     have hle2 : ¬ (P.length : Int) ≤ j := by omega
                     have hj0 : (0 : Int) ≤ j := by omega
                     have hjl : (j : Int) < P.length := by omega
                     have hw2 : IntKind.i64.wrap ((j : Int) + 1) = (j : Int) + 1 := IntWalk.i64_in _ (by have := HPN.out; omega)
                     clear hor hkb hkc hyy
                     by_cases hya : y = a
                     · have q2 : ((bk y).toList == (bk a).toList) = true := by rw [hya]; simp
                       have HR2 : Hid (ancRD (getK R) U most a b = .ok true) := Lib.hid (by rw [HRES.out, HLK.out, HDR.out, parD_yes hya])
                       clear hya
                       go_wp2
                       go_ret2
                       rw [HR2.out]
                       exact ⟨HBW7.out.1.trans (HC.out.below (by have := HBW7.out.1.size; exact this) (fun k hk h => by have := HBW7.out.1.size; rcases h with h | h <;> omega)), rfl⟩
                     · have q2 : ((bk y).toList == (bk a).toList) = false := by rw [Lib.toList_data, Lib.toList_data, bk_list, bk_list, beq_eq_false_iff_ne]; exact hya
                       have HNX : Hid (parD a l P = parD a (if y ∈ l' then l' else l' ++ [y]) (P.drop (j + 1))) := Lib.hid (by rw [HLK.out, HDR.out, parD_no hya])
                       have HHA := Lib.hid (rhas_any wr A3 l'.length c3 l' y HD.out.strs rfl (by have := HLN.out; omega))
                       clear hya
                       by_cases hm : y ∈ l'
                       · have hNX : parD a l P = parD a l' (P.drop (j + 1)) := by rw [HNX.out, if_pos hm]
                         have HNX2 := Lib.hid hNX
                         rw [decide_eq_true hm] at HHA
                         clear hNX hm
                         go_wp2_with (go_at_call 28; refine HHA.out.mono ?_; rintro e w8 ⟨rfl, hww⟩; have hww2 := hww.symm; subst hww2)
                         go_wp2
                         go_roundw
                         case rel => exact ⟨j + 1, l', _, c3, rfl, rfl, hlt, HD.out, HC.out, HNX2.out, HND.out, HIN.out⟩
                         case measure => simp [intOf]; omega
                       · have hNX : parD a l P = parD a (l' ++ [y]) (P.drop (j + 1)) := by rw [HNX.out, if_neg hm]
                         have HNX2 := Lib.hid hNX
                         have HND2 : Hid ((l' ++ [y]).Nodup ∧ ∀ q ∈ l' ++ [y], q ∈ U) := Lib.hid ⟨by
                           rw [List.nodup_append]
                           exact ⟨HND.out, by simp, fun p hp q hq => by simp at hq; subst hq; exact fun e => hm (e ▸ hp)⟩, fun q hq => by
                           rcases List.mem_append.1 hq with h | h
                           · exact HIN.out q h
                           · rw [List.mem_singleton.1 h]; exact HYU.out⟩
                         have HOA := Lib.hid (HD.out.1.alloc (.cells #[.string (bk y)] 9))
                         have HBA : Hid (Below wr.heap.size wr (wr.alloc (.cells #[.string (bk y)] 9))) := Lib.hid ((Below.refl _ _).alloc (Nat.le_refl _) _)
                         have HS1 := Lib.hid (Src.one_new (P := Tryz.prog) (w := wr) (u := .string (bk y)) (t := 9) rfl)
                         have hm9 : l'.length + 1 ≤ maxLen := by have := HLN.out; unfold maxLen; omega
                         have hb9 : (l'.length + 1) * 16 ≤ 140737488355328 := by have := HLN.out; omega
                         rw [decide_eq_false hm] at HHA
                         clear hNX hm
                         go_wp2_with (first | (at_builtin; go_loud (refine wpList_append_S rfl (.tmp 80) (.tmp 86) 32 32 rfl i0 (.string ⟨#[]⟩) 16 (.slice 9) Tryz.underlying32 Tryz.underlying32 (fun _ h => by cases h) hi hz0 hz1 hz2 rfl rfl rfl HOA.out HS1.out hm9 hb9 (Nat.zero_le _) ?_; intro A8 c8 w8; intro ho8 hg8 hw8)) | (go_at_call 28; refine HHA.out.mono ?_; rintro e w8 ⟨rfl, hww⟩; have hww2 := hww.symm; subst hww2))
                         have HD8 := Lib.hid ((show DocS _ _ A3 c3 l' from ⟨HOA.out, HD.out.2⟩).snoc (x := y) ho8 hw8 (by have := HC.out.size; have := HBA.out.size; exact .inr (by omega)))
                         have HC8 := Lib.hid ((HC.out.trans (Chg.of_below (S := fun _ => False) HBA.out) (fun _ _ h => h.elim)).trans (Chg.of_grown (S := fun k => (w.heap.size ≤ k ∧ k < w1.heap.size) ∨ w7.heap.size ≤ k) hg8 (fun k hk => HD.out.2 k hk)) (fun _ _ h => h))
                         clear ho8 hg8 hw8 hm9 hb9
                         go_wp2
                         go_roundw
                         case rel => exact ⟨j + 1, l' ++ [y], A8, c8, rfl, by simp, hlt, HD8.out, HC8.out, HNX2.out, HND2.out.1, HND2.out.2⟩
                         case measure => simp [intOf]; omega
                   · have d3 : decide ((j : Int) < (P.length : Int)) = false := decide_eq_false (by omega)
                     have d3' : decide (j < P.length) = false := decide_eq_false hlt
                     have HFI : Hid (RAncI R U a b most w (i + 1) l' A3 c3 wr) := Lib.hid {
                       low := HBW7.out.1.trans (HC.out.below (by have := HBW7.out.1.size; exact this) (fun k hk h => by have := HBW7.out.1.size; rcases h with h | h <;> omega))
                       at' := HD.out.keep (Chg.refl (fun _ => False) _) (fun _ _ _ h => h) (fun k hk _ => by have := HBW7.out.1.size; rcases hk with h | h <;> omega)
                       eq := by
                         have hp : parD a l P = some l' := by rw [HLK.out, List.drop_eq_nil_of_le (by omega)]; rfl
                         rw [HRES.out, hp, show U.length - (i + 1) = n9 by have := HN9.out; omega]
                       nd := HND.out
                       inU := HIN.out }
                     clear hlt
                     go_wp2
                     go_roundw
                     case rel => exact ⟨i + 1, l', A3, c3, rfl, rfl, HFI.out⟩
                     case measure => have := HLU.out; have := HLT.out; simp [intOf]; omega
              · have e1 : (o9.kd == 1) = false := by rw [beq_eq_false_iff_ne]; exact hk1
                have HRES : Hid (ancRD (getK R) U most a b = .error 3) := Lib.hid (by rw [HI.out.eq, HN9.out]; exact ancD_bad HX.out (by have := HNB.out; omega) HG9.out (paOf_no hk1))
                clear hk1
                go_wp2
                go_ret2
                rw [HRES.out]
                exact ⟨HBW7.out.1, rfl⟩
      · have d1 : decide ((i : Int) < (l.length : Int)) = false := decide_eq_false (by omega)
        have d1' : decide (i < l.length) = false := decide_eq_false hlt
        have HRES : Hid (ancRD (getK R) U most a b = .ok false) := Lib.hid (by rw [HI.out.eq]; exact ancD_end (by omega))
        clear hlt
        go_wp2
        go_ret2
        rw [HRES.out]
        exact ⟨HI.out.low, rfl⟩
end Go.Proofs.YtihanglnjghcfaaGreatDoor
namespace Go.Proofs.YtihanglnjghcfaaGreatDoor
open Go.RowKit Go.Maps
set_option linter.unusedVariables false
set_option linter.unusedSimpArgs false

/-- What a tag is of, in so many steps. -/
def peelG (G : Gid → Option Kn) : Nat → Gid → Option (Gid × Int)
  | 0, _ => none
  | n + 1, d =>
    match G d with
    | none => none
    | some o =>
      match lkOf o.kd o.b with
      | none => none
      | some _ =>
        match tgOf o.kd o.b with
        | some t => peelG G n t
        | none => some (d, o.kd)
/-- One step of it. -/
def peelS (G : Gid → Option Kn) (n : Nat) (d : Gid) : Option (Gid × Int) :=
  match G d with
  | none => none
  | some o =>
    match lkOf o.kd o.b with
    | none => none
    | some _ =>
      match tgOf o.kd o.b with
      | some t => peelG G n t
      | none => some (d, o.kd)
theorem peelG_succ (G : Gid → Option Kn) (n : Nat) (d : Gid) : peelG G (n + 1) d = peelS G n d := rfl
def peelV : Option (Gid × Int) → Value
  | none => .tuple #[.string ⟨#[]⟩, .int .i64 0, .bool false]
  | some (d, k) => .tuple #[.string (bk d), .int .i64 k, .bool true]
def PeelPost (St : (Nat → Prop) → List Gid → World → Prop) (F : Nat → Prop) (qs : List Gid) (R : Option (Gid × Int)) (w : World) (e : Ending) (w' : World) : Prop :=
  ∃ F' qs', St F' (qs ++ qs') w' ∧ Chg F w w' ∧ (∀ k, F' k → F k ∨ w.heap.size ≤ k) ∧ e = .returned (peelV R)
theorem ta_com (a : Value) (b c d e : Value) (W : World) : (Instr.typeAssert (.iface 103 (.agg #[a, b, c, d, e])) 92 96 true).run Tryz.prog W = .ok (.tuple #[.agg #[.string ⟨#[]⟩, .int .i64 0, .string ⟨#[]⟩, .string ⟨#[]⟩, .string ⟨#[]⟩], .bool false]) W := by kernel_rfl
theorem ta_tre (a : Value) (W : World) : (Instr.typeAssert (.iface 164 (.agg #[a])) 92 96 true).run Tryz.prog W = .ok (.tuple #[.agg #[.string ⟨#[]⟩, .int .i64 0, .string ⟨#[]⟩, .string ⟨#[]⟩, .string ⟨#[]⟩], .bool false]) W := by kernel_rfl
theorem ta_blo (a : Value) (W : World) : (Instr.typeAssert (.iface 148 (.agg #[a])) 92 96 true).run Tryz.prog W = .ok (.tuple #[.agg #[.string ⟨#[]⟩, .int .i64 0, .string ⟨#[]⟩, .string ⟨#[]⟩, .string ⟨#[]⟩], .bool false]) W := by kernel_rfl
theorem ta_tag (a : Value) (b c d e : Value) (W : World) : (Instr.typeAssert (.iface 96 (.agg #[a, b, c, d, e])) 92 96 true).run Tryz.prog W = .ok (.tuple #[.agg #[a, b, c, d, e], .bool true]) W := by kernel_rfl
/-- No tag: how it is told. -/
theorem ObjIs.noTag {w : World} {B : Nat} {kd : Int} {b : List UInt8} {IF : Value} (h : ObjIs w B kd b IF) (hk : kd ≠ 4) (W : World) :
    (Instr.typeAssert IF 92 96 true).run Tryz.prog W = .ok (.tuple #[.agg #[.string ⟨#[]⟩, .int .i64 0, .string ⟨#[]⟩, .string ⟨#[]⟩, .string ⟨#[]⟩], .bool false]) W := by
  rcases h with ⟨rfl, r, A, hr, rfl, ho⟩ | ⟨rfl, L, A, hL, rfl, ho⟩ | ⟨rfl, v, rfl⟩ | ⟨h4, _⟩
  · exact ta_com _ _ _ _ _ W
  · exact ta_tre _ W
  · exact ta_blo _ W
  · exact absurd h4 hk
theorem tgOf_no {kd : Int} {b : List UInt8} (h : kd ≠ 4) : tgOf kd b = none := by unfold tgOf; rw [if_neg h]
set_option maxRecDepth 100000 in
set_option maxHeartbeats 4000000 in
theorem peel_any {f : FuncId} {c1 c2 : Value} {G : Gid → Option Kn} {St : (Nat → Prop) → List Gid → World → Prop} (hg : Getter f c1 c2 G St) (F : Nat → Prop) (qs : List Gid) (w : World) (d : Gid)
    (hS : St F qs w) (hE : EnvO w) (h1 : ¬ F 1) (h2 : ¬ F 2) (hz : ∀ d o, G d = some o → o.b.length ≤ 268435456) :
    Calls Tryz.prog 22 #[fnV f c1 c2, .string (bk d)] w (PeelPost St F qs (peelG G 11 d) w) := by
  have HG := Lib.hid hg
  have HE := Lib.hid hE
  have HT := Lib.hid (And.intro hE.lt (And.intro h1 h2))
  have HZ := Lib.hid hz
  have HS0 := Lib.hid hS
  have HASK := Lib.hid (fun (F : Nat → Prop) (qs : List Gid) (w : World) (d : Gid) (hS : St F qs w) (hE : EnvO w) (h1 : ¬ F 1) (h2 : ¬ F 2) => ask_any hg F qs w d hS hE h1 h2 (fun x hx => by have := hz d x hx; omega))
  clear hg hE h1 h2 hz hS
  unfold fnV at *
  go_enter Tryz.func22, Tryz.ntmps22
  go_wp2
  go_loopw [1, 11] (fun v1 v11 wr => ∃ (j : Nat) (d' : Gid) (F1 : Nat → Prop) (qs1 : List Gid), v11 = .int .i64 j ∧ v1 = .string (bk d') ∧ j ≤ 11 ∧ St F1 (qs ++ qs1) wr ∧ Chg F w wr ∧ (∀ k, F1 k → F k ∨ w.heap.size ≤ k) ∧ peelG G 11 d = peelG G (11 - j) d') (fun _ v11 _ => 11 - (intOf v11).toNat)
  case atStart => exact ⟨0, d, F, [], rfl, rfl, by omega, by rw [List.append_nil]; exact HS0.out, Chg.refl _ _, fun k hk => .inl hk, rfl⟩
  case round =>
    obtain ⟨j, d', F1, qs1, rfl, rfl, hj, hs, hc, hf, heq⟩ := hrel
    have HH := Lib.hid (And.intro hs (And.intro hc (And.intro hf heq)))
    clear hs hc hf heq
    by_cases hlt : j < 11
    · have d1 : decide ((j : Int) < 11) = true := decide_eq_true (by omega)
      have d1' : decide (j < 11) = true := decide_eq_true hlt
      have HA := Lib.hid (HASK.out F1 (qs ++ qs1) wr d' HH.out.1 (HE.out.chg HH.out.2.1 HT.out.2.1 HT.out.2.2) (fun h => by rcases HH.out.2.2.1 _ h with h | h; exact HT.out.2.1 h; have := HT.out.1.1; omega) (fun h => by rcases HH.out.2.2.1 _ h with h | h; exact HT.out.2.2 h; have := HT.out.1.2; omega))
      have hw1 : IntKind.i64.wrap ((j : Int) + 1) = (j : Int) + 1 := IntWalk.i64_in _ (by omega)
      have HST : Hid (peelG G 11 d = peelS G (11 - (j + 1)) d') := Lib.hid (by rw [HH.out.2.2.2, show 11 - j = (11 - (j + 1)) + 1 by omega]; exact peelG_succ G _ d')
      go_wp2_with fail
      refine HA.out.mono ?_
      rintro e w2 ⟨F2, hs2, hc2, hf2, ha2⟩
      have HC2 : Hid (Chg F w w2 ∧ ∀ k, F2 k → F k ∨ w.heap.size ≤ k) := Lib.hid ⟨HH.out.2.1.trans hc2 (fun k hk h => by rcases HH.out.2.2.1 k h with h | h; exact h; omega), fun k hk => by
        rcases hf2 k hk with h | h
        · exact HH.out.2.2.1 k h
        · have := HH.out.2.1.size; exact .inr (by omega)⟩
      have HS2 : Hid (St F2 (qs ++ (qs1 ++ [d'])) w2) := Lib.hid (by rw [← List.append_assoc]; exact hs2)
      have HLO := Lib.hid (HG.out.low hs2)
      clear hs2 hc2 hf2
      cases hgd : G d' with
      | none =>
        rw [hgd] at ha2
        obtain rfl := ha2
        have HR : Hid (peelG G 11 d = none) := Lib.hid (by rw [HST.out]; unfold peelS; rw [hgd])
        clear hgd
        go_wp2
        go_ret3
        rw [HR.out]
        exact ⟨F2, _, HS2.out, HC2.out.1, HC2.out.2, rfl⟩
      | some o =>
        rw [hgd] at ha2
        rcases ha2 with ⟨hlk, rfl⟩ | ⟨IF, B1, rfl, hB1, hFB, hlk, ho⟩
        · have HR : Hid (peelG G 11 d = none) := Lib.hid (by rw [HST.out]; unfold peelS; rw [hgd]; dsimp only; rw [hlk])
          clear hgd hlk
          go_wp2
          go_ret3
          rw [HR.out]
          exact ⟨F2, _, HS2.out, HC2.out.1, HC2.out.2, rfl⟩
        · obtain ⟨ks, hks⟩ : ∃ ks, lkOf o.kd o.b = some ks := by cases h : lkOf o.kd o.b with | none => exact absurd h hlk | some ks => exact ⟨ks, rfl⟩
          have HBO := Lib.hid (HZ.out d' o hgd)
          by_cases h4 : o.kd = 4
          · obtain ⟨r, hr, rfl⟩ : ∃ r, tagF o.b = some r ∧ IF = .iface 96 (.agg #[.string (bk r.o), .int .i64 (r.k : Int), .string (bk r.n), .string (bk r.g), .string (bk r.m)]) := by
              rcases ho with ⟨h, _⟩ | ⟨h, _⟩ | ⟨h, _⟩ | ⟨_, r, hr, h⟩
              · omega
              · omega
              · omega
              · exact ⟨r, hr, h⟩
            have HR : Hid (peelG G 11 d = peelG G (11 - (j + 1)) r.o) := Lib.hid (by
              rw [HST.out]; unfold peelS; rw [hgd]; dsimp only; rw [hks]; dsimp only
              rw [show tgOf o.kd o.b = some r.o by unfold tgOf; rw [if_pos h4, hr]; rfl])
            have hta := ta_tag (.string (bk r.o)) (.int .i64 (r.k : Int)) (.string (bk r.n)) (.string (bk r.g)) (.string (bk r.m)) w2
            have z0 : (w2.alloc (.cells #[.string (bk r.o), .int .i64 (r.k : Int), .string (bk r.n), .string (bk r.g), .string (bk r.m)] 96)).cell? ⟨w2.heap.size, 0, none⟩ = some (.string (bk r.o)) := by rw [World.cell?_alloc_at _ _ _ _ (by simp)]; rfl
            have hbA : Below w2.heap.size w2 (w2.alloc (.cells #[.string (bk r.o), .int .i64 (r.k : Int), .string (bk r.n), .string (bk r.g), .string (bk r.m)] 96)) := (Below.refl _ _).alloc (Nat.le_refl _) _
            have HSA := Lib.hid (HG.out.keep HS2.out (Chg.of_below (S := fun k => w2.heap.size ≤ k) hbA) (fun k hk => Nat.not_le.2 (HLO.out k hk)))
            have HCA := Lib.hid (HC2.out.1.trans (Chg.of_below (S := fun _ => False) hbA) (fun _ _ h => h.elim))
            clear hgd hks hlk ho h4 hr hbA
            go_wp2
            go_roundw
            case rel => exact ⟨j + 1, r.o, F2, _, rfl, rfl, hlt, HSA.out, HCA.out, HC2.out.2, HR.out⟩
            case measure => simp [intOf]; omega
          · have hta := ho.noTag h4 w2
            have HR : Hid (peelG G 11 d = some (d', o.kd)) := Lib.hid (by
              rw [HST.out]; unfold peelS; rw [hgd]; dsimp only; rw [hks]; dsimp only
              rw [tgOf_no h4])
            obtain ⟨ks', t, v, fl, fk, rl, rk, _, rfl, hm⟩ := ho.methW (by have := HBO.out; omega)
            have HM := Lib.hid hm
            have hmk := hm.mkd.look
            rw [mdepth] at hmk
            have hme := hm.mkd.ent
            have hbA : Below w2.heap.size w2 (w2.alloc (.cells #[.string ⟨#[]⟩, .int .i64 0, .string ⟨#[]⟩, .string ⟨#[]⟩, .string ⟨#[]⟩] 96)) := (Below.refl _ _).alloc (Nat.le_refl _) _
            have HBA := Lib.hid hbA
            clear hgd hks hlk ho h4 hm hbA
            go_wp2_with fail
            refine (HM.out.ckd _).mono ?_
            rintro e w4 ⟨rfl, hb4⟩
            have HB4 := Lib.hid (HBA.out.trans (hb4.mono HBA.out.size))
            clear hb4 hmk hme
            go_wp2
            go_ret3
            rw [HR.out]
            exact ⟨F2, _, HG.out.keep HS2.out (Chg.of_below (S := fun k => w2.heap.size ≤ k) HB4.out) (fun k hk => Nat.not_le.2 (HLO.out k hk)), HC2.out.1.trans (Chg.of_below (S := fun _ => False) HB4.out) (fun _ _ h => h.elim), HC2.out.2, rfl⟩
    · have d1 : decide ((j : Int) < 11) = false := decide_eq_false (by omega)
      have d1' : decide (j < 11) = false := decide_eq_false hlt
      have HR : Hid (peelG G 11 d = none) := Lib.hid (by rw [HH.out.2.2.2, show 11 - j = 0 by omega]; rfl)
      go_wp2
      go_ret3
      rw [HR.out]
      exact ⟨F1, _, HH.out.1, HH.out.2.1, HH.out.2.2.1, rfl⟩
end Go.Proofs.YtihanglnjghcfaaGreatDoor
namespace Go.Proofs.YtihanglnjghcfaaGreatDoor
open Go.RowKit Go.Maps
set_option linter.unusedVariables false
set_option linter.unusedSimpArgs false

set_option maxRecDepth 100000 in
set_option maxHeartbeats 8000000 in
theorem rpeel_any (w : World) (K : Nat → Prop) (r : Nat) (R : List Kn) (d : Gid) (hR : RepAt w K r R) (hRl : R.length ≤ 1073741824) (hz : ∀ d o, getK R d = some o → o.b.length ≤ 268435456) :
    Calls Tryz.prog 25 #[.pointer (some ⟨r, 0, none⟩), .string (bk d)] w fun e w' => Below w.heap.size w w' ∧ e = .returned (peelV (peelG (getK R) 11 d)) := by
  have HR := Lib.hid hR
  have HRL := Lib.hid hRl
  have HZ := Lib.hid hz
  clear hR hRl hz
  go_enter Tryz.func25, Tryz.ntmps25
  go_wp2
  go_loopw [1, 7] (fun v1 v7 wr => ∃ (j : Nat) (d' : Gid), v7 = .int .i64 j ∧ v1 = .string (bk d') ∧ j ≤ 11 ∧ Below w.heap.size w wr ∧ peelG (getK R) 11 d = peelG (getK R) (11 - j) d') (fun _ v7 _ => 11 - (intOf v7).toNat)
  case atStart => exact ⟨0, d, rfl, rfl, by omega, Below.refl _ _, rfl⟩
  case round =>
    obtain ⟨j, d', rfl, rfl, hj, hb, heq⟩ := hrel
    have HB := Lib.hid hb
    have HEQ := Lib.hid heq
    clear hb heq
    generalize wr = w1 at *
    by_cases hlt : j < 11
    · have d1 : decide ((j : Int) ≤ 10) = true := decide_eq_true (by omega)
      have d1' : decide (j ≤ 10) = true := decide_eq_true (by omega)
      have hj10 : j ≤ 10 := by omega
      have hj10i : (j : Int) ≤ 10 := by omega
      have HGE := Lib.hid (rget_any w1 K r R d' (HR.out.below HB.out) HRL.out)
      have hw1 : IntKind.i64.wrap ((j : Int) + 1) = (j : Int) + 1 := IntWalk.i64_in _ (by omega)
      have HST : Hid (peelG (getK R) 11 d = peelS (getK R) (11 - (j + 1)) d') := Lib.hid (by rw [HEQ.out, show 11 - j = (11 - (j + 1)) + 1 by omega]; exact peelG_succ _ _ d')
      cases hgk : getK R d' with
      | none =>
        have HRES : Hid (peelG (getK R) 11 d = none) := Lib.hid (by rw [HST.out]; unfold peelS; rw [hgk])
        rw [hgk] at HGE
        unfold getV zeroK at HGE
        clear hgk
        go_wp2_with fail
        refine HGE.out.mono ?_
        rintro e w2 ⟨rfl, hb2⟩
        have HB2 := Lib.hid hb2
        clear hb2
        go_wp2
        go_ret3
        rw [HRES.out]
        exact ⟨(HB.out.trans (HB2.out.mono HB.out.size)).alloc (by have := HB.out.size; have := HB2.out.size; omega) _, rfl⟩
      | some o9 =>
        have HGX := Lib.hid hgk
        have HZ9 := Lib.hid (HZ.out _ _ hgk)
        rw [hgk] at HGE
        unfold getV knA at HGE
        clear hgk
        go_upto_region 7 with (go_at_call 29; refine HGE.out.mono ?_; rintro e w2 ⟨rfl, hb2⟩; have HB2 := Lib.hid hb2; clear hb2)
        have hB3 : Below w2.heap.size w2 (w2.alloc (.cells #[.int .i64 o9.kd, .string (bk o9.b), .string (bk o9.id)] 27)) := (Below.refl _ _).alloc (Nat.le_refl _) _
        have hC3 := Cel.new w2 27 #[.int .i64 o9.kd, .string (bk o9.b), .string (bk o9.id)] (fun j => (knA o9).getD j undef) (fun j hj => by
          have : j = 0 ∨ j = 1 ∨ j = 2 := by simp at hj; omega
          rcases this with rfl | rfl | rfl <;> rfl)
        generalize w2.alloc (.cells #[.int .i64 o9.kd, .string (bk o9.b), .string (bk o9.id)] 27) = w3 at *
        generalize hg3 : w2.heap.size = g3 at *
        have HG3 : Hid (w1.heap.size ≤ g3) := Lib.hid (by rw [← hg3]; exact HB2.out.size)
        have HB3 : Hid (Below w1.heap.size w1 w3) := Lib.hid (HB2.out.trans (hB3.mono HG3.out))
        have HC3 := Lib.hid hC3
        have kj0 : w3.cell? ⟨g3, 0, none⟩ = some (.int .i64 o9.kd) := HC3.out.cell 0 (show 0 < 3 by decide)
        have kj1 : w3.cell? ⟨g3, 1, none⟩ = some (.string (bk o9.b)) := HC3.out.cell 1 (show 1 < 3 by decide)
        have HPA := Lib.hid (rparse_any o9.kd o9.b w3 (by have := HZ9.out; omega))
        clear hB3 hC3 hg3 HGE
        go_wp2_with fail
        refine HPA.out.mono ?_
        rintro e w6 ⟨hb6, ⟨hno, m9, hm9, rfl⟩ | ⟨x8, ks, rfl, h8⟩⟩
        · have HRES : Hid (peelG (getK R) 11 d = none) := Lib.hid (by rw [HST.out]; unfold peelS; rw [HGX.out]; dsimp only; rw [hno])
          have HB6 : Hid (Below w.heap.size w w6) := Lib.hid ((HB.out.trans (HB3.out.mono HB.out.size)).trans (hb6.mono (by have h1 := HB.out.size; have h2 := HB3.out.size; omega)))
          clear hb6 hno HPA kj0 kj1
          have hCZ := CelV.new w6 zeroV rfl
          go_wp2_with (refine wpList_store_part (vs := zeroV) (off := 0) rfl (.tmp 10) (.tmp 30) rfl rfl rfl hCZ info_o8 (Nat.le_refl 12) zeroV_one ?_; intro w7 hC7 hg7 hs7)
          go_ret3
          rw [HRES.out]
          exact ⟨(HB6.out.alloc HB6.out.size _).grown hg7 (by have := HB6.out.size; simp; omega) (fun k h => by injection h with h; rw [← h]; exact HB6.out.size), rfl⟩
        · have HB6 : Hid (Below w3.heap.size w3 w6) := Lib.hid hb6
          have HV1 := Lib.hid h8.one
          have HTG := Lib.hid h8.tg
          have HLK := Lib.hid h8.lk
          have hCZ := CelV.new w6 zeroV rfl
          have hB7 : Below w6.heap.size w6 (w6.alloc (.cells zeroV 67)) := (Below.refl _ _).alloc (Nat.le_refl _) _
          clear hb6 h8 HPA
          unfold Ob8.V at HV1 ⊢
          go_upto_region 8 with (refine wpList_store_part (vs := #[.int .i64 x8.kd, .string x8.d, x8.vL, .string x8.t, x8.vP, .string x8.a, .string x8.c, .string x8.o, .string x8.n, .int .i64 x8.ty, .string x8.g, .string x8.m]) (off := 0) rfl (.tmp 10) (.tmp 30) rfl rfl rfl hCZ info_o8 (Nat.le_refl 12) HV1.out ?_; intro w7 hC7 hg7 hs7; have hC7b := CelV.stored rfl hC7)
          have hb7 : Below w6.heap.size w6 w7 := hB7.grown hg7 (by simp) (fun k h => by injection h with h; exact Nat.le_of_eq h)
          have HC7 := Lib.hid ((HC3.out.below HB6.out HC3.out.blk).below hb7 (by have := HC3.out.blk; have := HB6.out.size; omega))
          have kj7 : w7.cell? ⟨g3, 0, none⟩ = some (.int .i64 o9.kd) := HC7.out.cell 0 (show 0 < 3 by decide)
          have f7 : w7.cell? ⟨w6.heap.size, 7, none⟩ = some (.string x8.o) := hC7b.cell 7 (show 7 < 12 by decide)
          have HBW7 : Hid (Below w.heap.size w w7) := Lib.hid (by
            have h1 := (HB3.out.trans (HB6.out.mono HB3.out.size)).trans (hb7.mono (by have := HB3.out.size; have := HB6.out.size; omega))
            exact HB.out.trans (h1.mono HB.out.size))
          clear hC7 hC7b hg7 hs7 hB7 hCZ kj0 kj1 hb7
          by_cases hk4 : o9.kd = 4
          · obtain ⟨t, ht, hto⟩ := HTG.out hk4
            have HRES : Hid (peelG (getK R) 11 d = peelG (getK R) (11 - (j + 1)) t) := Lib.hid (by rw [HST.out]; unfold peelS; rw [HGX.out]; dsimp only; rw [HLK.out]; dsimp only; rw [ht])
            have e1 : (o9.kd == 4) = true := by rw [beq_iff_eq]; exact hk4
            rw [hto] at f7
            clear hk4 ht HTG
            go_wp2
            go_roundw
            case rel => exact ⟨j + 1, t, rfl, rfl, hlt, HBW7.out, HRES.out⟩
            case measure => simp [intOf]; omega
          · have e1 : (o9.kd == 4) = false := by rw [beq_eq_false_iff_ne]; exact hk4
            have HRES : Hid (peelG (getK R) 11 d = some (d', o9.kd)) := Lib.hid (by rw [HST.out]; unfold peelS; rw [HGX.out]; dsimp only; rw [HLK.out]; dsimp only; rw [tgOf_no hk4])
            clear hk4 f7 HTG
            go_upto_region 11 with (fail)
            go_quiet (fail)
            go_wp2
            go_ret3
            rw [HRES.out]
            exact ⟨Below.drewN HBW7.out _, rfl⟩
    · have d1 : decide ((j : Int) ≤ 10) = false := decide_eq_false (by omega)
      have d1' : decide (j ≤ 10) = false := decide_eq_false (by omega)
      have hj10 : ¬ j ≤ 10 := by omega
      have hj10i : ¬ (j : Int) ≤ 10 := by omega
      have HRES : Hid (peelG (getK R) 11 d = none) := Lib.hid (by rw [HEQ.out, show 11 - j = 0 by omega]; rfl)
      go_wp2
      go_ret3
      rw [HRES.out]
      exact ⟨HB.out, rfl⟩
end Go.Proofs.YtihanglnjghcfaaGreatDoor
