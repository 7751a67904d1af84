/- The document's closure, walked. -/
import Derived.Test.YtihanglnjghcfaaGreatDoorGCt19
import Derived.Test.YtihanglnjghcfaaGreatDoorGCt22
namespace Go.Proofs.YtihanglnjghcfaaGreatDoor
open Go.RowKit Go.Maps
set_option linter.unusedVariables false
set_option linter.unusedSimpArgs false

/-- What holds amid one link's being laid behind. -/
def ILk (w0 : World) (K : Nat → Prop) (A : Option Addr) (c : Nat) (l : List Git) (y : Git) : List Value → World → Prop
 | [], w => Below w0.heap.size w0 w
 | [v], w => (∃ g, v = .slice (some ⟨g, 0, none⟩) 1 1 ∧ Src Tryz.prog w 2 v 1 (itV y)) ∧ Below w0.heap.size w0 w
 | [_, v], w => (∃ A' c', v = .slice A' (l.length + 1) c' ∧ DocL w K A' c' (l ++ [y])) ∧ Chg K w0 w
 | _ :: _ :: v :: _, w => (∃ A' c', v = .slice A' (l.length + 1) c' ∧ DocL w K A' c' (l ++ [y])) ∧ Chg K w0 w
set_option maxRecDepth 100000 in
set_option maxHeartbeats 8000000 in
theorem rclosure_any (w : World) (K : Nat → Prop) (r : Nat) (R : List Kn) (U : List Gid) (A : Option Addr) (n c : Nat) (rs : List Gid) (most : Int) (hR : RepAt w K r R) (hRl : R.length ≤ 1073741824) (hU : Univ (getK R) U) (hS : StrsAt w A (rs.map bk)) (hn : rs.length = n) (hl : n ≤ 268435456) (hrU : ∀ r ∈ rs, r ∈ U) :
 Calls Tryz.prog 18 #[.pointer (some ⟨r, 0, none⟩), .slice A n c, .int .i64 most] w fun e w' => Below w.heap.size w w' ∧ RClosAns (closR (getK R) U rs most) w w' e := by
 obtain ⟨i0, hi, hz0, hz1, hz2⟩ := info_parts info_item
 have HR := Lib.hid hR
 have HRL := Lib.hid hRl
 have HU := Lib.hid hU
 have HS := Lib.hid hS
 have HN := Lib.hid (And.intro hn hl)
 have HRU := Lib.hid hrU
 clear hR hRl hU hS hrU
 go_enter Tryz.func18, Tryz.ntmps18
 go_wp2
 go_loopw [8, 9] (fun v8 v9 wr => ∃ (i : Nat) (l : List Git) (A2 : Option Addr) (c2 : Nat), v9 = .int .i64 i ∧ v8 = .slice A2 l.length c2 ∧ i ≤ n ∧ l = rootsP [] (rs.take i) ∧ DocL wr (fun k => w.heap.size ≤ k) A2 c2 l ∧ Below w.heap.size w wr) (fun _ v9 _ => n - (intOf v9).toNat)
 case atStart => exact ⟨0, [], none, 0, rfl, rfl, by omega, rfl, DocL.nil _ _, Below.refl _ _⟩
 case round =>
  obtain ⟨i, l, A2, c2, rfl, rfl, hin, hlr, hd, hb⟩ := hrel
  have HD := Lib.hid hd
  have HB := Lib.hid hb
  have HLR := Lib.hid hlr
  have HLN : Hid (l.length ≤ i) := Lib.hid (by rw [hlr]; have := rootsP_len (rs.take i) []; simp only [List.length_take, List.length_nil] at this; omega)
  clear hd hb hlr
  by_cases hlt : i < n
  · have d1 : decide ((i : Int) < (n : Int)) = true := decide_eq_true (by omega)
    have d1' : decide (i < n) = true := decide_eq_true hlt
    have hrn : i < rs.length := by omega
    obtain ⟨b, o, rfl, hbl, hcl⟩ := HS.out (by rw [List.length_map]; omega)
    have hc0 := hcl i (bk rs[i]) (by rw [List.getElem?_map, List.getElem?_eq_getElem hrn]; rfl)
    have HTK : Hid (rootsP [] (rs.take (i + 1)) = if atG l rs[i] = none then l ++ [⟨rs[i], 0⟩] else l) := Lib.hid (by rw [List.take_add_one, List.getElem?_eq_getElem hrn]; show rootsP [] (rs.take i ++ [rs[i]]) = _; rw [rootsP_snoc, ← HLR.out, addG0])
    generalize rs[i] = d at *
    have HAT := Lib.hid (rat_any wr 0 A2 l.length c2 l d HD.out.1 rfl (by have := HLN.out; omega))
    have f0 := (HB.out.cell (p := ⟨b, o + i, none⟩) hbl).trans hc0
    have hle : ¬ (n : Int) ≤ i := by omega
    have hn0 : (0 : Int) ≤ i := by omega
    have hnl : (i : Int) < n := by omega
    have hw1 : IntKind.i64.wrap ((i : Int) + 1) = (i : Int) + 1 := IntWalk.i64_in _ (by omega)
    clear hcl hc0 hbl hrn
    cases hat : atG l d with
    | none =>
     have HTK2 : Hid (rootsP [] (rs.take (i + 1)) = l ++ [⟨d, 0⟩]) := Lib.hid (by rw [HTK.out, if_pos hat])
     have hv : atD l d = -1 := by unfold atD; rw [hat]
     rw [hv] at HAT
     have HOA := Lib.hid (HD.out.1.alloc (.cells #[.string (bk d), .int .i64 0] 89))
     have HBA : Hid (Below w.heap.size w (wr.alloc (.cells #[.string (bk d), .int .i64 0] 89))) := Lib.hid (HB.out.trans (((Below.refl _ _).alloc (Nat.le_refl _) _).mono HB.out.size))
     have HS1 := Lib.hid (Src.lk (P := Tryz.prog) wr ⟨bk d, 0⟩ 89)
     have hm9 : l.length + 1 ≤ maxLen := by have := HLN.out; unfold maxLen; omega
     have hb9 : (l.length + 1) * 24 ≤ 140737488355328 := by have := HLN.out; omega
     clear hat hv
     go_wp2_with (first | (at_builtin; go_loud (refine wpList_append_S rfl (.tmp 33) (.tmp 39) 87 87 rfl i0 (.agg #[.string ⟨#[]⟩, .int .i64 0]) 24 (.slice 89) Tryz.underlying87 Tryz.underlying87 (fun _ h => by cases h) hi hz0 hz1 hz2 rfl rfl rfl HOA.out HS1.out hm9 hb9 (Nat.zero_le _) ?_; intro A8 c8 w8; intro ho8 hg8 hw8)) | (go_at_call 39; refine HAT.out.mono ?_; rintro e w2 ⟨rfl, rfl⟩))
     have HD8 := Lib.hid (HD.out.snoc (x := ⟨d, 0⟩) ho8 hw8 (by have := HBA.out.size; exact this))
     have HB8 := Lib.hid (HBA.out.grown hg8 HBA.out.size (fun j hj => HD.out.2 j hj))
     clear ho8 hg8 hw8 hm9 hb9
     go_wp2
     go_roundw
     case rel => exact ⟨i + 1, _, A8, c8, rfl, by simp, hlt, HTK2.out.symm, HD8.out, HB8.out⟩
     case measure => simp [intOf]; omega
    | some p =>
     have HTK2 : Hid (rootsP [] (rs.take (i + 1)) = l) := Lib.hid (by rw [HTK.out, if_neg (by rw [hat]; simp)])
     have hv : atD l d = (p : Int) := by unfold atD; rw [hat]
     rw [hv] at HAT
     have d2 : decide ((p : Int) < 0) = false := decide_eq_false (by omega)
     clear hat hv
     go_wp2_with (go_at_call 39; refine HAT.out.mono ?_; rintro e w2 ⟨rfl, rfl⟩)
     go_wp2
     go_roundw
     case rel => exact ⟨i + 1, _, A2, c2, rfl, rfl, hlt, HTK2.out.symm, HD.out, HB.out⟩
     case measure => simp [intOf]; omega
  · have d1 : decide ((i : Int) < (n : Int)) = false := decide_eq_false (by omega)
    have d1' : decide (i < n) = false := decide_eq_false hlt
    have HI0 : Hid (RClosI K r R U rs most w 0 l A2 c2 wr) := Lib.hid (by
     have e : rootsP [] rs = l := by rw [HLR.out, List.take_of_length_le (by omega)]
     exact { low := HB.out, at' := HD.out, eq := by unfold closR; rw [e]; rfl, one := by rw [← e]; exact rootsP_one rs [] List.Pairwise.nil, inU := by rw [← e]; exact rootsP_sub rs [] (fun x hx => by simp at hx) HRU.out, le := Nat.zero_le _ })
    clear HD HB HLR HLN hlt hin
    generalize wr = w1 at *
    go_wp2
    go_loopw [8, 10] (fun v8 v10 wr => ∃ (i : Nat) (l : List Git) (A2 : Option Addr) (c2 : Nat), v10 = .int .i64 i ∧ v8 = .slice A2 l.length c2 ∧ RClosI K r R U rs most w i l A2 c2 wr) (fun _ v10 _ => U.length - (intOf v10).toNat)
    case atStart => exact ⟨0, _, _, _, rfl, rfl, HI0.out⟩
    case round =>
     clear HI0
     obtain ⟨i, l, A2, c2, rfl, rfl, hI⟩ := hrel
     have HI := Lib.hid hI
     have HLU := Lib.hid (And.intro (sub_len hI.one hI.inU) HU.out.num)
     clear hI
     generalize wr = w1 at *
     by_cases hlt : i < l.length
     · have d1 : decide ((i : Int) < (l.length : Int)) = true := decide_eq_true (by omega)
       have d1' : decide (i < l.length) = true := decide_eq_true hlt
       have HLT := Lib.hid hlt
       obtain ⟨M, hM⟩ : ∃ M, max most 0 = M := ⟨_, rfl⟩
       have HM : Hid (max most 0 = M) := Lib.hid hM
       by_cases hb : M ≤ (i : Int)
       · have d2 : decide (M ≤ (i : Int)) = true := decide_eq_true hb
         have HRES : Hid (closR (getK R) U rs most = .error 5) := Lib.hid (by rw [HI.out.eq, show U.length + 1 - i = (U.length - i) + 1 by have := HLU.out.1; omega]; exact goG_big hlt (by rw [HM.out]; exact hb))
         clear hb hlt
         go_wp2
         go_ret2
         rw [HRES.out]
         exact ⟨HI.out.low, rfl⟩
       · have d2 : decide (M ≤ (i : Int)) = false := decide_eq_false hb
         have HRES : Hid (closR (getK R) U rs most = if (lookW false (gobG (getK R)) l i).2 = 0 then goG (gobG (getK R)) most (U.length + 1 - (i + 1)) (i + 1) (lookW false (gobG (getK R)) l i).1 else .error (lookW false (gobG (getK R)) l i).2) := Lib.hid (by rw [HI.out.eq, show U.length + 1 - i = (U.length - i) + 1 by have := HLU.out.1; omega, show U.length + 1 - (i + 1) = U.length - i by omega]; exact goG_step hlt (by rw [HM.out]; exact hb))
         obtain ⟨x, hx⟩ : ∃ x, l[i]? = some x := ⟨_, List.getElem?_eq_getElem hlt⟩
         have HX := Lib.hid hx
         obtain ⟨b2, o2, rfl, hbl, f0, _⟩ := HI.out.at'.cells hx
         have HBL := Lib.hid hbl
         have HGE := Lib.hid (rget_any w1 K r R x.id (HR.out.below HI.out.low) HRL.out)
         have HON := Lib.hid (lookW_one false (gobG (getK R)) i HI.out.one)
         have HSU := Lib.hid (lookW_sub HU.out false i HI.out.inU)
         have HPL : Hid (l.length ≤ (lookW false (gobG (getK R)) l i).1.length) := Lib.hid (by
          obtain ⟨t, ht⟩ := lookW_pre false (gobG (getK R)) l i
          have := congrArg List.length ht; simp at this; omega)
         have hle : ¬ (l.length : Int) ≤ i := by omega
         have hn0 : (0 : Int) ≤ i := by omega
         have hnl : (i : Int) < l.length := by omega
         have hw1 : IntKind.i64.wrap ((i : Int) + 1) = (i : Int) + 1 := IntWalk.i64_in _ (by have := HLU.out; omega)
         clear hb hlt hx hbl
         cases hgk : getK R x.id with
         | none =>
          have HLW : Hid (closR (getK R) U rs most = .error 61) := Lib.hid (by
           have h := lookW_none (G := gobG (getK R)) HX.out (by unfold gobG; rw [hgk]; rfl)
           rw [HRES.out, h]; rfl)
          rw [hgk] at HGE
          unfold getV zeroK at HGE
          clear hgk
          go_wp2_with fail
          refine HGE.out.mono ?_
          rintro e w2 ⟨rfl, hb2⟩
          have HB2 := Lib.hid hb2
          clear hb2
          go_wp2
          go_ret2
          rw [HLW.out]
          exact ⟨(HI.out.low.trans (HB2.out.mono HI.out.low.size)).alloc (by have := HI.out.low.size; have := HB2.out.size; omega) _, rfl⟩
         | some o9 =>
          have HG9 : Hid (gobG (getK R) x.id = some (gobK o9)) := Lib.hid (by unfold gobG; rw [hgk]; rfl)
          have HZ9 := Lib.hid (HU.out.sz _ _ hgk)
          rw [hgk] at HGE
          unfold getV knA at HGE
          clear hgk
          go_upto_region 15 with (go_at_call 29; refine HGE.out.mono ?_; rintro e w2 ⟨rfl, hb2⟩; have HB2 := Lib.hid hb2; clear hb2)
          have hB3 : Below w2.heap.size w2 (w2.alloc (.cells #[.int .i64 o9.kd, .string (bk o9.b), .string (bk o9.id)] 27)) := (Below.refl _ _).alloc (Nat.le_refl _) _
          have hC3 := Cel.new w2 27 #[.int .i64 o9.kd, .string (bk o9.b), .string (bk o9.id)] (fun j => (knA o9).getD j undef) (fun j hj => by
           have : j = 0 ∨ j = 1 ∨ j = 2 := by simp at hj; omega
           rcases this with rfl | rfl | rfl <;> rfl)
          generalize w2.alloc (.cells #[.int .i64 o9.kd, .string (bk o9.b), .string (bk o9.id)] 27) = w3 at *
          generalize hg3 : w2.heap.size = g3 at *
          have HG3 : Hid (w1.heap.size ≤ g3) := Lib.hid (by rw [← hg3]; exact HB2.out.size)
          have HB3 : Hid (Below w1.heap.size w1 w3) := Lib.hid (HB2.out.trans (hB3.mono HG3.out))
          have HC3 := Lib.hid hC3
          have f1 := (HB3.out.cell (p := ⟨b2, o2 + i * 2 + 1, none⟩) HBL.out).trans (HI.out.at'.cellsAt HX.out).2.2.1
          have kk0 : w3.cell? ⟨g3, 0, none⟩ = some (.int .i64 o9.kd) := HC3.out.cell 0 (show 0 < 3 by decide)
          clear hB3 hC3 hg3 f0 HGE
          go_cut [78] (fun v wx => ∃ bb, v = .bool bb ∧ bb = decide (x.kd ≠ 0 ∧ x.kd ≠ o9.kd) ∧ Below w3.heap.size w3 wx)
          case first => as_aux_lemma =>
           by_cases h0 : x.kd = 0
           · have e1 : (x.kd == 0) = true := by rw [beq_iff_eq]; exact h0
             have HQ : Hid (decide (x.kd ≠ 0 ∧ x.kd ≠ o9.kd) = false) := Lib.hid (by simp [h0])
             go_quiet (fail)
             go_wp2_with fail
             go_meet
             exact ⟨false, rfl, HQ.out.symm, Below.drewN (Below.refl _ _) _⟩
           · have e1 : (x.kd == 0) = false := by rw [beq_eq_false_iff_ne]; exact h0
             by_cases h1 : x.kd = o9.kd
             · have e2 : (x.kd == o9.kd) = true := by rw [beq_iff_eq]; exact h1
               have HQ : Hid (decide (x.kd ≠ 0 ∧ x.kd ≠ o9.kd) = false) := Lib.hid (by simp [h1])
               clear h1
               go_quiet (fail)
               go_wp2_with fail
               go_meet
               exact ⟨false, by first | rfl | (simp [bne, e1, e2]; done) | (simp [bne, e1, e2, h0]; done), HQ.out.symm, Below.drewN (Below.refl _ _) _⟩
             · have e2 : (x.kd == o9.kd) = false := by rw [beq_eq_false_iff_ne]; exact h1
               have HQ : Hid (decide (x.kd ≠ 0 ∧ x.kd ≠ o9.kd) = true) := Lib.hid (by simp [h0, h1])
               go_quiet (fail)
               go_wp2_with fail
               go_meet
               exact ⟨true, by first | rfl | (simp [bne, e1, e2]; done) | (simp [bne, e1, e2, h0]; done), HQ.out.symm, Below.drewN (Below.refl _ _) _⟩
          case rest =>
           obtain ⟨bb, rfl, hbb, hb4⟩ := hcut
           generalize wc = w4 at *
           have HB4 : Hid (Below w1.heap.size w1 w4) := Lib.hid (HB3.out.trans (hb4.mono HB3.out.size))
           have HC4 := Lib.hid (HC3.out.below hb4 HC3.out.blk)
           clear hb4 f1 kk0 HC3 HB3
           by_cases hm : x.kd ≠ 0 ∧ x.kd ≠ o9.kd
           · obtain rfl : bb = true := hbb.trans (decide_eq_true hm)
             have HLW : Hid (closR (getK R) U rs most = .error 3) := Lib.hid (by
              have h := lookW_bad (G := gobG (getK R)) HX.out HG9.out (.inl hm)
              rw [HRES.out, h]; rfl)
             clear hm hbb
             go_wp2
             go_ret2
             rw [HLW.out]
             exact ⟨HI.out.low.trans (HB4.out.mono HI.out.low.size), rfl⟩
           · obtain rfl : bb = false := hbb.trans (decide_eq_false hm)
             have HM2 := Lib.hid hm
             have HD4 := Lib.hid (HI.out.at'.below HB4.out)
             have HS5 := Lib.hid (HD4.out.set HX.out o9.kd)
             have kk0 : w4.cell? ⟨g3, 0, none⟩ = some (.int .i64 o9.kd) := HC4.out.cell 0 (show 0 < 3 by decide)
             obtain ⟨_, _, f1, fz⟩ := HD4.out.cellsAt HX.out
             have HC5 := Lib.hid (HC4.out.setFar (a := ⟨b2, o2 + i * 2 + 1, none⟩) (by have := HG3.out; have := HBL.out; show g3 ≠ b2; omega) (.int .i64 o9.kd))
             have HSZ5 : Hid ((w4.setCell ⟨b2, o2 + i * 2 + 1, none⟩ (.int .i64 o9.kd)).heap.size = w4.heap.size) := Lib.hid (by simp)
             clear hm hbb
             go_upto_region 18 with (fail)
             generalize w4.setCell ⟨b2, o2 + i * 2 + 1, none⟩ (.int .i64 o9.kd) = w5 at *
             have kj0 : w5.cell? ⟨g3, 0, none⟩ = some (.int .i64 o9.kd) := HC5.out.cell 0 (show 0 < 3 by decide)
             have kj1 : w5.cell? ⟨g3, 1, none⟩ = some (.string (bk o9.b)) := HC5.out.cell 1 (show 1 < 3 by decide)
             have HB5 : Hid (Below w.heap.size w w5) := Lib.hid ((HI.out.low.trans (HB4.out.mono HI.out.low.size)).trans (HS5.out.2.below (by have := HI.out.low.size; have := HB4.out.size; omega) (fun k hk h => by omega)))
             have HPA := Lib.hid (rparse_any o9.kd o9.b w5 (by have := HZ9.out; omega))
             clear kk0 f1 fz HC4 HD4
             go_wp2_with fail
             refine HPA.out.mono ?_
             rintro e w6 ⟨hb6, ⟨hno, n9, hn9, rfl⟩ | ⟨x8, ks, rfl, h8⟩⟩
             · have HLW : Hid (closR (getK R) U rs most = .error 3) := Lib.hid (by
                have h := lookW_bad (G := gobG (getK R)) HX.out HG9.out (.inr (by unfold gobK; rw [hno]; rfl))
                rw [HRES.out, h]; rfl)
               have HB6 : Hid (Below w.heap.size w w6) := Lib.hid (HB5.out.trans (hb6.mono HB5.out.size))
               clear hb6 hno HPA
               have hCZ := CelV.new w6 zeroV rfl
               go_wp2_with (refine wpList_store_part (vs := zeroV) (off := 0) rfl (.tmp 13) (.tmp 91) rfl rfl rfl hCZ info_o8 (Nat.le_refl 12) zeroV_one ?_; intro w7 hC7 hg7 hs7)
               go_ret2
               rw [HLW.out]
               exact ⟨(HB6.out.alloc HB6.out.size _).grown hg7 (by have := HB6.out.size; simp; omega) (fun k h => by injection h with h; rw [← h]; exact HB6.out.size), rfl⟩
             · have HLW : Hid (lookW false (gobG (getK R)) l i = ((linksW false (l.modify i fun y => ⟨y.id, o9.kd⟩) (ks.map lkG)).1, if (linksW false (l.modify i fun y => ⟨y.id, o9.kd⟩) (ks.map lkG)).2 then 0 else 3)) := Lib.hid (lookW_ok (o := gobK o9) HX.out HG9.out HM2.out (by unfold gobK; rw [h8.lk]; rfl))
               have HNZ := Lib.hid (lkOf_nz h8.lk)
               have HKN : Hid (ks.length ≤ 268435457) := Lib.hid (by have := lkOf_num h8.lk; have := HZ9.out; omega)
               have HB6 : Hid (Below w5.heap.size w5 w6) := Lib.hid hb6
               have HLK := Lib.hid h8.links
               have HV1 := Lib.hid h8.one
               have hCZ := CelV.new w6 zeroV rfl
               have hB7 : Below w6.heap.size w6 (w6.alloc (.cells zeroV 67)) := (Below.refl _ _).alloc (Nat.le_refl _) _
               clear hb6 h8 HPA HM2 kj0 kj1
               unfold Ob8.V at HV1 ⊢
               go_upto_region 19 with (refine wpList_store_part (vs := #[.int .i64 x8.kd, .string x8.d, x8.vL, .string x8.t, x8.vP, .string x8.a, .string x8.c, .string x8.o, .string x8.n, .int .i64 x8.ty, .string x8.g, .string x8.m]) (off := 0) rfl (.tmp 13) (.tmp 91) rfl rfl rfl hCZ info_o8 (Nat.le_refl 12) HV1.out ?_; intro w7 hC7 hg7 hs7; have hC7b := CelV.stored rfl hC7)
               have HCV := Lib.hid hC7b
               have hb7 : Below w6.heap.size w6 w7 := hB7.grown hg7 (by simp) (fun k h => by injection h with h; exact Nat.le_of_eq h)
               clear hC7 hC7b hg7 hs7 hB7 hCZ
               generalize hg7 : w6.heap.size = g7 at *
               unfold Ob8.V at HLK
               have HLK7 := Lib.hid (HLK.out w7 (Chg.of_below (by rw [hg7]; exact hb7)))
               have HB7 : Hid (Below w5.heap.size w5 w7) := Lib.hid (HB6.out.trans (hb7.mono (by rw [← hg7]; exact HB6.out.size)))
               clear hb7 HLK hg7
               go_wp2_with (first
                | (refine wpList_load_part (vs := #[.int .i64 x8.kd, .string x8.d, x8.vL, .string x8.t, x8.vP, .string x8.a, .string x8.c, .string x8.o, .string x8.n, .int .i64 x8.ty, .string x8.g, .string x8.m]) (off := 0) rfl (.tmp 13) rfl rfl HCV.out Tryz.underlying67 rfl info_o8 (Nat.le_refl 12) (fun j hj => by rw [Nat.zero_add]; exact getD_some hj) ?_)
                | (go_at_call 31; refine HLK7.out.mono ?_; rintro e w9 ⟨hb9, A9, c9, rfl, ho9⟩; have HB9 := Lib.hid hb9; have HO9 := Lib.hid ho9; clear hb9 ho9))
               have HSZ : Hid (w.heap.size ≤ w5.heap.size ∧ w5.heap.size ≤ w7.heap.size ∧ w7.heap.size ≤ w9.heap.size) := Lib.hid ⟨HB5.out.size, HB7.out.size, HB9.out.size⟩
               have HB59 : Hid (Below w5.heap.size w5 w9) := Lib.hid (HB7.out.trans (HB9.out.mono HB7.out.size))
               have HD9 : Hid (DocL w9 (fun k => (w.heap.size ≤ k ∧ k < w7.heap.size) ∨ w9.heap.size ≤ k) (some ⟨b2, o2, none⟩) c2 (l.modify i fun y => ⟨y.id, o9.kd⟩)) := Lib.hid (HS5.out.1.keep (S := fun k => w5.heap.size ≤ k) (Chg.of_below HB59.out) (fun k _ h1 h2 => by omega) (fun k hk h2 => .inl ⟨hk, by have := HSZ.out; omega⟩))
               have HLM : Hid ((l.modify i fun y => (⟨y.id, o9.kd⟩ : Git)).length = l.length) := Lib.hid (by simp)
               clear HLK7 HB7 HCV HV1 HC5 HS5 HB4 HSZ5
               go_wp2
               go_loopw [8, 16] (fun v8 v16 wr => ∃ (j : Nat) (l' : List Git) (A3 : Option Addr) (c3 : Nat), v16 = .int .i64 j ∧ v8 = .slice A3 l'.length c3 ∧ j ≤ ks.length ∧ DocL wr (fun k => (w.heap.size ≤ k ∧ k < w7.heap.size) ∨ w9.heap.size ≤ k) A3 c3 l' ∧ Chg (fun k => (w.heap.size ≤ k ∧ k < w7.heap.size) ∨ w9.heap.size ≤ k) w9 wr ∧ linksW false (l.modify i fun y => ⟨y.id, o9.kd⟩) (ks.map lkG) = linksW false l' ((ks.drop j).map lkG) ∧ l'.length ≤ l.length + j) (fun _ v16 _ => ks.length - (intOf v16).toNat)
               case atStart => exact ⟨0, l.modify i fun y => ⟨y.id, o9.kd⟩, _, c2, rfl, by rw [HLM.out], Nat.zero_le _, HD9.out, Chg.refl _ _, by rw [List.drop_zero], by rw [HLM.out]; exact Nat.le_refl _⟩
               case round =>
                obtain ⟨j, l', A3, c3, rfl, rfl, hj, hd', hcr, hlk', hln'⟩ := hrel
                have HDR := Lib.hid hd'
                have HCR := Lib.hid hcr
                have HLR := Lib.hid hlk'
                have HNR := Lib.hid hln'
                have HBW : Hid (Below w.heap.size w wr) := Lib.hid ((HB5.out.trans (HB59.out.mono HB5.out.size)).trans (hcr.below (by have := HSZ.out; omega) (fun k hk h => by have := HSZ.out; omega)))
                clear hd' hcr hlk' hln' HD9
                by_cases hlt : j < ks.length
                · have d1 : decide ((j : Int) < (ks.length : Int)) = true := decide_eq_true (by omega)
                  have d1' : decide (j < ks.length) = true := decide_eq_true hlt
                  have hor := HO9.out.chg HCR.out (fun k hk h => by have h1 := HO9.out.lt k hk; omega)
                  obtain ⟨kb, ko, rfl, _, hkl, hkc⟩ := OwnS.flat (g := lkV) (fun _ => rfl) (by decide) hor (List.getElem?_eq_getElem hlt)
                  have HY0 : Hid (ks[j].k ≠ 0) := Lib.hid (HNZ.out _ (List.getElem_mem hlt))
                  have HDR2 : Hid ((ks.drop j).map lkG = lkG ks[j] :: (ks.drop (j + 1)).map lkG) := Lib.hid (by rw [List.drop_eq_getElem_cons hlt]; rfl)
                  generalize ks[j] = y at *
                  obtain ⟨yi, yk⟩ := y
                  obtain ⟨d, rfl⟩ : ∃ d, yi = bk d := ⟨_, (bk_of yi).symm⟩
                  have hye : lkG ⟨bk d, yk⟩ = ⟨d, yk⟩ := by unfold lkG; rw [bk_list]
                  rw [hye] at HDR2
                  have f0 : wr.cell? ⟨kb, ko + j * 2, none⟩ = some (.string (bk d)) := hkc 0 (by decide)
                  have f1 : wr.cell? ⟨kb, ko + j * 2 + 1, none⟩ = some (.int .i64 yk) := hkc 1 (by decide)
                  have hle : ¬ (ks.length : Int) ≤ j := by omega
                  have hn0 : (0 : Int) ≤ j := by omega
                  have hnl : (j : Int) < ks.length := by omega
                  have hw2 : IntKind.i64.wrap ((j : Int) + 1) = (j : Int) + 1 := IntWalk.i64_in _ (by have := HKN.out; omega)
                  have HKL := Lib.hid hkl
                  have HLB : Hid (l'.length ≤ 805306369) := Lib.hid (by have := HNR.out; have := HLU.out; have := HKN.out; omega)
                  have HAT := Lib.hid (rat_any wr 0 A3 l'.length c3 l' d HDR.out.1 rfl (by have := HLB.out; omega))
                  dsimp only at HY0
                  clear hor hkl hkc hye
                  cases hat : atG l' d with
                  | none =>
                   have HAD : Hid (addG l' ⟨d, yk⟩ = (l' ++ [⟨d, yk⟩], true)) := Lib.hid (addG_new hat)
                   have hv : atD l' d = -1 := by unfold atD; rw [hat]
                   rw [hv] at HAT
                   have HNX : Hid (linksW false (l.modify i fun y => ⟨y.id, o9.kd⟩) (ks.map lkG) = linksW false (l' ++ [⟨d, yk⟩]) ((ks.drop (j + 1)).map lkG)) := Lib.hid (by rw [HLR.out, HDR2.out, linksW_yes (by rw [HAD.out]), HAD.out])
                   have HF := Lib.hid (And.intro f0 f1)
                   have HI0 := Lib.hid (show ILk wr (fun k => (w.heap.size ≤ k ∧ k < w7.heap.size) ∨ w9.heap.size ≤ k) A3 c3 l' ⟨d, yk⟩ [] wr.drew from (Below.refl _ _).drew)
                   clear hat hv f1
                   go_upto_region 27 with (go_at_call 39; refine HAT.out.mono ?_; rintro e w2 ⟨rfl, hww⟩; have hww2 := hww.symm; subst hww2)
                   refine wp_region_ph (by kernel_rfl) [12, 13, 14] [.span 0 1, .span 0 0, .span 0 0, .span 0 0, .span 0 0, .span 0 0, .span 0 0, .span 0 0, .span 0 0, .span 0 0, .span 0 0, .span 0 0, .phase 0, .phase 1, .phase 2] [fun z9 => z9 = .slice A3 l'.length c3, fun z9 => z9 = .slice (some ⟨kb, ko, none⟩) ks.length c9, fun z9 => z9 = .int .i64 (j : Int), fun z9 => z9 = .pointer (some ⟨kb, ko + j * 2, none⟩), fun z9 => z9 = .pointer (some ⟨kb, ko + j * 2, none⟩), fun z9 => z9 = .string (bk d), fun z9 => z9 = .slice (some ⟨kb, ko, none⟩) ks.length c9, fun z9 => z9 = .int .i64 (j : Int), fun z9 => z9 = .pointer (some ⟨kb, ko + j * 2, none⟩), fun z9 => z9 = .pointer (some ⟨kb, ko + j * 2 + 1, none⟩), fun z9 => z9 = .int .i64 yk, fun z9 => z9 = .agg #[.string (bk d), .int .i64 yk], fun _ => True, fun _ => True, fun _ => True] ((ILk wr (fun k => (w.heap.size ≤ k ∧ k < w7.heap.size) ∨ w9.heap.size ≤ k) A3 c3 l' ⟨d, yk⟩)) (by kernel_rfl) (by kernel_rfl) (by kernel_rfl) (by kernel_rfl) (by kernel_rfl) (by kernel_rfl) rfl rfl (HI0.out) ?steps ?done
                   case steps =>
                    refine ⟨?_, ?_, ?_, ?_, ?_, ?_, ?_, ?_, ?_, ?_, ?_, ?_, ?_, ?_, ?_, trivial⟩
                    · intro us au w1 k0 hlo hhi ha hd hst hI
                      have q8 := slot_start (t := 8) (v := .slice A3 l'.length c3) 14 ha (hst 14 (by decide) (by kernel_rfl)) (by kernel_rfl) (by kernel_rfl) (by kernel_rfl) (by kernel_rfl)
                      have p8 := slot_norm q8
                      clear ha hd hst
                      exact StepI.pure (v := .slice A3 l'.length c3) rfl rfl (by go_simp) ⟨rfl, hI⟩
                    · intro us au w1 k1 hlo hhi ha hd hst hI
                      obtain rfl : k1 = 0 := by omega
                      have q15 := slot_far (t := 15) (v := .slice (some ⟨kb, ko, none⟩) ks.length c9) ha (by kernel_rfl) (by kernel_rfl)
                      have p15 := slot_norm q15
                      clear ha hd hst
                      exact StepI.pure (v := .slice (some ⟨kb, ko, none⟩) ks.length c9) rfl rfl (by go_simp) ⟨rfl, hI⟩
                    · intro us au w1 k2 hlo hhi ha hd hst hI
                      obtain rfl : k2 = 0 := by omega
                      have q16 := slot_far (t := 16) (v := .int .i64 (j : Int)) ha (by kernel_rfl) (by kernel_rfl)
                      have p16 := slot_norm q16
                      clear ha hd hst
                      exact StepI.pure (v := .int .i64 (j : Int)) rfl rfl (by go_simp) ⟨rfl, hI⟩
                    · intro us au w1 k3 hlo hhi ha hd hst hI
                      obtain rfl : k3 = 0 := by omega
                      have e1 := hd 1 _ (by kernel_rfl) rfl
                      have e2 := hd 2 _ (by kernel_rfl) rfl
                      have q114 := slot_at (t := 114) 1 ha (by kernel_rfl) (by kernel_rfl) (by kernel_rfl) e1
                      have p114 := slot_norm q114
                      have q115 := slot_at (t := 115) 2 ha (by kernel_rfl) (by kernel_rfl) (by kernel_rfl) e2
                      have p115 := slot_norm q115
                      clear ha hd hst
                      exact StepI.pure (v := .pointer (some ⟨kb, ko + j * 2, none⟩)) rfl rfl (by go_simp) ⟨rfl, hI⟩
                    · intro us au w1 k4 hlo hhi ha hd hst hI
                      obtain rfl : k4 = 0 := by omega
                      have e3 := hd 3 _ (by kernel_rfl) rfl
                      have q116 := slot_at (t := 116) 3 ha (by kernel_rfl) (by kernel_rfl) (by kernel_rfl) e3
                      have p116 := slot_norm q116
                      clear ha hd hst
                      exact StepI.pure (v := .pointer (some ⟨kb, ko + j * 2, none⟩)) rfl rfl (by go_simp) ⟨rfl, hI⟩
                    · intro us au w1 k5 hlo hhi ha hd hst hI
                      obtain rfl : k5 = 0 := by omega
                      have e4 := hd 4 _ (by kernel_rfl) rfl
                      have q117 := slot_at (t := 117) 4 ha (by kernel_rfl) (by kernel_rfl) (by kernel_rfl) e4
                      have p117 := slot_norm q117
                      clear ha hd hst
                      have hb : Below wr.heap.size wr w1 := by first | exact hI | (rcases (show k5 = 0 ∨ k5 = 1 by omega) with rfl | rfl <;> first | exact hI | exact hI.2)
                      have kk : w1.cell? ⟨kb, ko + j * 2, none⟩ = some (.string (bk d)) := (hb.cell (p := ⟨kb, ko + j * 2, none⟩) HKL.out).trans HF.out.1
                      exact StepI.pure (v := .string (bk d)) rfl rfl (by go_simp) ⟨rfl, hI⟩
                    · intro us au w1 k6 hlo hhi ha hd hst hI
                      obtain rfl : k6 = 0 := by omega
                      have q15 := slot_far (t := 15) (v := .slice (some ⟨kb, ko, none⟩) ks.length c9) ha (by kernel_rfl) (by kernel_rfl)
                      have p15 := slot_norm q15
                      clear ha hd hst
                      exact StepI.pure (v := .slice (some ⟨kb, ko, none⟩) ks.length c9) rfl rfl (by go_simp) ⟨rfl, hI⟩
                    · intro us au w1 k7 hlo hhi ha hd hst hI
                      obtain rfl : k7 = 0 := by omega
                      have q16 := slot_far (t := 16) (v := .int .i64 (j : Int)) ha (by kernel_rfl) (by kernel_rfl)
                      have p16 := slot_norm q16
                      clear ha hd hst
                      exact StepI.pure (v := .int .i64 (j : Int)) rfl rfl (by go_simp) ⟨rfl, hI⟩
                    · intro us au w1 k8 hlo hhi ha hd hst hI
                      obtain rfl : k8 = 0 := by omega
                      have e6 := hd 6 _ (by kernel_rfl) rfl
                      have e7 := hd 7 _ (by kernel_rfl) rfl
                      have q119 := slot_at (t := 119) 6 ha (by kernel_rfl) (by kernel_rfl) (by kernel_rfl) e6
                      have p119 := slot_norm q119
                      have q120 := slot_at (t := 120) 7 ha (by kernel_rfl) (by kernel_rfl) (by kernel_rfl) e7
                      have p120 := slot_norm q120
                      clear ha hd hst
                      exact StepI.pure (v := .pointer (some ⟨kb, ko + j * 2, none⟩)) rfl rfl (by go_simp) ⟨rfl, hI⟩
                    · intro us au w1 k9 hlo hhi ha hd hst hI
                      obtain rfl : k9 = 0 := by omega
                      have e8 := hd 8 _ (by kernel_rfl) rfl
                      have q121 := slot_at (t := 121) 8 ha (by kernel_rfl) (by kernel_rfl) (by kernel_rfl) e8
                      have p121 := slot_norm q121
                      clear ha hd hst
                      exact StepI.pure (v := .pointer (some ⟨kb, ko + j * 2 + 1, none⟩)) rfl rfl (by go_simp) ⟨rfl, hI⟩
                    · intro us au w1 k10 hlo hhi ha hd hst hI
                      obtain rfl : k10 = 0 := by omega
                      have e9 := hd 9 _ (by kernel_rfl) rfl
                      have q122 := slot_at (t := 122) 9 ha (by kernel_rfl) (by kernel_rfl) (by kernel_rfl) e9
                      have p122 := slot_norm q122
                      clear ha hd hst
                      have hb : Below wr.heap.size wr w1 := by first | exact hI | (rcases (show k10 = 0 ∨ k10 = 1 by omega) with rfl | rfl <;> first | exact hI | exact hI.2)
                      have kk : w1.cell? ⟨kb, ko + j * 2 + 1, none⟩ = some (.int .i64 yk) := (hb.cell (p := ⟨kb, ko + j * 2 + 1, none⟩) HKL.out).trans HF.out.2
                      exact StepI.pure (v := .int .i64 yk) rfl rfl (by go_simp) ⟨rfl, hI⟩
                    · intro us au w1 k11 hlo hhi ha hd hst hI
                      obtain rfl : k11 = 0 := by omega
                      have e5 := hd 5 _ (by kernel_rfl) rfl
                      have e10 := hd 10 _ (by kernel_rfl) rfl
                      have q118 := slot_at (t := 118) 5 ha (by kernel_rfl) (by kernel_rfl) (by kernel_rfl) e5
                      have p118 := slot_norm q118
                      have q123 := slot_at (t := 123) 10 ha (by kernel_rfl) (by kernel_rfl) (by kernel_rfl) e10
                      have p123 := slot_norm q123
                      clear ha hd hst
                      exact StepI.pure (v := .agg #[.string (bk d), .int .i64 yk]) rfl rfl (by go_simp) ⟨rfl, hI⟩
                    · intro us au w1 ha hd hst hI
                      have e11 := hd 11 _ (by kernel_rfl) rfl
                      have q124 := slot_at (t := 124) 11 ha (by kernel_rfl) (by kernel_rfl) (by kernel_rfl) e11
                      have p124 := slot_norm q124
                      clear ha hd hst
                      exact StepI.runs (v := .slice (some ⟨w1.heap.size, 0, none⟩) 1 1) (w' := w1.alloc (.cells #[.string (bk d), .int .i64 yk] 89)) rfl rfl (by go_simp) ⟨trivial, ⟨w1.heap.size, rfl, Src.lk w1 ⟨bk d, yk⟩ _⟩, Below.trans hI (((Below.refl _ _).alloc (Nat.le_refl _) _).mono (Below.size hI))⟩
                    · intro us au w1 ha hd hst hI
                      have e0 := hd 0 _ (by kernel_rfl) rfl
                      obtain ⟨e12⟩ := hd 12 _ (by kernel_rfl) rfl
                      have q113 := slot_at (t := 113) 0 ha (by kernel_rfl) (by kernel_rfl) (by kernel_rfl) e0
                      have p113 := slot_norm q113
                      have q125 := slot_at (t := 125) 12 ha (by kernel_rfl) (by kernel_rfl) (by kernel_rfl) (Eq.refl (us 12))
                      have p125 := slot_norm q125
                      clear ha hd hst
                      obtain ⟨⟨gs, hv8, hsrc⟩, hb8⟩ := hI
                      rw [hv8] at p125 hsrc
                      refine StepI.wp rfl rfl ?_
                      intro K9 hK9
                      have ho8 := HDR.out.1.chg (S := fun _ => False) (Chg.of_below hb8) (fun _ _ h => h)
                      refine wp_append_S (.tmp 113) (.tmp 125) 87 87 rfl i0 (.agg #[.string ⟨#[]⟩, .int .i64 0]) 24 (.slice 89) Tryz.underlying87 Tryz.underlying87 (fun _ h => by cases h) hi hz0 hz1 hz2 rfl (by go_simp) (by go_simp) ho8 hsrc (by have := HLB.out; unfold maxLen; omega) (by have := HLB.out; omega) (Nat.zero_le _) ?_
                      intro A9 c9 w9' ho9 hg9 hw9'
                      refine hK9 _ _ ⟨trivial, ⟨A9, c9, rfl, HDR.out.snoc (x := ⟨d, yk⟩) ho9 hw9' (.inr (by have h1 := HCR.out.size; have h2 := hb8.size; omega))⟩, (Chg.of_below (S := (fun k => (w.heap.size ≤ k ∧ k < w7.heap.size) ∨ w9.heap.size ≤ k)) hb8).trans (Chg.of_grown (S := (fun k => (w.heap.size ≤ k ∧ k < w7.heap.size) ∨ w9.heap.size ≤ k)) hg9 (fun k hk => HDR.out.2 k hk)) (fun _ _ h => h)⟩
                    · intro us au w1 ha hd hst hI
                      obtain ⟨e13⟩ := hd 13 _ (by kernel_rfl) rfl
                      have q126 := slot_at (t := 126) 13 ha (by kernel_rfl) (by kernel_rfl) (by kernel_rfl) (Eq.refl (us 13))
                      have p126 := slot_norm q126
                      clear ha hd hst
                      exact StepI.pure (v := us 13) rfl rfl (by go_simp) ⟨trivial, hI⟩
                   case done =>
                    intro us w1 hI hd
                    have HI9 : Hid ((∃ A' c', us 14 = .slice A' (l'.length + 1) c' ∧ DocL w1 (fun k => (w.heap.size ≤ k ∧ k < w7.heap.size) ∨ w9.heap.size ≤ k) A' c' (l' ++ [⟨d, yk⟩])) ∧ Chg (fun k => (w.heap.size ≤ k ∧ k < w7.heap.size) ∨ w9.heap.size ≤ k) wr w1) := Lib.hid hI
                    clear hI hd
                    obtain ⟨⟨A8, c8, e14, hd8⟩, hc8⟩ := HI9.out
                    have HD8 := Lib.hid hd8
                    have HC8 := Lib.hid (HCR.out.trans hc8 (fun _ _ h => h))
                    clear hd8 hc8
                    simp only [putAll, e14]
                    go_simp
                    go_wp2
                    go_roundw
                    case rel => exact ⟨j + 1, _, A8, c8, rfl, by simp, hlt, HD8.out, HC8.out, HNX.out, by have := HNR.out; simp; omega⟩
                    case measure => simp [intOf]; omega
                  | some p =>
                   obtain ⟨z, hz, hzd⟩ := atG_lt hat
                   have hpl : p < l'.length := (List.getElem?_eq_some_iff.1 hz).1
                   have HZ := Lib.hid hz
                   have HAT2 := Lib.hid hat
                   have hv : atD l' d = (p : Int) := by unfold atD; rw [hat]
                   rw [hv] at HAT
                   have d2 : decide ((p : Int) < 0) = false := decide_eq_false (by omega)
                   have hle2 : ¬ (l'.length : Int) ≤ p := by omega
                   have hp0 : (0 : Int) ≤ p := by omega
                   have hpn : (p : Int) < l'.length := by omega
                   obtain ⟨b3, o3, rfl, hb3, g0, g1, gz⟩ := HDR.out.cells hz
                   clear hat hv hz hzd hb3 g0 hpl
                   by_cases hz0 : z.kd = 0
                   · have HAD : Hid (addG l' ⟨d, yk⟩ = (l'.modify p fun q => ⟨q.id, yk⟩, true)) := Lib.hid (addG_fill HAT2.out HZ.out hz0)
                     have HNX : Hid (linksW false (l.modify i fun y => ⟨y.id, o9.kd⟩) (ks.map lkG) = linksW false (l'.modify p fun q => ⟨q.id, yk⟩) ((ks.drop (j + 1)).map lkG)) := Lib.hid (by rw [HLR.out, HDR2.out, linksW_yes (by rw [HAD.out]), HAD.out])
                     have HSE := Lib.hid (HDR.out.set HZ.out yk)
                     have d3 : (z.kd == 0) = true := by rw [beq_iff_eq]; exact hz0
                     clear hz0
                     go_wp2_with (go_at_call 39; refine HAT.out.mono ?_; rintro e w2 ⟨rfl, hww⟩; have hww2 := hww.symm; subst hww2)
                     go_roundw
                     case rel => exact ⟨j + 1, _, _, c3, rfl, by rw [List.length_modify], hlt, HSE.out.1, HCR.out.trans HSE.out.2 (fun _ _ h => h), HNX.out, by rw [List.length_modify]; have := HNR.out; omega⟩
                     case measure => simp [intOf]; omega
                   · have HAD : Hid (addG l' ⟨d, yk⟩ = (l', decide (z.kd = yk))) := Lib.hid (addG_old HAT2.out HZ.out hz0 HY0.out)
                     have d3 : (z.kd == 0) = false := by rw [beq_eq_false_iff_ne]; exact hz0
                     clear hz0
                     go_upto_region 30 with (go_at_call 39; refine HAT.out.mono ?_; rintro e w2 ⟨rfl, hww⟩; have hww2 := hww.symm; subst hww2)
                     go_cut [143] (fun v wx => v = .bool (z.kd != yk) ∧ Below wr.heap.size wr wx)
                     case first => as_aux_lemma =>
                      go_quiet (fail)
                      go_wp2_with fail
                      go_meet
                      exact ⟨by first | rfl | simp [bne], Below.drewN (Below.refl _ _) _⟩
                     case rest =>
                      obtain ⟨rfl, hbc⟩ := hcut
                      generalize wc = w10 at *
                      have HBC := Lib.hid hbc
                      have HDC := Lib.hid (HDR.out.below hbc)
                      have HCC := Lib.hid (HCR.out.trans (Chg.of_below (S := fun _ => False) hbc) (fun _ _ h => h.elim))
                      clear hbc f0 f1 g1 gz
                      by_cases hzk : z.kd = yk
                      · have d4 : (z.kd == yk) = true := by rw [beq_iff_eq]; exact hzk
                        have d5 : (z.kd != yk) = false := by rw [bne, d4]; rfl
                        have HNX : Hid (linksW false (l.modify i fun y => ⟨y.id, o9.kd⟩) (ks.map lkG) = linksW false l' ((ks.drop (j + 1)).map lkG)) := Lib.hid (by rw [HLR.out, HDR2.out, linksW_yes (by rw [HAD.out]; exact decide_eq_true hzk), HAD.out])
                        clear hzk
                        rw [d5]
                        go_wp2
                        go_roundw
                        case rel => exact ⟨j + 1, _, _, c3, rfl, rfl, hlt, HDC.out, HCC.out, HNX.out, by have := HNR.out; omega⟩
                        case measure => simp [intOf]; omega
                      · have d4 : (z.kd == yk) = false := by rw [beq_eq_false_iff_ne]; exact hzk
                        have d5 : (z.kd != yk) = true := by rw [bne, d4]; rfl
                        have HRS : Hid (closR (getK R) U rs most = .error 3) := Lib.hid (by
                         have h : linksW false (l.modify i fun y => ⟨y.id, o9.kd⟩) (ks.map lkG) = (l', false) := by rw [HLR.out, HDR2.out, linksW_no (by rw [HAD.out]; exact decide_eq_false hzk), HAD.out]
                         rw [HRES.out, HLW.out, h]; rfl)
                        clear hzk
                        rw [d5]
                        go_wp2
                        go_ret2
                        rw [HRS.out]
                        exact ⟨HBW.out.trans (HBC.out.mono HBW.out.size), rfl⟩
                · have d1 : decide ((j : Int) < (ks.length : Int)) = false := decide_eq_false (by omega)
                  have d1' : decide (j < ks.length) = false := decide_eq_false hlt
                  have hNX : lookW false (gobG (getK R)) l i = (l', 0) := by
                   rw [HLW.out, HLR.out, List.drop_eq_nil_of_le (by omega)]; rfl
                  have HEQ : Hid (closR (getK R) U rs most = goG (gobG (getK R)) most (U.length + 1 - (i + 1)) (i + 1) l') := Lib.hid (by rw [HRES.out, hNX]; rfl)
                  rw [hNX] at HON HSU HPL
                  have HFI : Hid (RClosI K r R U rs most w (i + 1) l' A3 c3 wr) := Lib.hid { low := HBW.out, at' := HDR.out.keep (Chg.refl (fun _ => False) _) (fun _ _ _ h => h) (fun k hk _ => by have := HSZ.out; omega), eq := HEQ.out, one := HON.out, inU := HSU.out, le := by have h1 := HPL.out; have h2 := HLT.out; dsimp only at h1; omega }
                  clear hNX hj hlt
                  go_wp2
                  go_roundw
                  case rel => exact ⟨i + 1, _, A3, c3, rfl, rfl, HFI.out⟩
                  case measure => have := HLU.out; have := HLT.out; simp [intOf]; omega
     · have d1 : decide ((i : Int) < (l.length : Int)) = false := decide_eq_false (by omega)
       have d1' : decide (i < l.length) = false := decide_eq_false hlt
       have HRES : Hid (closR (getK R) U rs most = .ok l) := Lib.hid (by rw [HI.out.eq]; exact goG_end (by omega))
       clear hlt
       go_wp2
       go_loopw [18, 19] (fun v18 v19 wr => ∃ (j : Nat) (out : List Gid) (A3 : Option Addr) (c3 : Nat), v19 = .int .i64 j ∧ v18 = .slice A3 out.length c3 ∧ j ≤ l.length ∧ OwnS wr w.heap.size 9 1 (.slice A3 out.length c3) out.length (strVs out) ∧ Below w1.heap.size w1 wr ∧ Rise out ∧ putAllS [] (l.map (·.id)) = putAllS out ((l.map (·.id)).drop j) ∧ out.length ≤ j) (fun _ v19 _ => l.length - (intOf v19).toNat)
       case atStart => exact ⟨0, [], none, 0, rfl, rfl, Nat.zero_le _, OwnS.nil _ _ _ _, Below.refl _ _, List.Pairwise.nil, by rw [List.drop_zero], Nat.le_refl _⟩
       case round =>
        obtain ⟨j, out, A3, c3, rfl, rfl, hj, ho, hb, hri, hpu, hol⟩ := hrel
        have HO := Lib.hid ho
        have HB := Lib.hid hb
        have HRI := Lib.hid hri
        have HPU := Lib.hid hpu
        have HOL := Lib.hid hol
        clear ho hb hri hpu hol
        by_cases hlt : j < l.length
        · have e1 : decide ((j : Int) < (l.length : Int)) = true := decide_eq_true (by omega)
          have e1' : decide (j < l.length) = true := decide_eq_true hlt
          obtain ⟨x, hx⟩ : ∃ x, l[j]? = some x := ⟨_, List.getElem?_eq_getElem hlt⟩
          obtain ⟨b2, o2, rfl, hbl, g0, _⟩ := HI.out.at'.cells hx
          have f0 := (HB.out.cell (p := ⟨b2, o2 + j * 2, none⟩) hbl).trans g0
          have hle : ¬ (l.length : Int) ≤ j := by omega
          have hn0 : (0 : Int) ≤ j := by omega
          have hnl : (j : Int) < l.length := by omega
          have hw1 : IntKind.i64.wrap ((j : Int) + 1) = (j : Int) + 1 := IntWalk.i64_in _ (by have := HLU.out; omega)
          have HNX : Hid (putAllS [] (l.map (·.id)) = putAllS (putS x.id out) ((l.map (·.id)).drop (j + 1))) := Lib.hid (by
           have hm : (l.map (·.id)).drop j = x.id :: (l.map (·.id)).drop (j + 1) := by
            rw [List.drop_eq_getElem_cons (by rw [List.length_map]; exact hlt)]
            congr 1
            rw [List.getElem_map, (List.getElem?_eq_some_iff.1 hx).2]
           rw [HPU.out, hm]; rfl)
          have HPT := Lib.hid (rput_any wr w.heap.size A3 out.length c3 out x.id HO.out rfl HRI.out (by have := HOL.out; have := HLU.out; omega))
          have HRI2 : Hid (Rise (putS x.id out) ∧ (putS x.id out).length ≤ j + 1) := Lib.hid ⟨putS_rise HRI.out, by have := putS_len x.id out; have := HOL.out; omega⟩
          clear g0 hbl hx
          go_wp2_with fail
          refine HPT.out.mono ?_
          rintro e w2 ⟨hb2, A4, c4, rfl, ho4⟩
          have HB2 := Lib.hid (HB.out.trans (hb2.mono HB.out.size))
          have HO4 := Lib.hid (ho4.base_ (by have h1 := HI.out.low.size; have h2 := HB.out.size; exact Nat.le_trans h1 h2))
          clear hb2 ho4
          go_wp2
          go_roundw
          case rel => exact ⟨j + 1, _, A4, c4, rfl, rfl, hlt, HO4.out, HB2.out, HRI2.out.1, HNX.out, HRI2.out.2⟩
          case measure => simp [intOf]; omega
        · have e1 : decide ((j : Int) < (l.length : Int)) = false := decide_eq_false (by omega)
          have e1' : decide (j < l.length) = false := decide_eq_false hlt
          have HOE : Hid (putAllS [] (l.map (·.id)) = out) := Lib.hid (by rw [HPU.out, List.drop_eq_nil_of_le (by rw [List.length_map]; omega)]; rfl)
          go_wp2
          go_ret2
          rw [HRES.out]
          refine ⟨HI.out.low.trans (HB.out.mono HI.out.low.size), A3, c3, ?_, ?_⟩
          · rw [HOE.out]; rfl
          · rw [HOE.out]; exact HO.out
end Go.Proofs.YtihanglnjghcfaaGreatDoor
namespace Go.Proofs.YtihanglnjghcfaaGreatDoor
open Go.RowKit Go.Maps
set_option linter.unusedVariables false
set_option linter.unusedSimpArgs false

theorem cell_chg {S : Nat → Prop} {w w' : World} {b i : Nat} {v : Value} (h : w.cell? ⟨b, i, none⟩ = some v) (hc : Chg S w w') (hn : ¬ S b) : w'.cell? ⟨b, i, none⟩ = some v :=
 (World.cell?_of_block (hc.block b (block_lt h) hn)).trans h
def thOut (G : Gid → Option Kn) (qs : List Gid) : List Gid := qs.filter fun d => (G d).isSome
theorem thOut_len (G : Gid → Option Kn) (qs : List Gid) : (thOut G qs).length ≤ qs.length := List.length_filter_le _ _
theorem thOut_no {G : Gid → Option Kn} {qs : List Gid} {d : Gid} (h : G d = none) : thOut G (qs ++ [d]) = thOut G qs := by
 unfold thOut; rw [List.filter_append]; simp [h]
theorem thOut_yes {G : Gid → Option Kn} {qs : List Gid} {d : Gid} {x : Kn} (h : G d = some x) : thOut G (qs ++ [d]) = thOut G qs ++ [d] := by
 unfold thOut; rw [List.filter_append]; simp [h]
def oneF (v : Value) : Nat → Value := fun _ => v
/-- The memory of the function that There makes: the law's Get below, a box that holds it, a box that holds the list. -/
structure ThSt (F0 : Nat → Prop) (r b1 b2 bg bo : Nat) (R : List Kn) (gone : Gid) (F : Nat → Prop) (qs : List Gid) (w : World) : Prop where
 lt : ∀ k, F k → k < w.heap.size
 sub : ∀ k, F0 k → F k
 rep : RepAt w F0 r R
 f12 : F0 b1 ∧ F0 b2
 k1 : w.cell? ⟨b1, 0, none⟩ = some (.pointer (some ⟨r, 0, none⟩))
 k2 : w.cell? ⟨b2, 0, none⟩ = some (.string (bk gone))
 fg : F bg ∧ ¬ F0 bg
 kg : w.cell? ⟨bg, 0, none⟩ = some (fnV 38 (.pointer (some ⟨b1, 0, none⟩)) (.pointer (some ⟨b2, 0, none⟩)))
 fo : F bo ∧ ¬ F0 bo ∧ bo ≠ bg
 out : ∃ A c, Cel w bo 32 1 (oneF (.slice A (thOut (withoutK R gone) qs).length c)) ∧ DocS w (fun k => F k ∧ ¬ F0 k ∧ k ≠ bg) A c (thOut (withoutK R gone) qs)
theorem ThSt.keep {F0 F S : Nat → Prop} {r b1 b2 bg bo : Nat} {R : List Kn} {gone : Gid} {qs : List Gid} {w w' : World} (h : ThSt F0 r b1 b2 bg bo R gone F qs w) (hc : Chg S w w') (hS : ∀ k, F k → ¬ S k) : ThSt F0 r b1 b2 bg bo R gone F qs w' where
 lt := fun k hk => Nat.lt_of_lt_of_le (h.lt k hk) hc.size
 sub := h.sub
 rep := h.rep.keep hc (fun k hk _ => hS k (h.sub k hk)) (fun k hk _ => hk)
 f12 := h.f12
 k1 := cell_chg h.k1 hc (hS b1 (h.sub _ h.f12.1))
 k2 := cell_chg h.k2 hc (hS b2 (h.sub _ h.f12.2))
 fg := h.fg
 kg := cell_chg h.kg hc (hS bg h.fg.1)
 fo := h.fo
 out := by
  obtain ⟨A, c, h1, h2⟩ := h.out
  exact ⟨A, c, h1.chg hc (hS bo h.fo.1), h2.keep hc (fun k hk _ => hS k hk.1) (fun k hk _ => hk)⟩
def There1Post (F0 : Nat → Prop) (r b1 b2 bg bo : Nat) (R : List Kn) (gone : Gid) (F : Nat → Prop) (qs : List Gid) (d : Gid) (w : World) (e : Ending) (w' : World) : Prop :=
 ∃ F', ThSt F0 r b1 b2 bg bo R gone F' (qs ++ [d]) w' ∧ Chg F w w' ∧ (∀ k, F' k → F k ∨ w.heap.size ≤ k) ∧ TellPost (withoutK R gone d) e w'
set_option maxRecDepth 100000 in
set_option maxHeartbeats 4000000 in
theorem there1_any (F0 F : Nat → Prop) (r b1 b2 bg bo : Nat) (R : List Kn) (gone d : Gid) (qs : List Gid) (w : World) (h : ThSt F0 r b1 b2 bg bo R gone F qs w) (hq : qs.length < 268435456) (hl : R.length ≤ 1073741824) (hz : ∀ x ∈ R, x.b.length ≤ 140737488351300) :
 Calls Tryz.prog 62 #[.string (bk d), .pointer (some ⟨bg, 0, none⟩), .pointer (some ⟨bo, 0, none⟩)] w (There1Post F0 r b1 b2 bg bo R gone F qs d w) := by
 obtain ⟨i0, hi, hz0, hz1, hz2⟩ := info_parts info_str1
 have HG := Lib.hid (get1F_any w F0 r b1 b2 R gone d h.rep hl hz h.k1 h.k2)
 have kg := h.kg
 have HS := Lib.hid h
 have HQ := Lib.hid hq
 have hcf : ∀ W : World, (callFunc 38 #[.string (bk d), .pointer (some ⟨b1, 0, none⟩), .pointer (some ⟨b2, 0, none⟩)]).run Tryz.prog W = .ok (.enter 38 #[.string (bk d), .pointer (some ⟨b1, 0, none⟩), .pointer (some ⟨b2, 0, none⟩)]) W := fun W => enters_of Tryz.func38 (by kernel_rfl) rfl _ _
 have hnil : (binOp .eql 38 (.func (.func 38) #[] #[.pointer (some ⟨b1, 0, none⟩), .pointer (some ⟨b2, 0, none⟩)]) .nilFunc).run Tryz.prog w = .ok (.bool false) w := by kernel_rfl
 unfold fnV at kg
 clear h hq hl hz
 go_enter Tryz.func62, Tryz.ntmps62
 go_wp2_with fail
 refine HG.out.mono ?_
 rintro e w1 ⟨hb1, ht1⟩
 have HB1 := Lib.hid hb1
 have HS1 := Lib.hid (HS.out.keep (Chg.of_below (S := fun k => w.heap.size ≤ k) hb1) (fun k hk => Nat.not_le.2 (HS.out.lt k hk)))
 clear hb1 hnil hcf kg
 cases hw : withoutK R gone d with
 | none =>
  rw [hw] at ht1
  obtain rfl := ht1
  have HW := Lib.hid hw
  clear hw
  go_wp2
  go_ret3
  refine ⟨F, ?_, Chg.of_below HB1.out, fun k hk => .inl hk, by rw [HW.out]; rfl⟩
  have h1 := HS1.out
  exact { lt := h1.lt, sub := h1.sub, rep := h1.rep, f12 := h1.f12, k1 := h1.k1, k2 := h1.k2, fg := h1.fg, kg := h1.kg, fo := h1.fo, out := by rw [thOut_no HW.out]; exact h1.out }
 | some x =>
  rw [hw] at ht1
  obtain ⟨A, c, rfl, hI, hle, hcm, hnz, hfr⟩ := ht1
  obtain ⟨A2, c2, hce, hdo⟩ := HS1.out.out
  have HTL := Lib.hid (And.intro hI (And.intro hle (And.intro hcm (And.intro hnz hfr))))
  have HW := Lib.hid hw
  have HYES : Hid (thOut (withoutK R gone) (qs ++ [d]) = thOut (withoutK R gone) qs ++ [d]) := Lib.hid (thOut_yes hw)
  have HLN : Hid ((thOut (withoutK R gone) qs).length ≤ 268435456) := Lib.hid (by have := thOut_len (withoutK R gone) qs; have := HQ.out; omega)
  generalize thOut (withoutK R gone) qs = o0 at *
  have ko : w1.cell? ⟨bo, 0, none⟩ = some (.slice A2 o0.length c2) := hce.cell 0 (by decide)
  have koA : (w1.alloc (.cells #[.string (bk d)] 9)).cell? ⟨bo, 0, none⟩ = some (.slice A2 o0.length c2) := (World.cell?_of_block (heap_alloc_old w1 _ hce.blk)).trans ko
  have hnb : Value.ownBlock (.slice A2 o0.length c2) ≠ some bo := hdo.1.ne_cel hce (by decide)
  have HNB := Lib.hid hnb
  have HCE := Lib.hid hce
  have HDO := Lib.hid hdo
  have HOA := Lib.hid (hdo.1.alloc (.cells #[.string (bk d)] 9))
  have HSC := Lib.hid (Src.one_new (P := Tryz.prog) (w := w1) (u := .string (bk d)) (t := 9) rfl)
  have hm9 : o0.length + 1 ≤ maxLen := by have := HLN.out; unfold maxLen; omega
  have hb9 : (o0.length + 1) * 16 ≤ 140737488355328 := by have := HLN.out; omega
  clear hI hle hcm hnz hfr hw hce hdo hnb
  go_wp2_with (at_builtin; go_loud (refine wpList_append_S rfl (.tmp 20) (.tmp 22) 32 32 rfl i0 (.string ⟨#[]⟩) 16 (.slice 9) Tryz.underlying32 Tryz.underlying32 (fun _ h => by cases h) hi hz0 hz1 hz2 rfl rfl rfl HOA.out HSC.out hm9 hb9 (Nat.zero_le _) ?_; intro A8 c8 w8; generalize hnn : o0.length + 1 = nn at *; intro ho8 hg8 hw8; have HCE8 := Lib.hid ((HCE.out.alloc (.cells #[.string (bk d)] 9)).grown hg8 HNB.out); have q8 := HCE8.out.cell 0 (by decide); have z8 := HCE8.out.frozen 0; have HO8 := Lib.hid ho8; have HG8 := Lib.hid hg8; have HH8 := Lib.hid hw8; have HNN := Lib.hid hnn; clear ho8 hg8 hw8 hnn))
  go_ret3
  have hsz := HB1.out.size
  have hal : (w1.alloc (.cells #[.string (bk d)] 9)).heap.size = w1.heap.size + 1 := by simp
  have hd0 : DocS (w1.alloc (.cells #[.string (bk d)] 9)) (fun k => (F k ∨ w.heap.size ≤ k) ∧ ¬ F0 k ∧ k ≠ bg) A2 c2 o0 := ⟨HOA.out, fun k hk => by have := HDO.out.2 k hk; exact ⟨.inl this.1, this.2⟩⟩
  have hbg := HS.out.lt bg HS.out.fg.1
  have hD8 : DocS w8 (fun k => (F k ∨ w.heap.size ≤ k) ∧ ¬ F0 k ∧ k ≠ bg) A8 c8 (o0 ++ [d]) :=
   hd0.snoc (N := w1.heap.size + 1) (by rw [HNN.out]; exact HO8.out) (by rw [HNN.out, ← hal]; exact HH8.out) ⟨.inr (by omega), fun h => by have := HS.out.lt _ (HS.out.sub _ h); omega, by omega⟩
  have e1 : (o0 ++ [d]).length = nn := by rw [List.length_append]; exact HNN.out
  have hne8 : Value.ownBlock (.slice A8 (o0 ++ [d]).length c8) ≠ some bo := by rw [e1]; exact HO8.out.ne_cel HCE8.out (by decide)
  have hc9 : Chg (fun k => F k ∧ ¬ F0 k ∧ k ≠ bg) w1 (w8.setCell ⟨bo, 0, none⟩ (.slice A8 nn c8)) :=
   Chg.setCell ((((Chg.refl (fun k => F k ∧ ¬ F0 k ∧ k ≠ bg) w1).alloc _).trans (Chg.of_grown (S := fun k => F k ∧ ¬ F0 k ∧ k ≠ bg) HG8.out (fun k hk => HDO.out.2 k hk)) (fun _ _ h => h))) (.inl ⟨HS.out.fo.1, HS.out.fo.2.1, HS.out.fo.2.2⟩) _
  have h1 := HS1.out
  refine ⟨fun k => F k ∨ (w.heap.size ≤ k ∧ k < (w8.setCell ⟨bo, 0, none⟩ (.slice A8 nn c8)).heap.size), ?_, (Chg.of_below HB1.out).trans hc9 (fun k _ h => h.1), fun k hk => hk.imp id (fun h => h.1), ?_⟩
  · exact {
   lt := fun k hk => by
    rcases hk with h | h
    · have h2 := h1.lt k h
      have h3 := hc9.size
      omega
    · exact h.2
   sub := fun k hk => .inl (h1.sub k hk)
   rep := h1.rep.keep hc9 (fun k hk _ h => h.2.1 hk) (fun k hk _ => hk)
   f12 := h1.f12
   k1 := cell_chg h1.k1 hc9 (fun h => h.2.1 h1.f12.1)
   k2 := cell_chg h1.k2 hc9 (fun h => h.2.1 h1.f12.2)
   fg := ⟨.inl h1.fg.1, h1.fg.2⟩
   kg := cell_chg h1.kg hc9 (fun h => h.2.2 rfl)
   fo := ⟨.inl h1.fo.1, h1.fo.2⟩
   out := by
    rw [HYES.out]
    refine ⟨A8, c8, ?_, ?_⟩
    · rw [e1]
      refine (HCE8.out.set 0 _).congr fun j hj => ?_
      have : j = 0 := by omega
      subst this; rfl
    · exact (show DocS _ _ A8 c8 (o0 ++ [d]) from ⟨hD8.1.setFar hne8 _, hD8.2⟩).keep (Chg.refl (fun _ => False) _) (fun _ _ _ h => h) (fun k hk hl => ⟨hk.1.imp id (fun h => ⟨h, hl⟩), hk.2⟩) }
  · rw [HW.out]
    exact ⟨A, c, rfl, HTL.out.1.chg hc9 (fun b o hA h => by have h2 := HTL.out.2.2.2.2 b o hA; have h3 := HS.out.lt b h.1; omega), HTL.out.2.1, HTL.out.2.2.1, HTL.out.2.2.2.1⟩
theorem getter_there (F0 : Nat → Prop) (r b1 b2 bg bo : Nat) (R : List Kn) (gone : Gid) (hl : R.length ≤ 1073741824) (hz : ∀ x ∈ R, x.b.length ≤ 140737488351300) :
 GetterN 268435456 62 (.pointer (some ⟨bg, 0, none⟩)) (.pointer (some ⟨bo, 0, none⟩)) (withoutK R gone) (ThSt F0 r b1 b2 bg bo R gone) where
 ent := fun W args => enters_of Tryz.func62 (by kernel_rfl) rfl _ _
 low := fun h => h.lt
 keep := fun h hc hS => h.keep hc hS
 call := fun {F qs w} d hq h => there1_any F0 F r b1 b2 bg bo R gone d qs w h hq hl hz
end Go.Proofs.YtihanglnjghcfaaGreatDoor
