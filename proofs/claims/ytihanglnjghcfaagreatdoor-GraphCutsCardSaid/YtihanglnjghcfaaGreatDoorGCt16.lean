/- The document's commit walked (printed by genobs.py out of XObSd.src). -/
import Derived.Test.YtihanglnjghcfaaGreatDoorGCt15
namespace Go.Proofs.YtihanglnjghcfaaGreatDoor
open Go.RowKit
set_option linter.unusedVariables false
set_option linter.unusedSimpArgs false

theorem commitF_0 {s x s1 : ByteArray} (h : FieldR treeN s x false s1) : commitF s.data.toList = none := by unfold commitF; rw [h.no]
theorem commitF_1 {s x s1 : ByteArray} (h : FieldR treeN s x true s1) (hx : hashB (bytesOf x) = false) : commitF s.data.toList = none := by
 unfold commitF; rw [h.yes]
 show (if hashU x.data.toList = false then none else _) = none
 unfold hashU
 rw [bk_of, if_pos hx]
theorem commitF_2 {s x s1 s2 x1 s3 : ByteArray} {P : List (List UInt8)} (h : FieldR treeN s x true s1) (hp : parsF (s1.size + 1) s1.data.toList [] = some (P, s2.data.toList)) (h2 : FieldR authorN s2 x1 false s3) : commitF s.data.toList = none := by
 unfold commitF; rw [h.yes]
 show (if hashU x.data.toList = false then none else _) = none
 split
 · rfl
 · rw [← Lib.size_eq, hp]
   simp only [h2.no]
theorem commitF_3 {s x s1 s2 x1 s3 : ByteArray} {P : List (List UInt8)} (h : FieldR treeN s x true s1) (hp : parsF (s1.size + 1) s1.data.toList [] = some (P, s2.data.toList)) (h2 : FieldR authorN s2 x1 true s3) (hx : persB x1 = false) : commitF s.data.toList = none := by
 unfold commitF; rw [h.yes]
 show (if hashU x.data.toList = false then none else _) = none
 split
 · rfl
 · rw [← Lib.size_eq, hp]
   simp only [h2.yes]
   rw [bk_of, if_pos hx]
theorem commitF_4 {s x s1 s2 x1 s3 x2 s4 : ByteArray} {P : List (List UInt8)} (h : FieldR treeN s x true s1) (hp : parsF (s1.size + 1) s1.data.toList [] = some (P, s2.data.toList)) (h2 : FieldR authorN s2 x1 true s3) (h3 : FieldR committerN s3 x2 false s4) : commitF s.data.toList = none := by
 unfold commitF; rw [h.yes]
 show (if hashU x.data.toList = false then none else _) = none
 split
 · rfl
 · rw [← Lib.size_eq, hp]
   simp only [h2.yes]
   split
   · rfl
   · simp only [h3.no]
def sLen : Value → Nat
 | .string s => s.size
 | _ => 0
set_option maxRecDepth 100000 in
set_option maxHeartbeats 8000000 in
theorem rcommit_any (s : ByteArray) (w : World) (hs : s.size ≤ 8796093022000) : Calls Tryz.prog 50 #[.string s] w (RCommit s.data.toList w) := by
 have HS := Lib.hid hs
 have HPO : Hid (∀ e w', RCommit s.data.toList w e w' = (Below w.heap.size w w' ∧ ((commitF s.data.toList = none ∧ e = .returned (.tuple #[.agg zeroV, .bool false])) ∨ ∃ r A c, commitF s.data.toList = some r ∧ e = .returned (.tuple #[.agg (comV (bk r.t) (.slice A r.P.length c) (bk r.a) (bk r.c) (bk r.m)), .bool true]) ∧ OwnS w' w.heap.size 9 1 (.slice A r.P.length c) r.P.length (strVs r.P)))) := Lib.hid (fun _ _ => rfl)
 generalize RCommit s.data.toList w = POST at *
 have HST0 := Lib.hid (RSt.begin w (comV ⟨#[]⟩ (.slice none 0 0) ⟨#[]⟩ ⟨#[]⟩ ⟨#[]⟩) rfl)
 obtain ⟨i0, hi, hz0, hz1, hz2⟩ := info_parts info_str
 clear hs
 go_enter Tryz.func50, Tryz.ntmps50
 go_upto_region 3 with (fail)
 change Hid (RSt w ((w.alloc (.cells #[.int .i64 0, .string ⟨#[]⟩, .slice none 0 0, .string ⟨#[]⟩, .slice none 0 0, .string ⟨#[]⟩, .string ⟨#[]⟩, .string ⟨#[]⟩, .string ⟨#[]⟩, .int .i64 0, .string ⟨#[]⟩, .string ⟨#[]⟩] 67)).alloc (.cells #[.int .i64 1, .string ⟨#[]⟩, .slice none 0 0, .string ⟨#[]⟩, .slice none 0 0, .string ⟨#[]⟩, .string ⟨#[]⟩, .string ⟨#[]⟩, .string ⟨#[]⟩, .int .i64 0, .string ⟨#[]⟩, .string ⟨#[]⟩] 67)) w.heap.size (w.heap.size + 1) (comV ⟨#[]⟩ (.slice none 0 0) ⟨#[]⟩ ⟨#[]⟩ ⟨#[]⟩)) at HST0
 generalize hw1 : (w.alloc (.cells #[.int .i64 0, .string ⟨#[]⟩, .slice none 0 0, .string ⟨#[]⟩, .slice none 0 0, .string ⟨#[]⟩, .string ⟨#[]⟩, .string ⟨#[]⟩, .string ⟨#[]⟩, .int .i64 0, .string ⟨#[]⟩, .string ⟨#[]⟩] 67)).alloc (.cells #[.int .i64 1, .string ⟨#[]⟩, .slice none 0 0, .string ⟨#[]⟩, .slice none 0 0, .string ⟨#[]⟩, .string ⟨#[]⟩, .string ⟨#[]⟩, .string ⟨#[]⟩, .int .i64 0, .string ⟨#[]⟩, .string ⟨#[]⟩] 67) = w1 at *
 generalize hg2 : w.heap.size + 1 = g2 at HST0 ⊢
 generalize hg1 : w.heap.size = g1 at HST0 ⊢
 have HG1 := Lib.hid hg1
 clear hg1 hg2 hw1
 go_wp2_with fail
 refine (line_any s treeN w1 (by have := HS.out; omega) (by decide) (by decide)).mono ?_
 rintro e w2 ⟨x0, b0, s1, rfl, hf0, hb0⟩
 have HF0 := Lib.hid hf0
 have HST1 := Lib.hid (HST0.out.below hb0)
 have HZ1 : Hid (s1.size ≤ s.size) := Lib.hid hf0.size
 have k3 : w2.cell? ⟨g2, 3, none⟩ = some (.string ⟨#[]⟩) := HST1.out.obj.cell 3 (by decide)
 have f3 : w2.frozen? ⟨g2, 3, none⟩ = false := HST1.out.obj.frozen 3
 clear hf0 hb0 HST0
 go_upto_region 4 with (fail)
 have HST2 := Lib.hid (HST1.out.set (i := 3) (v := .string x0) (V' := comV x0 (.slice none 0 0) ⟨#[]⟩ ⟨#[]⟩ ⟨#[]⟩) (fun j hj => by rcases j with _ | _ | _ | _ | _ | _ | _ | _ | _ | _ | _ | _ | j <;> first | rfl | omega))
 clear k3 f3 HST1
 generalize w2.setCell ⟨g2, 3, none⟩ (.string x0) = w3 at *
 cases b0
 case false =>
  have HNO : Hid (commitF s.data.toList = none) := Lib.hid (commitF_0 HF0.out)
  have hC5 := HST2.out.res
  have HLB := Lib.hid (HST2.out.low)
  have hge1 := HST2.out.e1
  go_wp2_with (refine wpList_store_part (vs := zeroV) (off := 0) rfl (.tmp 2) (.tmp 26) rfl rfl rfl hC5 info_o8 (Nat.le_refl 12) zeroV_one ?_; intro w88 hC8 hg8 hs8; have hC9 := CelV.stored rfl hC8)
  exact bodyPost_ret (v := .tuple #[.agg zeroV, .bool false]) (results_cel2 rfl _ _ rfl rfl hC9 Tryz.underlying67 rfl info_o8 (Nat.le_refl 12) (fun j hj => getD_some hj)) rfl (by rw [HPO.out]; exact ⟨HLB.out.grown hg8 HLB.out.size (fun k h => by injection h with h; rw [← h]; exact hge1), .inl ⟨HNO.out, rfl⟩⟩)
 case true =>
 have HXZ0 : Hid (x0.size ≤ s.size) := Lib.hid HF0.out.xsize.1
 have k3 : w3.cell? ⟨g2, 3, none⟩ = some (.string x0) := HST2.out.obj.cell 3 (by decide)
 have HH0 := Lib.hid (hashR_any x0 w3 (by have := HXZ0.out; have := HS.out; omega))
 go_wp2_with fail
 refine HH0.out.mono ?_
 rintro e w4 ⟨rfl, hb4⟩
 have HST3 := Lib.hid (HST2.out.below hb4)
 clear hb4 k3 HST2 HH0
 cases hx0 : hashB (bytesOf x0)
 case false =>
  have HNO : Hid (commitF s.data.toList = none) := Lib.hid (commitF_1 HF0.out hx0)
  have hC5 := HST3.out.res
  have HLB := Lib.hid (HST3.out.low)
  have hge1 := HST3.out.e1
  go_wp2_with (refine wpList_store_part (vs := zeroV) (off := 0) rfl (.tmp 2) (.tmp 26) rfl rfl rfl hC5 info_o8 (Nat.le_refl 12) zeroV_one ?_; intro w88 hC8 hg8 hs8; have hC9 := CelV.stored rfl hC8)
  exact bodyPost_ret (v := .tuple #[.agg zeroV, .bool false]) (results_cel2 rfl _ _ rfl rfl hC9 Tryz.underlying67 rfl info_o8 (Nat.le_refl 12) (fun j hj => getD_some hj)) rfl (by rw [HPO.out]; exact ⟨HLB.out.grown hg8 HLB.out.size (fun k h => by injection h with h; rw [← h]; exact hge1), .inl ⟨HNO.out, rfl⟩⟩)
 case true =>
 have HX0 := Lib.hid hx0
 clear hx0
 go_wp2
 go_loopw [0] (fun v0 wr => ∃ (s2 : ByteArray) (P : List (List UInt8)) (f : Nat) (v : Value), v0 = .string s2 ∧ RSt w wr g1 g2 (comV x0 v ⟨#[]⟩ ⟨#[]⟩ ⟨#[]⟩) ∧ OwnS wr (g2 + 1) 9 1 v P.length (strVs P) ∧ s2.size < f ∧ s2.size ≤ s1.size ∧ P.length + s2.size ≤ s1.size ∧ parsF (s1.size + 1) s1.data.toList [] = parsF f s2.data.toList P) (fun v0 _ => sLen v0)
 case atStart => exact ⟨s1, [], s1.size + 1, .slice none 0 0, rfl, HST3.out, OwnS.nil _ _ _ _, by omega, Nat.le_refl _, by simp, rfl⟩
 case round =>
  clear HST3
  obtain ⟨s2, P, f, v, rfl, hst, ho, hf, h21, hPs, hpf⟩ := hrel
  obtain ⟨A, cA, rfl⟩ := ho.shape
  have HST := Lib.hid hst
  have HO := Lib.hid ho
  have HPF := Lib.hid hpf
  have HN2 : Hid (s2.size < f ∧ s2.size ≤ s1.size ∧ P.length + s2.size ≤ s1.size) := Lib.hid ⟨hf, h21, hPs⟩
  clear hst ho hpf hf h21 hPs
  go_wp2_with fail
  refine (line_any s2 parentN wr (by have := HN2.out; have := HZ1.out; have := HS.out; omega) (by decide) (by decide)).mono ?_
  rintro e w6 ⟨x, b, s3, rfl, hf6, hb6⟩
  have HF6 := Lib.hid hf6
  have HST6 := Lib.hid (HST.out.below hb6)
  have HO6 := Lib.hid (HO.out.lowB hb6)
  clear hf6 hb6 HST HO
  cases b
  case true =>
   have hxs := HF6.out.xsize
   have HPN : Hid (parsF f s2.data.toList P = if hashB (bytesOf x) = false ∨ x.data.toList ∈ P then none else parsF (f - 1) s3.data.toList (P ++ [x.data.toList])) := Lib.hid (by
    obtain ⟨f', rfl⟩ : ∃ f', f = f' + 1 := ⟨f - 1, by have := HN2.out; omega⟩
    rw [parsF, HF6.out.yes]
    show (if hashU x.data.toList = false ∨ _ then none else _) = _
    unfold hashU
    rw [bk_of]; rfl)
   have HX3 : Hid (s3.size < s2.size ∧ x.size ≤ s.size) := Lib.hid ⟨hxs.2, by have := hxs.1; have := HN2.out; have := HZ1.out; omega⟩
   clear hxs
   go_wp2
   go_loopw [9] (fun v9 wx => ∃ k : Nat, v9 = .int .i64 (k : Int) ∧ k ≤ P.length ∧ wx = w6 ∧ ∀ j, j < k → P[j]? ≠ some x.data.toList) (fun v9 _ => P.length - (intOf v9).toNat)
   case atStart => exact ⟨0, rfl, Nat.zero_le _, rfl, fun j hj => by omega⟩
   case round =>
    obtain ⟨k, rfl, hk, rfl, hno⟩ := hrel
    have HNO2 := Lib.hid hno
    have k4 : wr.cell? ⟨g2, 4, none⟩ = some (.slice A P.length cA) := HST6.out.obj.cell 4 (by decide)
    clear hno
    by_cases hlt : k < P.length
    · obtain ⟨p, hp⟩ : ∃ p, P[k]? = some p := ⟨_, List.getElem?_eq_getElem hlt⟩
      obtain ⟨ga, oa, rfl, hga, ca⟩ := HO6.out.strsAt (by rw [List.length_map]; omega)
      have r0 := ca k (bk p) (by rw [List.getElem?_map, hp]; rfl)
      have d2 : decide ((k : Int) < (P.length : Int)) = true := decide_eq_true (by omega)
      have d2' : decide (k < P.length) = true := decide_eq_true hlt
      have hpl : P.length ≤ 8796093022000 := by have := HN2.out; have := HZ1.out; have := HS.out; omega
      clear ca hga
      by_cases hpx : p = x.data.toList
      · have HNO : Hid (commitF s.data.toList = none) := Lib.hid (commitF_pars HF0.out (by rw [HPF.out, HPN.out, if_pos (.inr (by rw [← hpx]; exact List.mem_of_getElem? hp))]))
        have q1 : ((bk p).toList == x.toList) = true := by rw [beq_iff_eq, Lib.toList_data, Lib.toList_data, bk_list]; exact hpx
        clear hp hpx
        have HNO : Hid (commitF s.data.toList = none) := Lib.hid (HNO.out)
        have hC5 := HST6.out.res
        have HLB := Lib.hid (HST6.out.low)
        have hge1 := HST6.out.e1
        go_wp2_with (refine wpList_store_part (vs := zeroV) (off := 0) rfl (.tmp 2) (.tmp 49) rfl rfl rfl hC5 info_o8 (Nat.le_refl 12) zeroV_one ?_; intro w88 hC8 hg8 hs8; have hC9 := CelV.stored rfl hC8)
        exact bodyPost_ret (v := .tuple #[.agg zeroV, .bool false]) (results_cel2 rfl _ _ rfl rfl hC9 Tryz.underlying67 rfl info_o8 (Nat.le_refl 12) (fun j hj => getD_some hj)) rfl (by rw [HPO.out]; exact ⟨HLB.out.grown hg8 HLB.out.size (fun k h => by injection h with h; rw [← h]; exact hge1), .inl ⟨HNO.out, rfl⟩⟩)
      · have HNN : Hid (∀ j, j < k + 1 → P[j]? ≠ some x.data.toList) := Lib.hid (fun j hj => by
         by_cases e : j = k
         · rw [e, hp]; intro h; exact hpx (Option.some.inj h)
         · exact HNO2.out j (by omega))
        have q1 : ((bk p).toList == x.toList) = false := by rw [beq_eq_false_iff_ne, Lib.toList_data, Lib.toList_data, bk_list]; exact hpx
        clear hp hpx
        go_wp2
        go_roundw
        case rel => exact ⟨k + 1, by go_num, by omega, (by first | rfl | trivial), HNN.out⟩
        case measure => simp [intOf]; omega
    · obtain rfl : k = P.length := by omega
      have d2 : decide ((P.length : Int) < (P.length : Int)) = false := decide_eq_false (by omega)
      have d2' : decide (P.length < P.length) = false := decide_eq_false (by omega)
      have HNI : Hid (x.data.toList ∉ P) := Lib.hid (fun hm => by
       obtain ⟨j, hj, e⟩ := List.mem_iff_getElem.1 hm
       exact HNO2.out j hj (by rw [List.getElem?_eq_getElem hj, e]))
      have HHX := Lib.hid (hashR_any x wr (by have := HX3.out; have := HS.out; omega))
      clear HNO2
      go_wp2_with fail
      refine HHX.out.mono ?_
      rintro e w7 ⟨rfl, hb7⟩
      have HST7 := Lib.hid (HST6.out.below hb7)
      have HO7 := Lib.hid (HO6.out.lowB hb7)
      clear hb7 HST6 HO6 k4 HHX
      cases hhx : hashB (bytesOf x)
      case false =>
       have HNO : Hid (commitF s.data.toList = none) := Lib.hid (commitF_pars HF0.out (by rw [HPF.out, HPN.out, if_pos (.inl hhx)]))
       have HNO : Hid (commitF s.data.toList = none) := Lib.hid (HNO.out)
       have hC5 := HST7.out.res
       have HLB := Lib.hid (HST7.out.low)
       have hge1 := HST7.out.e1
       go_wp2_with (refine wpList_store_part (vs := zeroV) (off := 0) rfl (.tmp 2) (.tmp 53) rfl rfl rfl hC5 info_o8 (Nat.le_refl 12) zeroV_one ?_; intro w88 hC8 hg8 hs8; have hC9 := CelV.stored rfl hC8)
       exact bodyPost_ret (v := .tuple #[.agg zeroV, .bool false]) (results_cel2 rfl _ _ rfl rfl hC9 Tryz.underlying67 rfl info_o8 (Nat.le_refl 12) (fun j hj => getD_some hj)) rfl (by rw [HPO.out]; exact ⟨HLB.out.grown hg8 HLB.out.size (fun k h => by injection h with h; rw [← h]; exact hge1), .inl ⟨HNO.out, rfl⟩⟩)
      case true =>
      rw [hhx, if_neg (by rintro (h | h); exact absurd h (by decide); exact HNI.out h)] at HPN
      have k4 : w7.cell? ⟨g2, 4, none⟩ = some (.slice A P.length cA) := HST7.out.obj.cell 4 (by decide)
      have hl8 : Below w7.heap.size w7 (w7.alloc (.cells #[.string x] 9)) := (Below.refl _ _).alloc (Nat.le_refl _) _
      have HST8 := Lib.hid (HST7.out.below hl8)
      have HO8 := Lib.hid (HO7.out.alloc (.cells #[.string x] 9))
      have hbs : g2 + 1 ≤ (w7.alloc (.cells #[.string x] 9)).heap.size := HST8.out.obj.blk
      have HSRC := Lib.hid (Src.one_new (P := Tryz.prog) (w := w7) (u := .string x) (t := 9) rfl)
      have hbyte : (P.length + 1) * 16 ≤ 140737488355328 := by have := HN2.out; have := HZ1.out; have := HS.out; omega
      have hmax : P.length + 1 ≤ maxLen := by unfold maxLen; omega
      have hpl : P.length ≤ 8796093022000 := by have := HN2.out; have := HZ1.out; have := HS.out; omega
      clear hl8 hhx
      go_wp2_with (at_builtin; go_loud (refine wpList_append_S rfl (.tmp 55) (.tmp 57) 32 32 rfl i0 (.string ⟨#[]⟩) 16 (.slice 9) Tryz.underlying32 Tryz.underlying32 (fun _ h => by cases h) hi hz0 hz1 hz2 rfl rfl rfl HO8.out HSRC.out hmax hbyte hbs ?_; intro A9 c9 w9 ho9 hg9 hw9; have hst9 := HST8.out.chgHi (Chg.of_grown hg9 (fun k hk => (HO8.out.lt k hk).1)); have k9 : w9.cell? ⟨g2, 4, none⟩ = some (.slice A P.length cA) := hst9.obj.cell 4 (by decide); have f9 : w9.frozen? ⟨g2, 4, none⟩ = false := hst9.obj.frozen 4; have HST9 := Lib.hid hst9; clear hst9))
      have HST10 := Lib.hid (HST9.out.set (i := 4) (v := .slice A9 (P.length + 1) c9) (V' := comV x0 (.slice A9 (P.length + 1) c9) ⟨#[]⟩ ⟨#[]⟩ ⟨#[]⟩) (fun j hj => by rcases j with _ | _ | _ | _ | _ | _ | _ | _ | _ | _ | _ | _ | j <;> first | rfl | omega))
      have HO10 : Hid (OwnS (w9.setCell ⟨g2, 4, none⟩ (.slice A9 (P.length + 1) c9)) (g2 + 1) 9 1 (.slice A9 (P.length + 1) c9) (P ++ [x.data.toList]).length (strVs (P ++ [x.data.toList]))) := Lib.hid (by
       have h := ho9.setLow (a := ⟨g2, 4, none⟩) (by show g2 < g2 + 1; omega) (.slice A9 (P.length + 1) c9)
       rw [List.length_append]
       unfold strVs
       rw [List.map_append, List.map_cons, bk_of]
       exact h)
      go_roundw
      case rel =>
       refine ⟨s3, P ++ [x.data.toList], f - 1, _, rfl, HST10.out, HO10.out, ?_, ?_, ?_, ?_⟩
       · have := HN2.out; have := HX3.out; omega
       · have := HN2.out; have := HX3.out; omega
       · rw [List.length_append]; have := HN2.out; have := HX3.out; simp only [List.length_cons, List.length_nil]; omega
       · rw [HPF.out, HPN.out]
      case measure => simp only [sLen]; exact HX3.out.1
  case false =>
   have HPN : Hid (parsF (s1.size + 1) s1.data.toList [] = some (P, s2.data.toList)) := Lib.hid (by
    obtain ⟨f', rfl⟩ : ∃ f', f = f' + 1 := ⟨f - 1, by have := HN2.out; omega⟩
    rw [HPF.out, parsF, HF6.out.no])
   have HZ3 : Hid (s2.size ≤ s.size) := Lib.hid (by have := HN2.out; have := HZ1.out; omega)
   clear HPF HF6
   go_wp2_with fail
   refine (line_any s2 authorN w6 (by have := HZ3.out; have := HS.out; omega) (by decide) (by decide)).mono ?_
   rintro e w7 ⟨x1, b1, s4, rfl, hf7, hb7⟩
   have HF1 := Lib.hid hf7
   have HST7 := Lib.hid (HST6.out.below hb7)
   have HO7 := Lib.hid (HO6.out.lowB hb7)
   have HZ4 : Hid (s4.size ≤ s.size) := Lib.hid (Nat.le_trans hf7.size HZ3.out)
   have k5 : w7.cell? ⟨g2, 5, none⟩ = some (.string ⟨#[]⟩) := HST7.out.obj.cell 5 (by decide)
   have f5 : w7.frozen? ⟨g2, 5, none⟩ = false := HST7.out.obj.frozen 5
   clear hf7 hb7 HST6 HO6
   go_upto_region 18 with (fail)
   have HST8 := Lib.hid (HST7.out.set (i := 5) (v := .string x1) (V' := comV x0 (.slice A P.length cA) x1 ⟨#[]⟩ ⟨#[]⟩) (fun j hj => by rcases j with _ | _ | _ | _ | _ | _ | _ | _ | _ | _ | _ | _ | j <;> first | rfl | omega))
   have HO8 := Lib.hid (HO7.out.setLow (a := ⟨g2, 5, none⟩) (by show g2 < g2 + 1; omega) (.string x1))
   clear k5 f5 HST7 HO7
   generalize w7.setCell ⟨g2, 5, none⟩ (.string x1) = w8 at *
   cases b1
   case false =>
    have HNO : Hid (commitF s.data.toList = none) := Lib.hid (commitF_2 HF0.out HPN.out HF1.out)
    have hC5 := HST8.out.res
    have HLB := Lib.hid (HST8.out.low)
    have hge1 := HST8.out.e1
    go_wp2_with (refine wpList_store_part (vs := zeroV) (off := 0) rfl (.tmp 2) (.tmp 76) rfl rfl rfl hC5 info_o8 (Nat.le_refl 12) zeroV_one ?_; intro w88 hC8 hg8 hs8; have hC9 := CelV.stored rfl hC8)
    exact bodyPost_ret (v := .tuple #[.agg zeroV, .bool false]) (results_cel2 rfl _ _ rfl rfl hC9 Tryz.underlying67 rfl info_o8 (Nat.le_refl 12) (fun j hj => getD_some hj)) rfl (by rw [HPO.out]; exact ⟨HLB.out.grown hg8 HLB.out.size (fun k h => by injection h with h; rw [← h]; exact hge1), .inl ⟨HNO.out, rfl⟩⟩)
   case true =>
   have HXZ1 : Hid (x1.size ≤ s.size) := Lib.hid (by have := HF1.out.xsize.1; have := HZ3.out; omega)
   have k5 : w8.cell? ⟨g2, 5, none⟩ = some (.string x1) := HST8.out.obj.cell 5 (by decide)
   have HP1 := Lib.hid (personR_any x1 w8 (by have := HXZ1.out; have := HS.out; omega))
   unfold PersPost at HP1
   go_wp2_with fail
   refine HP1.out.mono ?_
   rintro e w9 ⟨rfl, hb9⟩
   have HST9 := Lib.hid (HST8.out.below hb9)
   have HO9 := Lib.hid (HO8.out.lowB hb9)
   clear hb9 k5 HST8 HO8 HP1
   cases hx1 : persB x1
   case false =>
    have HNO : Hid (commitF s.data.toList = none) := Lib.hid (commitF_3 HF0.out HPN.out HF1.out hx1)
    have hC5 := HST9.out.res
    have HLB := Lib.hid (HST9.out.low)
    have hge1 := HST9.out.e1
    go_wp2_with (refine wpList_store_part (vs := zeroV) (off := 0) rfl (.tmp 2) (.tmp 76) rfl rfl rfl hC5 info_o8 (Nat.le_refl 12) zeroV_one ?_; intro w88 hC8 hg8 hs8; have hC9 := CelV.stored rfl hC8)
    exact bodyPost_ret (v := .tuple #[.agg zeroV, .bool false]) (results_cel2 rfl _ _ rfl rfl hC9 Tryz.underlying67 rfl info_o8 (Nat.le_refl 12) (fun j hj => getD_some hj)) rfl (by rw [HPO.out]; exact ⟨HLB.out.grown hg8 HLB.out.size (fun k h => by injection h with h; rw [← h]; exact hge1), .inl ⟨HNO.out, rfl⟩⟩)
   case true =>
   have HX1 := Lib.hid hx1
   clear hx1
   go_wp2_with fail
   refine (line_any s4 committerN w9 (by have := HZ4.out; have := HS.out; omega) (by decide) (by decide)).mono ?_
   rintro e w10 ⟨x2, b2, s5, rfl, hf10, hb10⟩
   have HF2 := Lib.hid hf10
   have HST10 := Lib.hid (HST9.out.below hb10)
   have HO10 := Lib.hid (HO9.out.lowB hb10)
   have HZ5 : Hid (s5.size ≤ s.size) := Lib.hid (Nat.le_trans hf10.size HZ4.out)
   have k6 : w10.cell? ⟨g2, 6, none⟩ = some (.string ⟨#[]⟩) := HST10.out.obj.cell 6 (by decide)
   have f6 : w10.frozen? ⟨g2, 6, none⟩ = false := HST10.out.obj.frozen 6
   clear hf10 hb10 HST9 HO9
   go_upto_region 21 with (fail)
   have HST11 := Lib.hid (HST10.out.set (i := 6) (v := .string x2) (V' := comV x0 (.slice A P.length cA) x1 x2 ⟨#[]⟩) (fun j hj => by rcases j with _ | _ | _ | _ | _ | _ | _ | _ | _ | _ | _ | _ | j <;> first | rfl | omega))
   have HO11 := Lib.hid (HO10.out.setLow (a := ⟨g2, 6, none⟩) (by show g2 < g2 + 1; omega) (.string x2))
   clear k6 f6 HST10 HO10
   generalize w10.setCell ⟨g2, 6, none⟩ (.string x2) = w11 at *
   cases b2
   case false =>
    have HNO : Hid (commitF s.data.toList = none) := Lib.hid (commitF_4 HF0.out HPN.out HF1.out HF2.out)
    have hC5 := HST11.out.res
    have HLB := Lib.hid (HST11.out.low)
    have hge1 := HST11.out.e1
    go_wp2_with (refine wpList_store_part (vs := zeroV) (off := 0) rfl (.tmp 2) (.tmp 108) rfl rfl rfl hC5 info_o8 (Nat.le_refl 12) zeroV_one ?_; intro w88 hC8 hg8 hs8; have hC9 := CelV.stored rfl hC8)
    exact bodyPost_ret (v := .tuple #[.agg zeroV, .bool false]) (results_cel2 rfl _ _ rfl rfl hC9 Tryz.underlying67 rfl info_o8 (Nat.le_refl 12) (fun j hj => getD_some hj)) rfl (by rw [HPO.out]; exact ⟨HLB.out.grown hg8 HLB.out.size (fun k h => by injection h with h; rw [← h]; exact hge1), .inl ⟨HNO.out, rfl⟩⟩)
   case true =>
   have HXZ2 : Hid (x2.size ≤ s.size) := Lib.hid (by have := HF2.out.xsize.1; have := HZ4.out; omega)
   have HALL := Lib.hid (commitF_all HF0.out HPN.out HF1.out HF2.out)
   have k6 : w11.cell? ⟨g2, 6, none⟩ = some (.string x2) := HST11.out.obj.cell 6 (by decide)
   have HP2 := Lib.hid (personR_any x2 w11 (by have := HXZ2.out; have := HS.out; omega))
   unfold PersPost at HP2
   go_wp2_with fail
   refine HP2.out.mono ?_
   rintro e w12 ⟨rfl, hb12⟩
   have HST12 := Lib.hid (HST11.out.below hb12)
   have HO12 := Lib.hid (HO11.out.lowB hb12)
   clear hb12 k6 HST11 HO11 HP2
   cases hx2 : persB x2
   case false =>
    have HNO : Hid (commitF s.data.toList = none) := Lib.hid (by rw [HALL.out, if_pos (.inr (.inr hx2))])
    have hC5 := HST12.out.res
    have HLB := Lib.hid (HST12.out.low)
    have hge1 := HST12.out.e1
    go_wp2_with (refine wpList_store_part (vs := zeroV) (off := 0) rfl (.tmp 2) (.tmp 108) rfl rfl rfl hC5 info_o8 (Nat.le_refl 12) zeroV_one ?_; intro w88 hC8 hg8 hs8; have hC9 := CelV.stored rfl hC8)
    exact bodyPost_ret (v := .tuple #[.agg zeroV, .bool false]) (results_cel2 rfl _ _ rfl rfl hC9 Tryz.underlying67 rfl info_o8 (Nat.le_refl 12) (fun j hj => getD_some hj)) rfl (by rw [HPO.out]; exact ⟨HLB.out.grown hg8 HLB.out.size (fun k h => by injection h with h; rw [← h]; exact hge1), .inl ⟨HNO.out, rfl⟩⟩)
   case true =>
   have HX2 := Lib.hid hx2
   clear hx2
   by_cases hz : s5.size = 0
   case pos =>
    have HZ := Lib.hid hz
    have d0 : ((s5.size : Int) == 0) = true := by rw [beq_iff_eq]; omega
    clear hz
    have HNO : Hid (commitF s.data.toList = none) := Lib.hid (by rw [HALL.out, msgF_nil HZ.out]; split <;> rfl)
    have hC5 := HST12.out.res
    have HLB := Lib.hid (HST12.out.low)
    have hge1 := HST12.out.e1
    go_wp2_with (refine wpList_store_part (vs := zeroV) (off := 0) rfl (.tmp 2) (.tmp 108) rfl rfl rfl hC5 info_o8 (Nat.le_refl 12) zeroV_one ?_; intro w88 hC8 hg8 hs8; have hC9 := CelV.stored rfl hC8)
    exact bodyPost_ret (v := .tuple #[.agg zeroV, .bool false]) (results_cel2 rfl _ _ rfl rfl hC9 Tryz.underlying67 rfl info_o8 (Nat.le_refl 12) (fun j hj => getD_some hj)) rfl (by rw [HPO.out]; exact ⟨HLB.out.grown hg8 HLB.out.size (fun k h => by injection h with h; rw [← h]; exact hge1), .inl ⟨HNO.out, rfl⟩⟩)
   case neg =>
   have hpos : 0 < s5.size := by omega
   have d0 : ((s5.size : Int) == 0) = false := by rw [beq_eq_false_iff_ne]; omega
   clear hz
   by_cases h10 : s5[0]'hpos = 10
   case neg =>
    have HNM := Lib.hid (msgF_10 hpos h10)
    have q : ((((s5[0]'hpos).toNat : Nat) : Int) == 10) = false := by
     rw [beq_eq_false_iff_ne]
     intro h
     exact h10 (UInt8.toNat_inj.1 (by show _ = 10; omega))
    have q' : ((((s5[0]'hpos).toNat : Nat) : Int) != 10) = true := by unfold bne; rw [q]; rfl
    clear h10
    have HNO : Hid (commitF s.data.toList = none) := Lib.hid (by rw [HALL.out, HNM.out]; split <;> rfl)
    have hC5 := HST12.out.res
    have HLB := Lib.hid (HST12.out.low)
    have hge1 := HST12.out.e1
    go_wp2_with (refine wpList_store_part (vs := zeroV) (off := 0) rfl (.tmp 2) (.tmp 108) rfl rfl rfl hC5 info_o8 (Nat.le_refl 12) zeroV_one ?_; intro w88 hC8 hg8 hs8; have hC9 := CelV.stored rfl hC8)
    exact bodyPost_ret (v := .tuple #[.agg zeroV, .bool false]) (results_cel2 rfl _ _ rfl rfl hC9 Tryz.underlying67 rfl info_o8 (Nat.le_refl 12) (fun j hj => getD_some hj)) rfl (by rw [HPO.out]; exact ⟨HLB.out.grown hg8 HLB.out.size (fun k h => by injection h with h; rw [← h]; exact hge1), .inl ⟨HNO.out, rfl⟩⟩)
   case pos =>
   have HNM := Lib.hid (msgF_go hpos h10)
   have q : ((((s5[0]'hpos).toNat : Nat) : Int) == 10) = true := by rw [h10]; rfl
   have q' : ((((s5[0]'hpos).toNat : Nat) : Int) != 10) = false := by unfold bne; rw [q]; rfl
   have h1 : (1 : Int) ≤ (s5.size : Int) := by omega
   have hez : (s5.extract 1 s5.size).size ≤ s.size := by rw [ByteArray.size_extract]; have := HZ5.out; omega
   have HWO := Lib.hid (without_any (s5.extract 1 s5.size) ⟨#[0]⟩ w12 (by have := HS.out; omega) (by decide))
   change Hid (Calls Tryz.prog 74 #[.string (s5.extract 1 s5.size), .string ⟨#[0]⟩] w12 fun e w' => e = .returned (.bool (withoutB (s5.extract 1 s5.size).data.toList [0])) ∧ Below w12.heap.size w12 w') at HWO
   clear h10 hez
   go_wp2_with fail
   refine HWO.out.mono ?_
   rintro e w13 ⟨rfl, hb13⟩
   have HST13 := Lib.hid (HST12.out.below hb13)
   have HO13 := Lib.hid (HO12.out.lowB hb13)
   clear hb13 HST12 HO12 HWO
   cases hm : withoutB (s5.extract 1 s5.size).data.toList [0]
   case false =>
    have HNO : Hid (commitF s.data.toList = none) := Lib.hid (by rw [HALL.out, HNM.out, hm]; split <;> rfl)
    have hC5 := HST13.out.res
    have HLB := Lib.hid (HST13.out.low)
    have hge1 := HST13.out.e1
    go_wp2_with (refine wpList_store_part (vs := zeroV) (off := 0) rfl (.tmp 2) (.tmp 108) rfl rfl rfl hC5 info_o8 (Nat.le_refl 12) zeroV_one ?_; intro w88 hC8 hg8 hs8; have hC9 := CelV.stored rfl hC8)
    exact bodyPost_ret (v := .tuple #[.agg zeroV, .bool false]) (results_cel2 rfl _ _ rfl rfl hC9 Tryz.underlying67 rfl info_o8 (Nat.le_refl 12) (fun j hj => getD_some hj)) rfl (by rw [HPO.out]; exact ⟨HLB.out.grown hg8 HLB.out.size (fun k h => by injection h with h; rw [← h]; exact hge1), .inl ⟨HNO.out, rfl⟩⟩)
   case true =>
   have HYES : Hid (commitF s.data.toList = some ⟨x0.data.toList, P, x1.data.toList, x2.data.toList, (s5.extract 1 s5.size).data.toList⟩) := Lib.hid (by
    rw [HALL.out, HNM.out, hm, if_neg (by rintro (h | h | h); exact absurd (HX0.out.symm.trans h) (by decide); exact absurd (HX1.out.symm.trans h) (by decide); exact absurd (HX2.out.symm.trans h) (by decide))]; rfl)
   have k11 : w13.cell? ⟨g2, 11, none⟩ = some (.string ⟨#[]⟩) := HST13.out.obj.cell 11 (by decide)
   have f11 : w13.frozen? ⟨g2, 11, none⟩ = false := HST13.out.obj.frozen 11
   clear hm
   go_upto_region 24 with (fail)
   have HST14 := Lib.hid (HST13.out.set (i := 11) (v := .string (s5.extract 1 s5.size)) (V' := comV x0 (.slice A P.length cA) x1 x2 (s5.extract 1 s5.size)) (fun j hj => by rcases j with _ | _ | _ | _ | _ | _ | _ | _ | _ | _ | _ | _ | j <;> first | rfl | omega))
   have HO14 := Lib.hid (HO13.out.setLow (a := ⟨g2, 11, none⟩) (by show g2 < g2 + 1; omega) (.string (s5.extract 1 s5.size)))
   clear k11 f11 HST13 HO13
   generalize hM : s5.extract 1 s5.size = M at *
   clear hM q q' d0 h1
   generalize w13.setCell ⟨g2, 11, none⟩ (.string M) = w14 at *
   have hCo := HST14.out.obj
   have hC5 := HST14.out.res
   have HLB := Lib.hid HST14.out.low
   have hge1 := HST14.out.e1
   have hlt12 := HST14.out.lt
   go_wp2_with (first
    | (refine wpList_load_part (vs := comV x0 (.slice A P.length cA) x1 x2 M) (off := 0) rfl (.tmp 4) rfl rfl hCo Tryz.underlying67 rfl info_o8 (Nat.le_refl 12) (fun j hj => by rw [Nat.zero_add]; exact getD_some hj) ?_)
    | (refine wpList_store_part (vs := comV x0 (.slice A P.length cA) x1 x2 M) (off := 0) rfl (.tmp 2) (.tmp 112) rfl rfl rfl hC5 info_o8 (Nat.le_refl 12) (comV_one _ _ _ _ _ _ _) ?_; intro w88 hC8 hg8 hs8; have hC9 := CelV.stored rfl hC8))
   have ho9 := HO14.out.kept hg8 (.inr (fun h => by have := (HO14.out.lt _ h).1; omega))
   exact bodyPost_ret (v := .tuple #[.agg (comV x0 (.slice A P.length cA) x1 x2 M), .bool true]) (results_cel2 rfl _ _ rfl rfl hC9 Tryz.underlying67 rfl info_o8 (Nat.le_refl 12) (fun j hj => getD_some hj)) rfl (by rw [HPO.out]; exact ⟨HLB.out.grown hg8 HLB.out.size (fun k h => by injection h with h; rw [← h]; exact hge1), .inr ⟨_, A, cA, HYES.out, by simp only [bk_of], ho9.base_ (by omega)⟩⟩)
end Go.Proofs.YtihanglnjghcfaaGreatDoor
