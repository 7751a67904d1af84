/- The document's Parse at each kind (printed by genobs.py out of XObSf.src). -/
import Derived.Test.YtihanglnjghcfaaGreatDoorGCt17
import Derived.Test.YtihanglnjghcfaaGreatDoorGCt4
import Derived.Test.YtihanglnjghcfaaGreatDoorGCt11
import Derived.Laws.StructEq
namespace Go.Proofs.YtihanglnjghcfaaGreatDoor
open Go.RowKit
set_option linter.unusedVariables false
set_option linter.unusedSimpArgs false

theorem RSt.put {w0 w w' : World} {g1 g2 : Nat} {V V' : Array Value} (h : RSt w0 w g1 g2 V) (hc : CelV w' g2 V') (hg : w.grownBy w' (some g2)) : RSt w0 w' g1 g2 V' :=
 ⟨h.low.grown hg h.low.size (fun k hk => by injection hk with hk; have := h.e1; have := h.lt; omega), h.e1, h.lt, h.res.grown hg (by intro hx; injection hx with hx; have := h.lt; omega), hc⟩
def RPCommit (l : List UInt8) (w : World) (e : Ending) (w' : World) : Prop :=
 Below w.heap.size w w' ∧ ((commitF l = none ∧ e = .returned (.tuple #[.agg zeroV, .int .i64 3])) ∨
  ∃ r A c, commitF l = some r ∧ e = .returned (.tuple #[.agg (comV (bk r.t) (.slice A r.P.length c) (bk r.a) (bk r.c) (bk r.m)), .int .i64 0]) ∧ OwnS w' w.heap.size 9 1 (.slice A r.P.length c) r.P.length (strVs r.P))
def RPTag (l : List UInt8) (w : World) (e : Ending) (w' : World) : Prop :=
 Below w.heap.size w w' ∧ ((tagF l = none ∧ e = .returned (.tuple #[.agg zeroV, .int .i64 3])) ∨
  ∃ r, tagF l = some r ∧ e = .returned (.tuple #[.agg (tagV (bk r.o) (bk r.n) (r.k : Int) (bk r.g) (bk r.m)), .int .i64 0]))
def RPTree (l : List UInt8) (w : World) (e : Ending) (w' : World) : Prop :=
 Below w.heap.size w w' ∧ ((treeF l = none ∧ e = .returned (.tuple #[.agg zeroV, .int .i64 3])) ∨
  ∃ L A c, treeF l = some L ∧ e = .returned (.tuple #[.agg (treV 2 ⟨#[]⟩ (.slice A L.length c)), .int .i64 0]) ∧ OwnS w' w.heap.size 116 3 (.slice A L.length c) L.length (entVs L))
set_option maxRecDepth 100000 in
set_option maxHeartbeats 4000000 in
theorem rpcommit_any (s : ByteArray) (w : World) (hs : s.size ≤ 8796093022000) : Calls Tryz.prog 30 #[.int .i64 1, .string s] w (RPCommit s.data.toList w) := by
 have HS := Lib.hid hs
 have HPO := Lib.hid (rfl : RPCommit s.data.toList w = RPCommit s.data.toList w)
 generalize hPOST : RPCommit s.data.toList w = POST at *
 clear HPO
 have HPO := Lib.hid hPOST
 have HST0 := Lib.hid (RSt.begin w (treV 1 s (.slice none 0 0)) rfl)
 clear hs hPOST
 go_enter Tryz.func30, Tryz.ntmps30
 go_upto_region 2 with (fail)
 change Hid (RSt w ((w.alloc (.cells #[.int .i64 0, .string ⟨#[]⟩, .slice none 0 0, .string ⟨#[]⟩, .slice none 0 0, .string ⟨#[]⟩, .string ⟨#[]⟩, .string ⟨#[]⟩, .string ⟨#[]⟩, .int .i64 0, .string ⟨#[]⟩, .string ⟨#[]⟩] 67)).alloc (.cells #[.int .i64 1, .string s, .slice none 0 0, .string ⟨#[]⟩, .slice none 0 0, .string ⟨#[]⟩, .string ⟨#[]⟩, .string ⟨#[]⟩, .string ⟨#[]⟩, .int .i64 0, .string ⟨#[]⟩, .string ⟨#[]⟩] 67)) w.heap.size (w.heap.size + 1) (treV 1 s (.slice none 0 0))) at HST0
 generalize hw1 : (w.alloc (.cells #[.int .i64 0, .string ⟨#[]⟩, .slice none 0 0, .string ⟨#[]⟩, .slice none 0 0, .string ⟨#[]⟩, .string ⟨#[]⟩, .string ⟨#[]⟩, .string ⟨#[]⟩, .int .i64 0, .string ⟨#[]⟩, .string ⟨#[]⟩] 67)).alloc (.cells #[.int .i64 1, .string s, .slice none 0 0, .string ⟨#[]⟩, .slice none 0 0, .string ⟨#[]⟩, .string ⟨#[]⟩, .string ⟨#[]⟩, .string ⟨#[]⟩, .int .i64 0, .string ⟨#[]⟩, .string ⟨#[]⟩] 67) = w1 at *
 generalize hg2 : w.heap.size + 1 = g2 at HST0 ⊢
 generalize hg1 : w.heap.size = g1 at HST0 ⊢
 have HG1 := Lib.hid hg1
 clear hg1 hg2 hw1
 go_wp2_with fail
 refine (rcommit_any s w1 HS.out).mono ?_
 rintro e w2 ⟨hb2, ⟨hno, rfl⟩ | ⟨r, A, c, hyes, rfl, ho2⟩⟩
 · have HNO := Lib.hid hno
   have HST1 := Lib.hid (HST0.out.below hb2)
   have hC6 := HST1.out.obj
   clear hb2 hno HST0
   go_upto_region 14 with (refine wpList_store_part (vs := zeroV) (off := 0) rfl (.tmp 6) (.tmp 33) rfl rfl rfl hC6 info_o8 (Nat.le_refl 12) zeroV_one ?_; intro w7 hC7 hg7 hs7; have hC7b := CelV.stored rfl hC7)
   have HST2 := Lib.hid (HST1.out.put hC7b hg7)
   clear hC7 hC7b hs7 hC6 HST1
   have hC5 := HST2.out.res
   have HLB := Lib.hid (HST2.out.low)
   have hge1 := HST2.out.e1
   go_wp2_with (refine wpList_store_part (vs := zeroV) (off := 0) rfl (.tmp 4) (.tmp 44) rfl rfl rfl hC5 info_o8 (Nat.le_refl 12) zeroV_one ?_; intro w88 hC8 hg8 hs8; have hC9 := CelV.stored rfl hC8)
   exact bodyPost_ret (v := .tuple #[.agg zeroV, .int .i64 3]) (results_cel2 rfl _ _ rfl rfl hC9 Tryz.underlying67 rfl info_o8 (Nat.le_refl 12) (fun j hj => getD_some hj)) rfl (by rw [← HPO.out]; exact ⟨by exact HLB.out.grown hg8 HLB.out.size (fun k h => by injection h with h; rw [← h]; exact hge1), .inl ⟨HNO.out, rfl⟩⟩)
 · have HY := Lib.hid hyes
   have HST1 := Lib.hid (HST0.out.below hb2)
   have HO1 := Lib.hid ho2
   have hC6 := HST1.out.obj
   have HGG : Hid (g2 + 1 ≤ w1.heap.size) := Lib.hid HST0.out.obj.blk
   clear hb2 hyes ho2 HST0
   go_upto_region 14 with (refine wpList_store_part (vs := (comV (bk r.t) (.slice A r.P.length c) (bk r.a) (bk r.c) (bk r.m))) (off := 0) rfl (.tmp 6) (.tmp 33) rfl rfl rfl hC6 info_o8 (Nat.le_refl 12) (comV_one _ _ _ _ _ _ _) ?_; intro w7 hC7 hg7 hs7; have hC7b := CelV.stored rfl hC7)
   have HST2 := Lib.hid (HST1.out.put hC7b hg7)
   clear hC7 hC7b hs7 hC6 HST1
   have HO2 := Lib.hid (HO1.out.kept hg7 (.inr (fun h => by have := (HO1.out.lt _ h).1; have := HGG.out; omega)))
   clear HO1
   have hCo := HST2.out.obj
   have hC5 := HST2.out.res
   have HLB := Lib.hid (HST2.out.low)
   have hge1 := HST2.out.e1
   go_wp2_with (first
    | (refine wpList_load_part (vs := (comV (bk r.t) (.slice A r.P.length c) (bk r.a) (bk r.c) (bk r.m))) (off := 0) rfl (.tmp 6) rfl rfl hCo Tryz.underlying67 rfl info_o8 (Nat.le_refl 12) (fun j hj => by rw [Nat.zero_add]; exact getD_some hj) ?_)
    | (refine wpList_store_part (vs := (comV (bk r.t) (.slice A r.P.length c) (bk r.a) (bk r.c) (bk r.m))) (off := 0) rfl (.tmp 4) (.tmp 45) rfl rfl rfl hC5 info_o8 (Nat.le_refl 12) (comV_one _ _ _ _ _ _ _) ?_; intro w88 hC8 hg8 hs8; have hC9 := CelV.stored rfl hC8))
   have ho9 := HO2.out.kept hg8 (.inr (fun h => by have := (HO2.out.lt _ h).1; have := HGG.out; have := HST2.out.lt; omega))
   exact bodyPost_ret (v := .tuple #[.agg (comV (bk r.t) (.slice A r.P.length c) (bk r.a) (bk r.c) (bk r.m)), .int .i64 0]) (results_cel2 rfl _ _ rfl rfl hC9 Tryz.underlying67 rfl info_o8 (Nat.le_refl 12) (fun j hj => getD_some hj)) rfl (by rw [← HPO.out]; exact ⟨by exact HLB.out.grown hg8 HLB.out.size (fun k h => by injection h with h; rw [← h]; exact hge1), .inr ⟨r, A, c, HY.out, rfl, ho9.base_ (by have := HGG.out; have := HST2.out.lt; have := HST2.out.e1; omega)⟩⟩)
set_option maxRecDepth 100000 in
set_option maxHeartbeats 4000000 in
theorem rptag_any (s : ByteArray) (w : World) (hs : s.size ≤ 8796093022000) : Calls Tryz.prog 30 #[.int .i64 4, .string s] w (RPTag s.data.toList w) := by
 have HS := Lib.hid hs
 have HPO := Lib.hid (rfl : RPTag s.data.toList w = RPTag s.data.toList w)
 generalize hPOST : RPTag s.data.toList w = POST at *
 clear HPO
 have HPO := Lib.hid hPOST
 have HST0 := Lib.hid (RSt.begin w (treV 4 s (.slice none 0 0)) rfl)
 clear hs hPOST
 go_enter Tryz.func30, Tryz.ntmps30
 go_upto_region 2 with (fail)
 change Hid (RSt w ((w.alloc (.cells #[.int .i64 0, .string ⟨#[]⟩, .slice none 0 0, .string ⟨#[]⟩, .slice none 0 0, .string ⟨#[]⟩, .string ⟨#[]⟩, .string ⟨#[]⟩, .string ⟨#[]⟩, .int .i64 0, .string ⟨#[]⟩, .string ⟨#[]⟩] 67)).alloc (.cells #[.int .i64 4, .string s, .slice none 0 0, .string ⟨#[]⟩, .slice none 0 0, .string ⟨#[]⟩, .string ⟨#[]⟩, .string ⟨#[]⟩, .string ⟨#[]⟩, .int .i64 0, .string ⟨#[]⟩, .string ⟨#[]⟩] 67)) w.heap.size (w.heap.size + 1) (treV 4 s (.slice none 0 0))) at HST0
 generalize hw1 : (w.alloc (.cells #[.int .i64 0, .string ⟨#[]⟩, .slice none 0 0, .string ⟨#[]⟩, .slice none 0 0, .string ⟨#[]⟩, .string ⟨#[]⟩, .string ⟨#[]⟩, .string ⟨#[]⟩, .int .i64 0, .string ⟨#[]⟩, .string ⟨#[]⟩] 67)).alloc (.cells #[.int .i64 4, .string s, .slice none 0 0, .string ⟨#[]⟩, .slice none 0 0, .string ⟨#[]⟩, .string ⟨#[]⟩, .string ⟨#[]⟩, .string ⟨#[]⟩, .int .i64 0, .string ⟨#[]⟩, .string ⟨#[]⟩] 67) = w1 at *
 generalize hg2 : w.heap.size + 1 = g2 at HST0 ⊢
 generalize hg1 : w.heap.size = g1 at HST0 ⊢
 have HG1 := Lib.hid hg1
 clear hg1 hg2 hw1
 go_wp2_with fail
 refine (rtag_any s w1 (by have := HS.out; omega)).mono ?_
 rintro e w2 ⟨hb2, ⟨hno, rfl⟩ | ⟨r, hyes, rfl⟩⟩
 · have HNO := Lib.hid hno
   have HST1 := Lib.hid (HST0.out.below hb2)
   have hC6 := HST1.out.obj
   clear hb2 hno HST0
   go_upto_region 14 with (refine wpList_store_part (vs := zeroV) (off := 0) rfl (.tmp 6) (.tmp 40) rfl rfl rfl hC6 info_o8 (Nat.le_refl 12) zeroV_one ?_; intro w7 hC7 hg7 hs7; have hC7b := CelV.stored rfl hC7)
   have HST2 := Lib.hid (HST1.out.put hC7b hg7)
   clear hC7 hC7b hs7 hC6 HST1
   have hC5 := HST2.out.res
   have HLB := Lib.hid (HST2.out.low)
   have hge1 := HST2.out.e1
   go_wp2_with (refine wpList_store_part (vs := zeroV) (off := 0) rfl (.tmp 4) (.tmp 44) rfl rfl rfl hC5 info_o8 (Nat.le_refl 12) zeroV_one ?_; intro w88 hC8 hg8 hs8; have hC9 := CelV.stored rfl hC8)
   exact bodyPost_ret (v := .tuple #[.agg zeroV, .int .i64 3]) (results_cel2 rfl _ _ rfl rfl hC9 Tryz.underlying67 rfl info_o8 (Nat.le_refl 12) (fun j hj => getD_some hj)) rfl (by rw [← HPO.out]; exact ⟨by exact HLB.out.grown hg8 HLB.out.size (fun k h => by injection h with h; rw [← h]; exact hge1), .inl ⟨HNO.out, rfl⟩⟩)
 · have HY := Lib.hid hyes
   have HST1 := Lib.hid (HST0.out.below hb2)
   have hC6 := HST1.out.obj
   clear hb2 hyes HST0
   go_upto_region 14 with (refine wpList_store_part (vs := (tagV (bk r.o) (bk r.n) (r.k : Int) (bk r.g) (bk r.m))) (off := 0) rfl (.tmp 6) (.tmp 40) rfl rfl rfl hC6 info_o8 (Nat.le_refl 12) (tagV_one _ _ _ _ _) ?_; intro w7 hC7 hg7 hs7; have hC7b := CelV.stored rfl hC7)
   have HST2 := Lib.hid (HST1.out.put hC7b hg7)
   clear hC7 hC7b hs7 hC6 HST1
   have hCo := HST2.out.obj
   have hC5 := HST2.out.res
   have HLB := Lib.hid (HST2.out.low)
   have hge1 := HST2.out.e1
   go_wp2_with (first
    | (refine wpList_load_part (vs := (tagV (bk r.o) (bk r.n) (r.k : Int) (bk r.g) (bk r.m))) (off := 0) rfl (.tmp 6) rfl rfl hCo Tryz.underlying67 rfl info_o8 (Nat.le_refl 12) (fun j hj => by rw [Nat.zero_add]; exact getD_some hj) ?_)
    | (refine wpList_store_part (vs := (tagV (bk r.o) (bk r.n) (r.k : Int) (bk r.g) (bk r.m))) (off := 0) rfl (.tmp 4) (.tmp 45) rfl rfl rfl hC5 info_o8 (Nat.le_refl 12) (tagV_one _ _ _ _ _) ?_; intro w88 hC8 hg8 hs8; have hC9 := CelV.stored rfl hC8))
   exact bodyPost_ret (v := .tuple #[.agg (tagV (bk r.o) (bk r.n) (r.k : Int) (bk r.g) (bk r.m)), .int .i64 0]) (results_cel2 rfl _ _ rfl rfl hC9 Tryz.underlying67 rfl info_o8 (Nat.le_refl 12) (fun j hj => getD_some hj)) rfl (by rw [← HPO.out]; exact ⟨by exact HLB.out.grown hg8 HLB.out.size (fun k h => by injection h with h; rw [← h]; exact hge1), .inr ⟨r, HY.out, rfl⟩⟩)
set_option maxRecDepth 100000 in
set_option maxHeartbeats 4000000 in
theorem rptree_any (s : ByteArray) (w : World) (hs : s.size ≤ 8796093022000) : Calls Tryz.prog 30 #[.int .i64 2, .string s] w (RPTree s.data.toList w) := by
 have HS := Lib.hid hs
 have HPO := Lib.hid (rfl : RPTree s.data.toList w = RPTree s.data.toList w)
 generalize hPOST : RPTree s.data.toList w = POST at *
 clear HPO
 have HPO := Lib.hid hPOST
 have HST0 := Lib.hid (RSt.begin w (treV 2 s (.slice none 0 0)) rfl)
 clear hs hPOST
 go_enter Tryz.func30, Tryz.ntmps30
 go_upto_region 2 with (fail)
 change Hid (RSt w ((w.alloc (.cells #[.int .i64 0, .string ⟨#[]⟩, .slice none 0 0, .string ⟨#[]⟩, .slice none 0 0, .string ⟨#[]⟩, .string ⟨#[]⟩, .string ⟨#[]⟩, .string ⟨#[]⟩, .int .i64 0, .string ⟨#[]⟩, .string ⟨#[]⟩] 67)).alloc (.cells #[.int .i64 2, .string s, .slice none 0 0, .string ⟨#[]⟩, .slice none 0 0, .string ⟨#[]⟩, .string ⟨#[]⟩, .string ⟨#[]⟩, .string ⟨#[]⟩, .int .i64 0, .string ⟨#[]⟩, .string ⟨#[]⟩] 67)) w.heap.size (w.heap.size + 1) (treV 2 s (.slice none 0 0))) at HST0
 generalize hw1 : (w.alloc (.cells #[.int .i64 0, .string ⟨#[]⟩, .slice none 0 0, .string ⟨#[]⟩, .slice none 0 0, .string ⟨#[]⟩, .string ⟨#[]⟩, .string ⟨#[]⟩, .string ⟨#[]⟩, .int .i64 0, .string ⟨#[]⟩, .string ⟨#[]⟩] 67)).alloc (.cells #[.int .i64 2, .string s, .slice none 0 0, .string ⟨#[]⟩, .slice none 0 0, .string ⟨#[]⟩, .string ⟨#[]⟩, .string ⟨#[]⟩, .string ⟨#[]⟩, .int .i64 0, .string ⟨#[]⟩, .string ⟨#[]⟩] 67) = w1 at *
 generalize hg2 : w.heap.size + 1 = g2 at HST0 ⊢
 generalize hg1 : w.heap.size = g1 at HST0 ⊢
 have HG1 := Lib.hid hg1
 clear hg1 hg2 hw1
 go_wp2_with fail
 refine (rtree_any s w1 HS.out).mono ?_
 rintro e w2 ⟨hb2, ⟨hno, rfl⟩ | ⟨L, A, c, hyes, rfl, ho2⟩⟩
 · have HNO := Lib.hid hno
   have HST1 := Lib.hid (HST0.out.below hb2)
   have hC6 := HST1.out.obj
   clear hb2 hno HST0
   go_upto_region 14 with (refine wpList_store_part (vs := (treV 2 ⟨#[]⟩ (.slice none 0 0))) (off := 0) rfl (.tmp 6) (.tmp 26) rfl rfl rfl hC6 info_o8 (Nat.le_refl 12) (treV_one _ _ _ _ _) ?_; intro w7 hC7 hg7 hs7; have hC7b := CelV.stored rfl hC7)
   have HST2 := Lib.hid (HST1.out.put hC7b hg7)
   clear hC7 hC7b hs7 hC6 HST1
   have hC5 := HST2.out.res
   have HLB := Lib.hid (HST2.out.low)
   have hge1 := HST2.out.e1
   go_wp2_with (refine wpList_store_part (vs := zeroV) (off := 0) rfl (.tmp 4) (.tmp 44) rfl rfl rfl hC5 info_o8 (Nat.le_refl 12) zeroV_one ?_; intro w88 hC8 hg8 hs8; have hC9 := CelV.stored rfl hC8)
   exact bodyPost_ret (v := .tuple #[.agg zeroV, .int .i64 3]) (results_cel2 rfl _ _ rfl rfl hC9 Tryz.underlying67 rfl info_o8 (Nat.le_refl 12) (fun j hj => getD_some hj)) rfl (by rw [← HPO.out]; exact ⟨by exact HLB.out.grown hg8 HLB.out.size (fun k h => by injection h with h; rw [← h]; exact hge1), .inl ⟨HNO.out, rfl⟩⟩)
 · have HY := Lib.hid hyes
   have HST1 := Lib.hid (HST0.out.below hb2)
   have HO1 := Lib.hid ho2
   have hC6 := HST1.out.obj
   have HGG : Hid (g2 + 1 ≤ w1.heap.size) := Lib.hid HST0.out.obj.blk
   clear hb2 hyes ho2 HST0
   go_upto_region 14 with (refine wpList_store_part (vs := (treV 2 ⟨#[]⟩ (.slice A L.length c))) (off := 0) rfl (.tmp 6) (.tmp 26) rfl rfl rfl hC6 info_o8 (Nat.le_refl 12) (treV_one _ _ _ _ _) ?_; intro w7 hC7 hg7 hs7; have hC7b := CelV.stored rfl hC7)
   have HST2 := Lib.hid (HST1.out.put hC7b hg7)
   clear hC7 hC7b hs7 hC6 HST1
   have HO2 := Lib.hid (HO1.out.kept hg7 (.inr (fun h => by have := (HO1.out.lt _ h).1; have := HGG.out; omega)))
   clear HO1
   have hCo := HST2.out.obj
   have hC5 := HST2.out.res
   have HLB := Lib.hid (HST2.out.low)
   have hge1 := HST2.out.e1
   go_wp2_with (first
    | (refine wpList_load_part (vs := (treV 2 ⟨#[]⟩ (.slice A L.length c))) (off := 0) rfl (.tmp 6) rfl rfl hCo Tryz.underlying67 rfl info_o8 (Nat.le_refl 12) (fun j hj => by rw [Nat.zero_add]; exact getD_some hj) ?_)
    | (refine wpList_store_part (vs := (treV 2 ⟨#[]⟩ (.slice A L.length c))) (off := 0) rfl (.tmp 4) (.tmp 45) rfl rfl rfl hC5 info_o8 (Nat.le_refl 12) (treV_one _ _ _ _ _) ?_; intro w88 hC8 hg8 hs8; have hC9 := CelV.stored rfl hC8))
   have ho9 := HO2.out.kept hg8 (.inr (fun h => by have := (HO2.out.lt _ h).1; have := HGG.out; have := HST2.out.lt; omega))
   exact bodyPost_ret (v := .tuple #[.agg (treV 2 ⟨#[]⟩ (.slice A L.length c)), .int .i64 0]) (results_cel2 rfl _ _ rfl rfl hC9 Tryz.underlying67 rfl info_o8 (Nat.le_refl 12) (fun j hj => getD_some hj)) rfl (by rw [← HPO.out]; exact ⟨by exact HLB.out.grown hg8 HLB.out.size (fun k h => by injection h with h; rw [← h]; exact hge1), .inr ⟨L, A, c, HY.out, rfl, ho9.base_ (by have := HGG.out; have := HST2.out.lt; have := HST2.out.e1; omega)⟩⟩)
def RPBlob (s : ByteArray) (w : World) (e : Ending) (w' : World) : Prop := Below w.heap.size w w' ∧ e = .returned (.tuple #[.agg (treV 3 s (.slice none 0 0)), .int .i64 0])
set_option maxRecDepth 100000 in
set_option maxHeartbeats 4000000 in
theorem rpblob_any (s : ByteArray) (w : World) (hs : s.size ≤ 8796093022000) : Calls Tryz.prog 30 #[.int .i64 3, .string s] w (RPBlob s w) := by
 have HS := Lib.hid hs
 have HPO := Lib.hid (rfl : RPBlob s w = RPBlob s w)
 generalize hPOST : RPBlob s w = POST at *
 clear HPO
 have HPO := Lib.hid hPOST
 have HST0 := Lib.hid (RSt.begin w (treV 3 s (.slice none 0 0)) rfl)
 clear hs hPOST
 go_enter Tryz.func30, Tryz.ntmps30
 go_upto_region 2 with (fail)
 change Hid (RSt w ((w.alloc (.cells #[.int .i64 0, .string ⟨#[]⟩, .slice none 0 0, .string ⟨#[]⟩, .slice none 0 0, .string ⟨#[]⟩, .string ⟨#[]⟩, .string ⟨#[]⟩, .string ⟨#[]⟩, .int .i64 0, .string ⟨#[]⟩, .string ⟨#[]⟩] 67)).alloc (.cells #[.int .i64 3, .string s, .slice none 0 0, .string ⟨#[]⟩, .slice none 0 0, .string ⟨#[]⟩, .string ⟨#[]⟩, .string ⟨#[]⟩, .string ⟨#[]⟩, .int .i64 0, .string ⟨#[]⟩, .string ⟨#[]⟩] 67)) w.heap.size (w.heap.size + 1) (treV 3 s (.slice none 0 0))) at HST0
 generalize hw1 : (w.alloc (.cells #[.int .i64 0, .string ⟨#[]⟩, .slice none 0 0, .string ⟨#[]⟩, .slice none 0 0, .string ⟨#[]⟩, .string ⟨#[]⟩, .string ⟨#[]⟩, .string ⟨#[]⟩, .int .i64 0, .string ⟨#[]⟩, .string ⟨#[]⟩] 67)).alloc (.cells #[.int .i64 3, .string s, .slice none 0 0, .string ⟨#[]⟩, .slice none 0 0, .string ⟨#[]⟩, .string ⟨#[]⟩, .string ⟨#[]⟩, .string ⟨#[]⟩, .int .i64 0, .string ⟨#[]⟩, .string ⟨#[]⟩] 67) = w1 at *
 generalize hg2 : w.heap.size + 1 = g2 at HST0 ⊢
 generalize hg1 : w.heap.size = g1 at HST0 ⊢
 have HG1 := Lib.hid hg1
 clear hg1 hg2 hw1
 have HST2 := Lib.hid HST0.out
 have hCo := HST2.out.obj
 have hC5 := HST2.out.res
 have HLB := Lib.hid (HST2.out.low)
 have hge1 := HST2.out.e1
 go_wp2_with (first
  | (refine wpList_load_part (vs := (treV 3 s (.slice none 0 0))) (off := 0) rfl (.tmp 6) rfl rfl hCo Tryz.underlying67 rfl info_o8 (Nat.le_refl 12) (fun j hj => by rw [Nat.zero_add]; exact getD_some hj) ?_)
  | (refine wpList_store_part (vs := (treV 3 s (.slice none 0 0))) (off := 0) rfl (.tmp 4) (.tmp 45) rfl rfl rfl hC5 info_o8 (Nat.le_refl 12) (treV_one _ _ _ _ _) ?_; intro w88 hC8 hg8 hs8; have hC9 := CelV.stored rfl hC8))
 exact bodyPost_ret (v := .tuple #[.agg (treV 3 s (.slice none 0 0)), .int .i64 0]) (results_cel2 rfl _ _ rfl rfl hC9 Tryz.underlying67 rfl info_o8 (Nat.le_refl 12) (fun j hj => getD_some hj)) rfl (by rw [← HPO.out]; exact ⟨by exact HLB.out.grown hg8 HLB.out.size (fun k h => by injection h with h; rw [← h]; exact hge1), rfl⟩)
set_option maxRecDepth 100000 in
set_option maxHeartbeats 2000000 in
theorem rpnone_any (kd : Int) (s : ByteArray) (w : World) (hk : kd < 1 ∨ 4 < kd) : Calls Tryz.prog 30 #[.int .i64 kd, .string s] w fun e w' => e = .returned (.tuple #[.agg zeroV, .int .i64 1]) ∧ Below w.heap.size w w' := by
 have e1 : (kd == 3) = false := by rw [beq_eq_false_iff_ne]; omega
 have e2 : (kd == 2) = false := by rw [beq_eq_false_iff_ne]; omega
 have e3 : (kd == 1) = false := by rw [beq_eq_false_iff_ne]; omega
 have e4 : (kd == 4) = false := by rw [beq_eq_false_iff_ne]; omega
 have HST0 := Lib.hid (RSt.begin w (treV kd s (.slice none 0 0)) rfl)
 clear hk
 go_enter Tryz.func30, Tryz.ntmps30
 go_upto_region 2 with (fail)
 change Hid (RSt w ((w.alloc (.cells #[.int .i64 0, .string ⟨#[]⟩, .slice none 0 0, .string ⟨#[]⟩, .slice none 0 0, .string ⟨#[]⟩, .string ⟨#[]⟩, .string ⟨#[]⟩, .string ⟨#[]⟩, .int .i64 0, .string ⟨#[]⟩, .string ⟨#[]⟩] 67)).alloc (.cells #[.int .i64 kd, .string s, .slice none 0 0, .string ⟨#[]⟩, .slice none 0 0, .string ⟨#[]⟩, .string ⟨#[]⟩, .string ⟨#[]⟩, .string ⟨#[]⟩, .int .i64 0, .string ⟨#[]⟩, .string ⟨#[]⟩] 67)) w.heap.size (w.heap.size + 1) (treV kd s (.slice none 0 0))) at HST0
 generalize hw1 : (w.alloc (.cells #[.int .i64 0, .string ⟨#[]⟩, .slice none 0 0, .string ⟨#[]⟩, .slice none 0 0, .string ⟨#[]⟩, .string ⟨#[]⟩, .string ⟨#[]⟩, .string ⟨#[]⟩, .int .i64 0, .string ⟨#[]⟩, .string ⟨#[]⟩] 67)).alloc (.cells #[.int .i64 kd, .string s, .slice none 0 0, .string ⟨#[]⟩, .slice none 0 0, .string ⟨#[]⟩, .string ⟨#[]⟩, .string ⟨#[]⟩, .string ⟨#[]⟩, .int .i64 0, .string ⟨#[]⟩, .string ⟨#[]⟩] 67) = w1 at *
 generalize hg2 : w.heap.size + 1 = g2 at HST0 ⊢
 generalize hg1 : w.heap.size = g1 at HST0 ⊢
 have HG1 := Lib.hid hg1
 clear hg1 hg2 hw1
 have hC5 := HST0.out.res
 have HLB := Lib.hid HST0.out.low
 have hge1 := HST0.out.e1
 go_wp2_with (refine wpList_store_part (vs := zeroV) (off := 0) rfl (.tmp 4) (.tmp 14) rfl rfl rfl hC5 info_o8 (Nat.le_refl 12) zeroV_one ?_; intro w88 hC8 hg8 hs8; have hC9 := CelV.stored rfl hC8)
 exact bodyPost_ret (v := .tuple #[.agg zeroV, .int .i64 1]) (results_cel2 rfl _ _ rfl rfl hC9 Tryz.underlying67 rfl info_o8 (Nat.le_refl 12) (fun j hj => getD_some hj)) rfl ⟨rfl, HLB.out.grown hg8 HLB.out.size (fun k h => by injection h with h; rw [← h]; exact hge1)⟩
end Go.Proofs.YtihanglnjghcfaaGreatDoor
namespace Go.Proofs.YtihanglnjghcfaaGreatDoor
open Go.RowKit
set_option linter.unusedVariables false
set_option linter.unusedSimpArgs false

/-- The document's object in memory. -/
structure O8At (w : World) (b : Nat) (kd : Int) (d : ByteArray) (vL : Value) (t : ByteArray) (vP : Value) (a c o n : ByteArray) (ty : Int) (g m : ByteArray) : Prop where
 c0 : w.cell? ⟨b, 0, none⟩ = some (.int .i64 kd)
 c1 : w.cell? ⟨b, 1, none⟩ = some (.string d)
 c2 : w.cell? ⟨b, 2, none⟩ = some (vL)
 c3 : w.cell? ⟨b, 3, none⟩ = some (.string t)
 c4 : w.cell? ⟨b, 4, none⟩ = some (vP)
 c5 : w.cell? ⟨b, 5, none⟩ = some (.string a)
 c6 : w.cell? ⟨b, 6, none⟩ = some (.string c)
 c7 : w.cell? ⟨b, 7, none⟩ = some (.string o)
 c8 : w.cell? ⟨b, 8, none⟩ = some (.string n)
 c9 : w.cell? ⟨b, 9, none⟩ = some (.int .i64 ty)
 c10 : w.cell? ⟨b, 10, none⟩ = some (.string g)
 c11 : w.cell? ⟨b, 11, none⟩ = some (.string m)
theorem O8At.lt {w : World} {b : Nat} {kd : Int} {d : ByteArray} {vL : Value} {t : ByteArray} {vP : Value} {a c o n : ByteArray} {ty : Int} {g m : ByteArray} (h : O8At w b kd d vL t vP a c o n ty g m) : b < w.heap.size := World.block_lt_of_cell? w _ h.c0
theorem O8At.below {w w' : World} {b : Nat} {kd : Int} {d : ByteArray} {vL : Value} {t : ByteArray} {vP : Value} {a c o n : ByteArray} {ty : Int} {g m : ByteArray} (h : O8At w b kd d vL t vP a c o n ty g m) (hb : Below w.heap.size w w') : O8At w' b kd d vL t vP a c o n ty g m :=
 ⟨by rw [hb.cell h.lt]; exact h.c0, by rw [hb.cell h.lt]; exact h.c1, by rw [hb.cell h.lt]; exact h.c2, by rw [hb.cell h.lt]; exact h.c3, by rw [hb.cell h.lt]; exact h.c4, by rw [hb.cell h.lt]; exact h.c5, by rw [hb.cell h.lt]; exact h.c6, by rw [hb.cell h.lt]; exact h.c7, by rw [hb.cell h.lt]; exact h.c8, by rw [hb.cell h.lt]; exact h.c9, by rw [hb.cell h.lt]; exact h.c10, by rw [hb.cell h.lt]; exact h.c11⟩
theorem O8At.new (w : World) (kd : Int) (d : ByteArray) (vL : Value) (t : ByteArray) (vP : Value) (a c o n : ByteArray) (ty : Int) (g m : ByteArray) : O8At (w.alloc (.cells #[.int .i64 kd, .string d, vL, .string t, vP, .string a, .string c, .string o, .string n, .int .i64 ty, .string g, .string m] 67)) w.heap.size kd d vL t vP a c o n ty g m :=
 ⟨by rw [World.cell?_alloc_at _ _ _ _ (by simp)]; rfl, by rw [World.cell?_alloc_at _ _ _ _ (by simp)]; rfl, by rw [World.cell?_alloc_at _ _ _ _ (by simp)]; rfl, by rw [World.cell?_alloc_at _ _ _ _ (by simp)]; rfl, by rw [World.cell?_alloc_at _ _ _ _ (by simp)]; rfl, by rw [World.cell?_alloc_at _ _ _ _ (by simp)]; rfl, by rw [World.cell?_alloc_at _ _ _ _ (by simp)]; rfl, by rw [World.cell?_alloc_at _ _ _ _ (by simp)]; rfl, by rw [World.cell?_alloc_at _ _ _ _ (by simp)]; rfl, by rw [World.cell?_alloc_at _ _ _ _ (by simp)]; rfl, by rw [World.cell?_alloc_at _ _ _ _ (by simp)]; rfl, by rw [World.cell?_alloc_at _ _ _ _ (by simp)]; rfl⟩
end Go.Proofs.YtihanglnjghcfaaGreatDoor
namespace Go.Proofs.YtihanglnjghcfaaGreatDoor
open Go.RowKit
set_option linter.unusedVariables false
set_option linter.unusedSimpArgs false

/-- What the document's Links answers. -/
def RLinks (K : List Lk) (w : World) (e : Ending) (w' : World) : Prop :=
 Below w.heap.size w w' ∧ ∃ A c, e = .returned (.slice A K.length c) ∧ OwnS w' w.heap.size 73 2 (.slice A K.length c) K.length (lkVs K)
set_option maxRecDepth 100000 in
set_option maxHeartbeats 2000000 in
theorem rlinksBlob_any (d : ByteArray) (vL : Value) (t : ByteArray) (vP : Value) (a cm o nm : ByteArray) (ty : Int) (g m : ByteArray) (w : World) :
 Calls Tryz.prog 31 #[.agg #[.int .i64 3, .string d, vL, .string t, vP, .string a, .string cm, .string o, .string nm, .int .i64 ty, .string g, .string m]] w (RLinks [] w) := by
 have hl0 : Below w.heap.size w (w.alloc (.cells #[.int .i64 3, .string d, vL, .string t, vP, .string a, .string cm, .string o, .string nm, .int .i64 ty, .string g, .string m] 67)) := (Below.refl _ _).alloc (Nat.le_refl _) _
 have ho0 := O8At.new w 3 d vL t vP a cm o nm ty g m
 have HL0 := Lib.hid hl0
 go_enter Tryz.func31, Tryz.ntmps31
 go_upto_region 1 with (fail)
 generalize w.alloc (.cells #[.int .i64 3, .string d, vL, .string t, vP, .string a, .string cm, .string o, .string nm, .int .i64 ty, .string g, .string m] 67) = w0 at *
 have k0 := ho0.c0
 clear ho0 hl0
 go_wp2
 go_ret
 exact ⟨HL0.out, none, 0, rfl, OwnS.nil _ _ _ _⟩
set_option maxRecDepth 100000 in
set_option maxHeartbeats 2000000 in
theorem rlinksTag_any (d : ByteArray) (vL : Value) (t : ByteArray) (vP : Value) (a cm o nm : ByteArray) (ty : Int) (g m : ByteArray) (w : World) :
 Calls Tryz.prog 31 #[.agg #[.int .i64 4, .string d, vL, .string t, vP, .string a, .string cm, .string o, .string nm, .int .i64 ty, .string g, .string m]] w (RLinks [⟨o, ty⟩] w) := by
 obtain ⟨i0, hi, hz0, hz1, hz2⟩ := info_parts info_lk
 have hl0 : Below w.heap.size w (w.alloc (.cells #[.int .i64 4, .string d, vL, .string t, vP, .string a, .string cm, .string o, .string nm, .int .i64 ty, .string g, .string m] 67)) := (Below.refl _ _).alloc (Nat.le_refl _) _
 have ho0 := O8At.new w 4 d vL t vP a cm o nm ty g m
 have HL0 := Lib.hid hl0
 go_enter Tryz.func31, Tryz.ntmps31
 go_upto_region 1 with (fail)
 generalize w.alloc (.cells #[.int .i64 4, .string d, vL, .string t, vP, .string a, .string cm, .string o, .string nm, .int .i64 ty, .string g, .string m] 67) = w0 at *
 have k0 := ho0.c0
 have k7 := ho0.c7
 have k9 := ho0.c9
 have hl2 : Below w0.heap.size w0 (w0.alloc (.cells #[.string o, .int .i64 ty] 73)) := (Below.refl _ _).alloc (Nat.le_refl _) _
 have HL2 := Lib.hid (HL0.out.trans (hl2.mono HL0.out.size))
 have HO2 := Lib.hid (OwnS.nil (w0.alloc (.cells #[.string o, .int .i64 ty] 73)) w.heap.size 73 2)
 have HSRC := Lib.hid (Src.lk (P := Tryz.prog) w0 ⟨o, ty⟩ 73)
 have hbs : w.heap.size ≤ (w0.alloc (.cells #[.string o, .int .i64 ty] 73)).heap.size := HL2.out.size
 clear ho0 hl0 hl2
 go_wp2_with (at_builtin; go_loud (refine wpList_append_S rfl (.tmp 73) (.tmp 79) 70 70 rfl i0 (.agg #[.string ⟨#[]⟩, .int .i64 0]) 24 (.slice 73) Tryz.underlying70 Tryz.underlying70 (fun _ h => by cases h) hi hz0 hz1 hz2 rfl rfl rfl HO2.out HSRC.out (by decide) (by decide) hbs ?_; intro A9 c9 w9 ho9 hg9 hw9))
 go_ret
 exact ⟨HL2.out.grown hg9 hbs (fun j hj => (HO2.out.lt j hj).1), A9, c9, rfl, ho9⟩
set_option maxRecDepth 100000 in
set_option maxHeartbeats 4000000 in
theorem rlinksCommit_any (d : ByteArray) (vL : Value) (t : ByteArray) (A : Option Addr) (N cP : Nat) (P : List ByteArray) (a cm o nm : ByteArray) (ty : Int) (g m : ByteArray) (w : World) (hS : StrsAt w A P) (hN : P.length = N) (hNb : N ≤ 1099511627776) :
 Calls Tryz.prog 31 #[.agg #[.int .i64 1, .string d, vL, .string t, .slice A N cP, .string a, .string cm, .string o, .string nm, .int .i64 ty, .string g, .string m]] w (RLinks (comK t P) w) := by
 obtain ⟨i0, hi, hz0, hz1, hz2⟩ := info_parts info_lk
 have HN := Lib.hid hN
 have HSW := Lib.hid hS
 have hl0 : Below w.heap.size w (w.alloc (.cells #[.int .i64 1, .string d, vL, .string t, .slice A N cP, .string a, .string cm, .string o, .string nm, .int .i64 ty, .string g, .string m] 67)) := (Below.refl _ _).alloc (Nat.le_refl _) _
 have ho0 := O8At.new w 1 d vL t (.slice A N cP) a cm o nm ty g m
 have HL0 := Lib.hid hl0
 clear hS hN
 go_enter Tryz.func31, Tryz.ntmps31
 go_upto_region 1 with (fail)
 generalize w.alloc (.cells #[.int .i64 1, .string d, vL, .string t, .slice A N cP, .string a, .string cm, .string o, .string nm, .int .i64 ty, .string g, .string m] 67) = w0 at *
 generalize hog : w.heap.size = og at ho0 ⊢
 have HOG := Lib.hid hog
 have k0 := ho0.c0
 have k3 := ho0.c3
 have HO8 := Lib.hid ho0
 have hl2 : Below w0.heap.size w0 (w0.alloc (.cells #[.string t, .int .i64 2] 73)) := (Below.refl _ _).alloc (Nat.le_refl _) _
 have HL2 := Lib.hid (HL0.out.trans (hl2.mono HL0.out.size))
 have HO8b := Lib.hid (ho0.below hl2)
 have HO2 := Lib.hid (OwnS.nil (w0.alloc (.cells #[.string t, .int .i64 2] 73)) (og + 1) 73 2)
 have HSRC := Lib.hid (Src.lk (P := Tryz.prog) w0 ⟨t, 2⟩ 73)
 have hbs : og + 1 ≤ (w0.alloc (.cells #[.string t, .int .i64 2] 73)).heap.size := HO8b.out.lt
 clear hog ho0 hl0 hl2
 go_upto_region 5 with (at_builtin; go_loud (refine wpList_append_S rfl (.tmp 10) (.tmp 14) 70 70 rfl i0 (.agg #[.string ⟨#[]⟩, .int .i64 0]) 24 (.slice 73) Tryz.underlying70 Tryz.underlying70 (fun _ h => by cases h) hi hz0 hz1 hz2 rfl rfl rfl HO2.out HSRC.out (by decide) (by decide) hbs ?_; intro A9 c9 w9 ho9 hg9 hw9))
 have hch : Chg (fun j => og + 1 ≤ j) (w0.alloc (.cells #[.string t, .int .i64 2] 73)) w9 := Chg.of_grown hg9 (fun j hj => (HO2.out.lt j hj).1)
 have HB9 : Hid (Below w.heap.size w w9) := Lib.hid (HL2.out.trans (hch.below HL2.out.size (fun i hi e => by have := HOG.out; omega)))
 have HO9 : Hid (OwnS w9 (og + 1) 73 2 (.slice A9 1 c9) (comK t (P.take 0)).length (lkVs (comK t (P.take 0)))) := Lib.hid ho9
 have HQ4 : Hid (w9.cell? ⟨og, 4, none⟩ = some (.slice A N cP)) := Lib.hid ((World.cell?_of_block (by rw [hch.block og (by omega) (by omega)])).trans HO8b.out.c4)
 clear hch ho9 hg9 hw9 k3
 go_wp2
 go_loopw [4, 3] (fun vi vo wr => ∃ (k : Nat) (v : Value), vi = .int .i64 k ∧ v = vo ∧ k ≤ N ∧ OwnS wr (og + 1) 73 2 v (comK t (P.take k)).length (lkVs (comK t (P.take k))) ∧ Below w.heap.size w wr ∧ wr.cell? ⟨og, 4, none⟩ = some (.slice A N cP)) (fun vi _ _ => N - (intOf vi).toNat)
 case atStart => exact ⟨0, _, rfl, rfl, Nat.zero_le _, HO9.out, HB9.out, HQ4.out⟩
 case round =>
  clear HO9 HB9 HQ4
  obtain ⟨k, v, rfl, rfl, hk, ho, hb, hq4⟩ := hrel
  obtain ⟨Av, cv, rfl⟩ := ho.shape
  have HB := Lib.hid hb
  have hlen : (comK t (P.take k)).length = k + 1 := by unfold comK; simp; rw [HN.out]; omega
  by_cases hlt : k < N
  · obtain ⟨p, hp⟩ : ∃ p, P[k]? = some p := ⟨_, List.getElem?_eq_getElem (by rw [HN.out]; exact hlt)⟩
    obtain ⟨eb, eo, rfl, heb, hcell⟩ := (HSW.out.below hb) (by rw [HN.out]; omega)
    have r0 := hcell k p hp
    have d2 : decide ((k : Int) < (N : Int)) = true := decide_eq_true (by omega)
    have d2' : decide (k < N) = true := decide_eq_true hlt
    have HKS := Lib.hid (comK_succ (t := t) hp)
    have HO := Lib.hid ho
    have hl2 : Below wr.heap.size wr (wr.alloc (.cells #[.string p, .int .i64 1] 73)) := (Below.refl _ _).alloc (Nat.le_refl _) _
    have HO2 := Lib.hid (ho.alloc (.cells #[.string p, .int .i64 1] 73))
    have HB2 := Lib.hid (hb.trans (hl2.mono hb.size))
    have HSRC := Lib.hid (Src.lk (P := Tryz.prog) wr ⟨p, 1⟩ 73)
    have hogl : og < wr.heap.size := World.block_lt_of_cell? wr _ hq4
    have hbs : og + 1 ≤ (wr.alloc (.cells #[.string p, .int .i64 1] 73)).heap.size := by simp; omega
    have HQ : Hid ((wr.alloc (.cells #[.string p, .int .i64 1] 73)).cell? ⟨og, 4, none⟩ = some (.slice (some ⟨eb, eo, none⟩) N cP)) := Lib.hid ((hl2.cell (p := ⟨og, 4, none⟩) hogl).trans hq4)
    generalize hkl : (comK t (P.take k)).length = kl at *
    have hbyte : (kl + 1) * 24 ≤ 140737488355328 := by omega
    have hmax : kl + 1 ≤ maxLen := by unfold maxLen; omega
    have HKL := Lib.hid hkl
    have HOGL := Lib.hid hogl
    clear hcell hp ho hb hl2 heb hlen hkl hogl
    go_wp2_with (at_builtin; go_loud (refine wpList_append_S rfl (.tmp 23) (.tmp 30) 70 70 rfl i0 (.agg #[.string ⟨#[]⟩, .int .i64 0]) 24 (.slice 73) Tryz.underlying70 Tryz.underlying70 (fun _ h => by cases h) hi hz0 hz1 hz2 rfl rfl rfl HO2.out HSRC.out hmax hbyte hbs ?_; intro A9 c9 w9 ho9 hg9 hw9))
    have HO9 : Hid (OwnS w9 (og + 1) 73 2 (.slice A9 (kl + 1) c9) (comK t (P.take (k + 1))).length (lkVs (comK t (P.take (k + 1))))) := Lib.hid (by
     rw [HKS.out, List.length_append, lkVs_snoc, HKL.out]
     exact ho9)
    have hch : Chg (fun j => og + 1 ≤ j) (wr.alloc (.cells #[.string p, .int .i64 1] 73)) w9 := Chg.of_grown hg9 (fun j hj => (HO2.out.lt j hj).1)
    have HB9 : Hid (Below w.heap.size w w9) := Lib.hid (HB2.out.trans (hch.below HB2.out.size (fun i hi e => by have := HOG.out; omega)))
    have HQ9 : Hid (w9.cell? ⟨og, 4, none⟩ = some (.slice (some ⟨eb, eo, none⟩) N cP)) := Lib.hid ((World.cell?_of_block (by rw [hch.block og (by simp; have := HOGL.out; omega) (by omega)])).trans HQ.out)
    clear ho9 hg9 hw9 hch
    go_roundw
    case rel => exact ⟨k + 1, _, rfl, rfl, by omega, HO9.out, HB9.out, HQ9.out⟩
    case measure => simp [intOf]; omega
  · obtain rfl : k = N := by omega
    have d2 : decide ((k : Int) < (k : Int)) = false := decide_eq_false (by omega)
    have d2' : decide (k < k) = false := decide_eq_false (by omega)
    rw [List.take_of_length_le (by rw [HN.out]; exact Nat.le_refl _)] at ho
    rw [List.take_of_length_le (by rw [HN.out]; exact Nat.le_refl _)]
    have HO := Lib.hid ho
    clear ho hb hlen
    go_wp2
    go_ret
    exact ⟨HB.out, Av, cv, rfl, HO.out.base_ (by have := HOG.out; omega)⟩
set_option maxRecDepth 100000 in
set_option maxHeartbeats 8000000 in
theorem rlinksTree_any (d : ByteArray) (t : ByteArray) (A : Option Addr) (N c : Nat) (L : List Ent) (vP : Value) (a cm o nm : ByteArray) (ty : Int) (g m : ByteArray) (w : World) (hE : EntsAt w A L) (hN : L.length = N) (hNb : N ≤ 1099511627776) :
 Calls Tryz.prog 31 #[.agg #[.int .i64 2, .string d, .slice A N c, .string t, vP, .string a, .string cm, .string o, .string nm, .int .i64 ty, .string g, .string m]] w (RLinks (treeK L) w) := by
 obtain ⟨i0, hi, hz0, hz1, hz2⟩ := info_parts info_lk
 have HN := Lib.hid hN
 have HEW := Lib.hid hE
 have hl0 : Below w.heap.size w (w.alloc (.cells #[.int .i64 2, .string d, .slice A N c, .string t, vP, .string a, .string cm, .string o, .string nm, .int .i64 ty, .string g, .string m] 67)) := (Below.refl _ _).alloc (Nat.le_refl _) _
 have ho0 := O8At.new w 2 d (.slice A N c) t vP a cm o nm ty g m
 have HL0 := Lib.hid hl0
 clear hE hN
 go_enter Tryz.func31, Tryz.ntmps31
 go_upto_region 1 with (fail)
 generalize w.alloc (.cells #[.int .i64 2, .string d, .slice A N c, .string t, vP, .string a, .string cm, .string o, .string nm, .int .i64 ty, .string g, .string m] 67) = w0 at *
 generalize hog : w.heap.size = og at ho0 ⊢
 have HOG := Lib.hid hog
 have k0 := ho0.c0
 have HO8 := Lib.hid ho0
 clear hog ho0 hl0
 go_wp2
 go_loopw [5, 3] (fun vi vo wr => ∃ (k : Nat) (v : Value), vi = .int .i64 k ∧ v = vo ∧ k ≤ N ∧ OwnS wr (og + 1) 73 2 v (treeK (L.take k)).length (lkVs (treeK (L.take k))) ∧ Below w.heap.size w wr ∧ wr.cell? ⟨og, 2, none⟩ = some (.slice A N c)) (fun vi _ _ => N - (intOf vi).toNat)
 case atStart => exact ⟨0, _, rfl, rfl, Nat.zero_le _, by simpa [treeK, lkVs] using OwnS.nil _ _ _ _, HL0.out, HO8.out.c2⟩
 case round =>
  clear HL0 HO8
  obtain ⟨k, v, rfl, rfl, hk, ho, hb, hq2⟩ := hrel
  obtain ⟨Av, cv, rfl⟩ := ho.shape
  have HB := Lib.hid hb
  by_cases hlt : k < N
  · obtain ⟨x, hx⟩ : ∃ x, L[k]? = some x := ⟨_, List.getElem?_eq_getElem (by rw [HN.out]; exact hlt)⟩
    obtain ⟨eb, eo, rfl, heb, hcell⟩ := (HEW.out.below hb) (by rw [HN.out]; omega)
    obtain ⟨r0, r1, r2⟩ := hcell k x hx
    have d2 : decide ((k : Int) < (N : Int)) = true := decide_eq_true (by omega)
    have d2' : decide (k < N) = true := decide_eq_true hlt
    have HKS := Lib.hid (treeK_succ hx)
    have hkl0 : (treeK (L.take k)).length ≤ k := Nat.le_trans (treeK_len _) (by rw [List.length_take]; omega)
    have HO := Lib.hid ho
    have hl2 := fun z : Int => (Below.refl wr.heap.size wr).alloc (Nat.le_refl _) (.cells #[.string x.i, .int .i64 z] 73)
    have HO2 := Lib.hid (fun z : Int => ho.alloc (.cells #[.string x.i, .int .i64 z] 73))
    have HB2 := Lib.hid (fun z : Int => hb.trans ((hl2 z).mono hb.size))
    have HSRC := Lib.hid (fun z : Int => Src.lk (P := Tryz.prog) wr ⟨x.i, z⟩ 73)
    have hogl : og < wr.heap.size := World.block_lt_of_cell? wr _ hq2
    have HBS : Hid (∀ z : Int, og + 1 ≤ (wr.alloc (.cells #[.string x.i, .int .i64 z] 73)).heap.size) := Lib.hid (fun z => by simp; omega)
    have HQ : Hid (∀ z : Int, (wr.alloc (.cells #[.string x.i, .int .i64 z] 73)).cell? ⟨og, 2, none⟩ = some (.slice (some ⟨eb, eo, none⟩) N c)) := Lib.hid (fun z => ((hl2 z).cell (p := ⟨og, 2, none⟩) hogl).trans hq2)
    have hml : x.m.toList = x.m.data.toList := Lib.toList_data _
    generalize hkl : (treeK (L.take k)).length = kl at *
    have hbyte : (kl + 1) * 24 ≤ 140737488355328 := by omega
    have hmax : kl + 1 ≤ maxLen := by unfold maxLen; omega
    have HKL := Lib.hid hkl
    have HOGL := Lib.hid hogl
    clear hcell hx hb hl2 heb hkl hogl ho
    by_cases h2 : x.m.data.toList = [49, 54, 48, 48, 48, 48]
    · have h1 : ¬ x.m.data.toList = [52, 48, 48, 48, 48] := by rw [h2]; decide
      have HEK : Hid (entK x = []) := Lib.hid (by unfold entK; rw [if_neg h1, if_pos h2])
      have e2 : (x.m.toList == [49, 54, 48, 48, 48, 48]) = true := by rw [hml, h2]; rfl
      have HO9 : Hid (OwnS wr (og + 1) 73 2 (.slice Av kl cv) (treeK (L.take (k + 1))).length (lkVs (treeK (L.take (k + 1))))) := Lib.hid (by
       rw [HKS.out, HEK.out, List.append_nil, HKL.out]
       exact HO.out)
      have HQ0 := Lib.hid hq2
      clear h1 h2 hml HO2 HB2 HSRC HBS HQ
      go_wp2
      go_roundw
      case rel => exact ⟨k + 1, _, rfl, rfl, by omega, HO9.out, HB.out, HQ0.out⟩
      case measure => simp [intOf]; omega
    · have e2 : (x.m.toList == [49, 54, 48, 48, 48, 48]) = false := by rw [hml, beq_eq_false_iff_ne]; exact h2
      by_cases h1 : x.m.data.toList = [52, 48, 48, 48, 48]
      · have HEK : Hid (entK x = [⟨x.i, 2⟩]) := Lib.hid (by unfold entK; rw [if_pos h1])
        have e1 : (x.m.toList == [52, 48, 48, 48, 48]) = true := by rw [hml, h1]; rfl
        clear h1 h2 hml
        go_wp2_with (at_builtin; go_loud (refine wpList_append_S rfl (.tmp 61) (.tmp 69) 70 70 rfl i0 (.agg #[.string ⟨#[]⟩, .int .i64 0]) 24 (.slice 73) Tryz.underlying70 Tryz.underlying70 (fun _ h => by cases h) hi hz0 hz1 hz2 rfl rfl rfl (HO2.out 2) (HSRC.out 2) hmax hbyte (HBS.out 2) ?_; intro A9 c9 w9 ho9 hg9 hw9))
        have HO9 : Hid (OwnS w9 (og + 1) 73 2 (.slice A9 (kl + 1) c9) (treeK (L.take (k + 1))).length (lkVs (treeK (L.take (k + 1))))) := Lib.hid (by
         rw [HKS.out, HEK.out, List.length_append, lkVs_snoc, HKL.out]
         exact ho9)
        have hch : Chg (fun j => og + 1 ≤ j) (wr.alloc (.cells #[.string x.i, .int .i64 2] 73)) w9 := Chg.of_grown hg9 (fun j hj => ((HO2.out 2).lt j hj).1)
        have HB9 : Hid (Below w.heap.size w w9) := Lib.hid ((HB2.out 2).trans (hch.below (HB2.out 2).size (fun i hi e => by have := HOG.out; omega)))
        have HQ9 : Hid (w9.cell? ⟨og, 2, none⟩ = some (.slice (some ⟨eb, eo, none⟩) N c)) := Lib.hid ((World.cell?_of_block (by rw [hch.block og (by simp; have := HOGL.out; omega) (by omega)])).trans (HQ.out 2))
        clear ho9 hg9 hw9 hch
        go_roundw
        case rel => exact ⟨k + 1, _, rfl, rfl, by omega, HO9.out, HB9.out, HQ9.out⟩
        case measure => simp [intOf]; omega
      · have HEK : Hid (entK x = [⟨x.i, 3⟩]) := Lib.hid (by unfold entK; rw [if_neg h1, if_neg h2])
        have e1 : (x.m.toList == [52, 48, 48, 48, 48]) = false := by rw [hml, beq_eq_false_iff_ne]; exact h1
        clear h1 h2 hml
        go_wp2_with (at_builtin; go_loud (refine wpList_append_S rfl (.tmp 47) (.tmp 55) 70 70 rfl i0 (.agg #[.string ⟨#[]⟩, .int .i64 0]) 24 (.slice 73) Tryz.underlying70 Tryz.underlying70 (fun _ h => by cases h) hi hz0 hz1 hz2 rfl rfl rfl (HO2.out 3) (HSRC.out 3) hmax hbyte (HBS.out 3) ?_; intro A9 c9 w9 ho9 hg9 hw9))
        have HO9 : Hid (OwnS w9 (og + 1) 73 2 (.slice A9 (kl + 1) c9) (treeK (L.take (k + 1))).length (lkVs (treeK (L.take (k + 1))))) := Lib.hid (by
         rw [HKS.out, HEK.out, List.length_append, lkVs_snoc, HKL.out]
         exact ho9)
        have hch : Chg (fun j => og + 1 ≤ j) (wr.alloc (.cells #[.string x.i, .int .i64 3] 73)) w9 := Chg.of_grown hg9 (fun j hj => ((HO2.out 3).lt j hj).1)
        have HB9 : Hid (Below w.heap.size w w9) := Lib.hid ((HB2.out 3).trans (hch.below (HB2.out 3).size (fun i hi e => by have := HOG.out; omega)))
        have HQ9 : Hid (w9.cell? ⟨og, 2, none⟩ = some (.slice (some ⟨eb, eo, none⟩) N c)) := Lib.hid ((World.cell?_of_block (by rw [hch.block og (by simp; have := HOGL.out; omega) (by omega)])).trans (HQ.out 3))
        clear ho9 hg9 hw9 hch
        go_roundw
        case rel => exact ⟨k + 1, _, rfl, rfl, by omega, HO9.out, HB9.out, HQ9.out⟩
        case measure => simp [intOf]; omega
  · obtain rfl : k = N := by omega
    have d2 : decide ((k : Int) < (k : Int)) = false := decide_eq_false (by omega)
    have d2' : decide (k < k) = false := decide_eq_false (by omega)
    rw [List.take_of_length_le (by rw [HN.out]; exact Nat.le_refl _)] at ho
    rw [List.take_of_length_le (by rw [HN.out]; exact Nat.le_refl _)]
    have HO := Lib.hid ho
    clear ho hb
    go_wp2
    go_ret
    exact ⟨HB.out, Av, cv, rfl, HO.out.base_ (by have := HOG.out; omega)⟩
/-- A row of links read. -/
def LksAt (w : World) (A : Option Addr) (K : List Lk) : Prop := 0 < K.length → ∃ b o, A = some ⟨b, o, none⟩ ∧ b < w.heap.size ∧ ∀ (i : Nat) (x : Lk), K[i]? = some x → w.cell? ⟨b, o + i * 2, none⟩ = some (.string x.id) ∧ w.cell? ⟨b, o + i * 2 + 1, none⟩ = some (.int .i64 x.k)
theorem LksAt.below {w w' : World} {A : Option Addr} {K : List Lk} (h : LksAt w A K) (hb : Below w.heap.size w w') : LksAt w' A K := fun hl => by
 obtain ⟨b, o, h1, h2, h3⟩ := h hl
 exact ⟨b, o, h1, Nat.lt_of_lt_of_le h2 hb.size, fun i x hx => ⟨(hb.cell (p := ⟨b, o + i * 2, none⟩) h2).trans (h3 i x hx).1, (hb.cell (p := ⟨b, o + i * 2 + 1, none⟩) h2).trans (h3 i x hx).2⟩⟩
end Go.Proofs.YtihanglnjghcfaaGreatDoor
namespace Go.Proofs.YtihanglnjghcfaaGreatDoor
open Go.RowKit Go.Maps
set_option linter.unusedVariables false
set_option linter.unusedSimpArgs false

/-- The document's object. -/
structure Ob8 where
 kd : Int
 d : ByteArray
 vL : Value
 t : ByteArray
 vP : Value
 a : ByteArray
 c : ByteArray
 o : ByteArray
 n : ByteArray
 ty : Int
 g : ByteArray
 m : ByteArray
def Ob8.V (x : Ob8) : Array Value := #[.int .i64 x.kd, .string x.d, x.vL, .string x.t, x.vP, .string x.a, .string x.c, .string x.o, .string x.n, .int .i64 x.ty, .string x.g, .string x.m]
/-- What an object above B tells. -/
structure Ob8Is (B : Nat) (w : World) (kd : Int) (b : List UInt8) (x : Ob8) (ks : List Lk) : Prop where
 lk : lkOf kd b = some ks
 links : ∀ w1, Chg (fun k => k < B) w w1 → Calls Tryz.prog 31 #[.agg x.V] w1 (RLinks ks w1)
 pa : kd = 1 → ∃ A c P, paOf kd b = some P ∧ x.vP = .slice A P.length c ∧ OwnS w B 9 1 (.slice A P.length c) P.length (strVs P)
 one : ∀ v ∈ x.V.toList, v.oneCell' = true
 tg : kd = 4 → ∃ o, tgOf kd b = some o ∧ x.o = bk o
def RParsePost (kd : Int) (b : List UInt8) (w : World) (e : Ending) (w' : World) : Prop :=
 Below w.heap.size w w' ∧ ((lkOf kd b = none ∧ ∃ n : Int, (n == 0) = false ∧ e = .returned (.tuple #[.agg zeroV, .int .i64 n])) ∨
  ∃ x ks, e = .returned (.tuple #[.agg x.V, .int .i64 0]) ∧ Ob8Is w.heap.size w' kd b x ks)
theorem rparse_any (kd : Int) (b : List UInt8) (w : World) (hs : b.length ≤ 1099511627775) :
 Calls Tryz.prog 30 #[.int .i64 kd, .string (bk b)] w (RParsePost kd b w) := by
 have hs2 : (bk b).size ≤ 8796093022000 := by rw [bk_size]; omega
 by_cases h1 : kd = 1
 · subst h1
   refine (rpcommit_any (bk b) w hs2).mono ?_
   rw [bk_list]
   rintro e w1 ⟨hb, ⟨h0, rfl⟩ | ⟨r, A, c, hr, rfl, ho⟩⟩
   · exact ⟨hb, .inl ⟨by unfold lkOf; rw [if_pos rfl, h0]; rfl, 3, by decide, rfl⟩⟩
   · have hn := commit_num hr
     exact ⟨hb, .inr ⟨⟨1, ⟨#[]⟩, .slice none 0 0, bk r.t, .slice A r.P.length c, bk r.a, bk r.c, ⟨#[]⟩, ⟨#[]⟩, 0, ⟨#[]⟩, bk r.m⟩, comK (bk r.t) (r.P.map bk), rfl, by unfold lkOf; rw [if_pos rfl, hr]; rfl,
      fun w2 hc => rlinksCommit_any _ _ _ A r.P.length c (r.P.map bk) _ _ _ _ _ _ _ w2 (ho.chgB hc).strsAt (by simp) (by omega), fun _ => ⟨A, c, r.P, by unfold paOf; rw [if_pos rfl, hr]; rfl, rfl, ho⟩, by simp [Ob8.V, Value.oneCell'], fun h => absurd h (by decide)⟩⟩
 · by_cases h2 : kd = 2
   · subst h2
     refine (rptree_any (bk b) w hs2).mono ?_
     rw [bk_list]
     rintro e w1 ⟨hb, ⟨h0, rfl⟩ | ⟨L, A, c, hr, rfl, ho⟩⟩
     · exact ⟨hb, .inl ⟨by unfold lkOf; rw [if_neg (by decide), if_pos rfl, h0]; rfl, 3, by decide, rfl⟩⟩
     · have hn := treeU_num _ _ _ _ hr
       simp only [List.length_nil, Nat.zero_add] at hn
       exact ⟨hb, .inr ⟨⟨2, ⟨#[]⟩, .slice A L.length c, ⟨#[]⟩, .slice none 0 0, ⟨#[]⟩, ⟨#[]⟩, ⟨#[]⟩, ⟨#[]⟩, 0, ⟨#[]⟩, ⟨#[]⟩⟩, treeK L, rfl, by unfold lkOf; rw [if_neg (by decide), if_pos rfl, hr]; rfl,
        fun w2 hc => rlinksTree_any _ _ A L.length c L _ _ _ _ _ _ _ _ w2 (ho.chgB hc).entsAt rfl (by omega), fun h => absurd h (by decide), by simp [Ob8.V, Value.oneCell'], fun h => absurd h (by decide)⟩⟩
   · by_cases h3 : kd = 3
     · subst h3
       refine (rpblob_any (bk b) w hs2).mono ?_
       rintro e w1 ⟨hb, rfl⟩
       exact ⟨hb, .inr ⟨⟨3, bk b, .slice none 0 0, ⟨#[]⟩, .slice none 0 0, ⟨#[]⟩, ⟨#[]⟩, ⟨#[]⟩, ⟨#[]⟩, 0, ⟨#[]⟩, ⟨#[]⟩⟩, [], rfl, by unfold lkOf; simp,
        fun w2 hc => rlinksBlob_any _ _ _ _ _ _ _ _ _ _ _ w2, fun h => absurd h (by decide), by simp [Ob8.V, Value.oneCell'], fun h => absurd h (by decide)⟩⟩
     · by_cases h4 : kd = 4
       · subst h4
         refine (rptag_any (bk b) w hs2).mono ?_
         rw [bk_list]
         rintro e w1 ⟨hb, ⟨h0, rfl⟩ | ⟨r, hr, rfl⟩⟩
         · exact ⟨hb, .inl ⟨by unfold lkOf; rw [if_neg (by decide), if_neg (by decide), if_neg (by decide), if_pos rfl, h0]; rfl, 3, by decide, rfl⟩⟩
         · exact ⟨hb, .inr ⟨⟨4, ⟨#[]⟩, .slice none 0 0, ⟨#[]⟩, .slice none 0 0, ⟨#[]⟩, ⟨#[]⟩, bk r.o, bk r.n, (r.k : Int), bk r.g, bk r.m⟩, [⟨bk r.o, (r.k : Int)⟩], rfl, by unfold lkOf; rw [if_neg (by decide), if_neg (by decide), if_neg (by decide), if_pos rfl, hr]; rfl,
          fun w2 hc => rlinksTag_any _ _ _ _ _ _ _ _ _ _ _ w2, fun h => absurd h (by decide), by simp [Ob8.V, Value.oneCell'], fun _ => ⟨r.o, by unfold tgOf; rw [if_pos rfl, hr]; rfl, rfl⟩⟩⟩
       · refine (rpnone_any kd _ w (by omega)).mono ?_
         rintro e w1 ⟨rfl, hb⟩
         exact ⟨hb, .inl ⟨by unfold lkOf; rw [if_neg h1, if_neg h2, if_neg h3, if_neg h4], 1, by decide, rfl⟩⟩
end Go.Proofs.YtihanglnjghcfaaGreatDoor
