/- The document's SHA-1. -/
import Derived.Test.YtihanglnjghcfaaGreatDoorGLn0
import Derived.Deep.CutBlock
import Derived.Laws.BitsLemmas
namespace Go.Proofs.YtihanglnjghcfaaGreatDoor
open Go.RowKit
set_option linter.unusedVariables false

theorem Cel.newH (w : World) (t : TypeId) (x0 x1 x2 x3 x4 : Int) (Q : H5) (h : Q = ⟨x0, x1, x2, x3, x4⟩) : Cel (w.alloc (.cells #[.int .u32 x0, .int .u32 x1, .int .u32 x2, .int .u32 x3, .int .u32 x4] t)) w.heap.size t 5 (hF Q) := by
 subst h
 exact Cel.new w t #[.int .u32 x0, .int .u32 x1, .int .u32 x2, .int .u32 x3, .int .u32 x4] _ (fun i hi => by
  match i, hi with
  | 0, _ => rfl
  | 1, _ => rfl
  | 2, _ => rfl
  | 3, _ => rfl
  | 4, _ => rfl)
theorem info_w32 : (Tryz.prog.info? 140).map (fun i => (i.zero, i.size, i.bytes)) = some (some (.int .u32 0), 1, 4) := by kernel_rfl
theorem make80 (w : World) : (Instr.makeSlice 141 (.int .i64 80) (.int .i64 80)).run Tryz.prog w = .ok (.slice (some ⟨w.heap.size, 0, none⟩) 80 80) (w.alloc (.cells (madeCells #[.int .u32 0] 80) 140)) := by
 obtain ⟨i0, hi, hz0, hz1, hz2⟩ := info_parts info_w32
 have hr := run_make (P := Tryz.prog) w 141 140 i0 (.int .u32 0) Tryz.underlying141 hi hz0 .i64 .i64 80 80 (by decide) (by decide) (by rw [hz2]; decide) (by decide)
 simp only [hz1] at hr
 exact hr

set_option maxRecDepth 100000 in
set_option maxHeartbeats 4000000 in
theorem refSha_any (s : ByteArray) (w : World) (hsz : s.size ≤ 140737488351300) :
 Calls Tryz.prog 57 #[.string s] w (AskPost w (shaTo (fb (((shaMsg (bytesOf s) (s.size : Int))).length / 64) h0 (shaMsg (bytesOf s) (s.size : Int))) 5)) := by
 obtain ⟨i0, hi, hz0, hz1, hz2⟩ := info_parts Tryz.info_u8
 have hcv := fun W => run_bytes_of_string (P := Tryz.prog) W 9 48 5 s Tryz.underlying9 Tryz.underlying48 Tryz.underlying5
 have hge := grownCap_ge w s.size 0 5
 have hcm : grownCap w s.size 0 5 ≤ maxLen := grownCap_le_maxLen w s.size 0 5 (by unfold maxLen; omega)
 go_enter Tryz.func57, Tryz.ntmps57
 have hoS := OwnS.of_str w s 5 _ hge hcm
 have hb := bytesOf_ok s
 have hbl := bytesOf_len s
 go_wp2_with (at_builtin; go_loud (refine wpList_append_S rfl (.tmp 24) (.tmp 25) 48 48 rfl i0 (.int .u8 0) 1 (.slice 5) Tryz.underlying48 Tryz.underlying48 (fun _ h => by cases h) hi hz0 hz1 hz2 rfl rfl rfl ((hoS.alloc _).drew) ((Src.one_at (u := .int .u8 128) (by simp) rfl).drew) ?_ ?_ ?_ ?_; (unfold maxLen; omega); omega; (simp; omega); intro A2 c2 w2 ho2 hg2 hw2))
 generalize hR : bytesOf s = R at *
 have hp2 : OwnS w2 w.heap.size 5 1 (.slice A2 (padTo R 0).length c2) (padTo R 0).length ((padTo R 0).map (Value.int .u8)) := by
  rw [padTo_len, hbl]; unfold padTo; rw [List.map_append]; exact ho2
 have hl2 : s.size + 1 = (padTo R 0).length := by rw [padTo_len, hbl]
 have hB2 : Below w.heap.size w w2 := ((((Below.refl _ _).alloc (Nat.le_refl _) _).alloc (by simp) _).drew).grown hg2 (by simp; omega) (fun k h => (hoS.lt k h).1)
 clear hcv ho2 hg2 hw2 hoS hge hcm
 rw [hl2]
 have HR := Lib.hid hR
 have HL := Lib.hid hbl
 clear hR
 go_loopw [4] (fun p wr => ∃ (k : Nat) (A : Option Addr) (c : Nat), k ≤ padN R.length ∧ p = .slice A (padTo R k).length c ∧ OwnS wr w.heap.size 5 1 (.slice A (padTo R k).length c) (padTo R k).length ((padTo R k).map (Value.int .u8)) ∧ Below w.heap.size w wr) (fun p _ => 140737488355327 - lenOf p)
 case atStart => exact ⟨0, A2, c2, Nat.zero_le _, rfl, hp2, hB2⟩
 case round =>
  clear hp2 hB2 hl2
  obtain ⟨k, A, c, hk, rfl, ho, hB⟩ := hrel
  have hpl := padTo_len R k
  have hpn := padN_le R.length
  have hRl : R.length ≤ 140737488351300 := by omega
  clear hbl
  by_cases hlt : k < padN R.length
  · have hne : ((padTo R k).length : Int) % 64 ≠ 56 := by rw [hpl]; exact padN_lt _ _ hlt
    have hd : (((padTo R k).length : Int) % 64 != 56) = true := by simpa using hne
    go_wp2_with (at_builtin; refine wpList_append_S rfl (.tmp 31) (.tmp 32) 48 48 rfl i0 (.int .u8 0) 1 (.slice 5) Tryz.underlying48 Tryz.underlying48 (fun _ h => by cases h) hi hz0 hz1 hz2 rfl rfl rfl (ho.alloc _) (Src.one_new (u := .int .u8 0) rfl) ?_ ?_ ?_ ?_; (unfold maxLen; omega); omega; (have := hB.size; simp; omega); intro A2 c2 w2 ho2 hg2 hw2)
    go_roundw
    case rel =>
     have hB' := hB.size
     have hl1' := padTo_len R (k + 1)
     have e : (padTo R k).length + 1 = (padTo R (k + 1)).length := by omega
     have e2 : (padTo R k).map (Value.int .u8) ++ [Value.int .u8 0] = (padTo R (k + 1)).map (Value.int .u8) := by rw [padTo_succ, List.map_append]; rfl
     rw [e, e2] at ho2
     rw [show R.length + 1 + k + 1 = (padTo R (k + 1)).length by omega]
     exact ⟨k + 1, A2, c2, by omega, rfl, ho2, (hB.alloc (by omega) _).grown hg2 (by simp; omega) (fun q h => (ho.lt q h).1)⟩
    case measure => simp only [lenOf]; omega
  · obtain rfl : k = padN R.length := by omega
    have hmod := padN_eq R.length
    rw [← hpl] at hmod
    have hd : (((padTo R (padN R.length)).length : Int) % 64 != 56) = false := by simp; omega
    have hlen : (padTo R (padN R.length)).length ≤ 140737488351370 := by omega
    have hDb : Bytes (padTo R (padN R.length)) := fun x hx => by
     unfold padTo at hx
     rcases List.mem_append.1 hx with h' | h'
     · exact hb x h'
     · rcases List.mem_cons.1 h' with rfl | h'
       · omega
       · rw [List.eq_of_mem_replicate h']; omega
    clear hpl hpn hlt
    generalize hD : padTo R (padN R.length) = D at *
    have HD := Lib.hid hD
    clear hD
    have hM : shaMsg R (s.size : Int) = D ++ wordsL [(s.size : Int) * 8 / 4294967296, (s.size : Int) * 8 % 4294967296] := by
     unfold shaMsg
     rw [HD.out, IntKind.wrap_u32', IntKind.wrap_u32', IntKind.wrap_u64]
     rw [show (s.size : Int) / 536870912 % 4294967296 = (s.size : Int) * 8 / 4294967296 by omega, show (s.size : Int) * 8 % 18446744073709551616 % 4294967296 = (s.size : Int) * 8 % 4294967296 by omega]
     simp [wordsL]
    have hwl : (wordsL [(s.size : Int) * 8 / 4294967296, (s.size : Int) * 8 % 4294967296]).length = 8 := rfl
    have hW : Words [(s.size : Int) * 8 / 4294967296, (s.size : Int) * 8 % 4294967296] := by
     intro x hx
     simp only [List.mem_cons, List.not_mem_nil, or_false] at hx
     rcases hx with rfl | rfl <;> omega
    have hWb := wordsL_ok _ hW
    have HM := Lib.hid hM
    have HWL := Lib.hid hwl
    clear hM hwl
    go_wp2_with fail
    refine (words_any (some ⟨wr.heap.size, 0, none⟩) 2 2 [(s.size : Int) * 8 / 4294967296, (s.size : Int) * 8 % 4294967296] _ (Ints.of_new (heap_alloc_new wr _) rfl) rfl hW (by decide)).mono ?_
    rintro e w3 ⟨A3, c3, rfl, ho3, hb3⟩
    have hB3 : Below w.heap.size w w3 := (hB.alloc hB.size _).trans (hb3.mono (by simp; have := hB.size; omega))
    have hoD : OwnS w3 w.heap.size 5 1 (.slice A D.length c) D.length (D.map (Value.int .u8)) := (ho.alloc _).chg (Chg.of_below (S := fun _ => False) hb3) (fun _ _ h => h)
    have hI3 := ho3.ints
    clear ho3 hb3 ho hB hW
    generalize wordsL [(s.size : Int) * 8 / 4294967296, (s.size : Int) * 8 % 4294967296] = W8 at *
    have hw8 : W8.length ≤ 8 := Nat.le_of_eq HWL.out
    have hS3 := Src.ints (P := Tryz.prog) (c := c3) hI3
    have hmk := make80
    go_wp2_with (at_builtin; go_loud (refine wpList_append_S rfl (.tmp 34) (.tmp 41) 48 48 rfl i0 (.int .u8 0) 1 (.slice 5) Tryz.underlying48 Tryz.underlying48 (fun _ h => by cases h) hi hz0 hz1 hz2 rfl rfl rfl hoD hS3 ?_ ?_ ?_ ?_; (unfold maxLen; omega); omega; (have := hB3.size; omega); intro A5 c5 w5 ho5 hg5 hw5))
    have hMl : D.length + W8.length = (shaMsg R (s.size : Int)).length := by rw [HM.out, List.length_append]
    have hMm : (D.map (Value.int .u8) ++ W8.map (Value.int .u8)) = (shaMsg R (s.size : Int)).map (Value.int .u8) := by rw [HM.out, List.map_append]
    have hMb : Bytes (shaMsg R (s.size : Int)) := by
     rw [HM.out]
     intro x hx
     rcases List.mem_append.1 hx with hx | hx
     · exact hDb x hx
     · exact hWb x hx
    have hMd : (shaMsg R (s.size : Int)).length = 64 * ((shaMsg R (s.size : Int)).length / 64) := by have := HWL.out; omega
    have hMle : (shaMsg R (s.size : Int)).length ≤ 140737488351378 := by omega
    rw [hMm, hMl] at ho5
    rw [hMl]
    have hB5 : Below w.heap.size w w5 := hB3.grown hg5 hB3.size (fun q h => (hoD.lt q h).1)
    have hI5 := ho5.ints
    have hA5 : ∀ o, 0 < (shaMsg R (s.size : Int)).length → A5 ≠ some ⟨w5.heap.size + 1, o, none⟩ := fun o hl h => by
     subst h
     have := ho5.lt (w5.heap.size + 1) rfl
     omega
    clear ho5 hg5 hw5 hMm hMl hoD hS3 hI3 hB3 HM hDb hWb hlen hw8 hd hmod
    generalize shaMsg R (s.size : Int) = M at *
    have hcel : Cel ((w5.alloc (.cells #[.int .u32 1732584193, .int .u32 4023233417, .int .u32 2562383102, .int .u32 271733878, .int .u32 3285377520] 140)).alloc (.cells (madeCells #[.int .u32 0] 80) 140)) w5.heap.size 140 5 (hF h0) :=
     (Cel.new w5 _ #[.int .u32 1732584193, .int .u32 4023233417, .int .u32 2562383102, .int .u32 271733878, .int .u32 3285377520] (hF h0) (fun i hi => by
      match i, hi with
      | 0, _ => rfl
      | 1, _ => rfl
      | 2, _ => rfl
      | 3, _ => rfl
      | 4, _ => rfl)).alloc _
    have hpre : Pre ((w5.alloc (.cells #[.int .u32 1732584193, .int .u32 4023233417, .int .u32 2562383102, .int .u32 271733878, .int .u32 3285377520] 140)).alloc (.cells (madeCells #[.int .u32 0] 80) 140)) (w5.heap.size + 1) 140 80 .u32 [] :=
     ⟨_, heap_at _ _ _ (by simp), by simp [madeCells], by simp, fun j hj => by simp at hj⟩
    have hB7 := (hB5.alloc hB5.size (.cells #[.int .u32 1732584193, .int .u32 4023233417, .int .u32 2562383102, .int .u32 271733878, .int .u32 3285377520] 140)).alloc (by simp; have := hB5.size; omega) (.cells (madeCells #[.int .u32 0] 80) 140)
    have hI7 : Ints .u8 ((w5.alloc (.cells #[.int .u32 1732584193, .int .u32 4023233417, .int .u32 2562383102, .int .u32 271733878, .int .u32 3285377520] 140)).alloc (.cells (madeCells #[.int .u32 0] 80) 140)) A5 M :=
     hI5.below (((Below.refl _ _).alloc (Nat.le_refl _) _).alloc (by simp) _)
    have hgw : w.heap.size ≤ w5.heap.size + 1 := by have := hB5.size; omega
    have hgg : w5.heap.size ≠ w5.heap.size + 1 := by omega
    clear hI5 hB5 hmk
    generalize ((w5.alloc (.cells #[.int .u32 1732584193, .int .u32 4023233417, .int .u32 2562383102, .int .u32 271733878, .int .u32 3285377520] 140)).alloc (.cells (madeCells #[.int .u32 0] 80) 140)) = w7 at *
    generalize w5.heap.size + 1 = gw at *
    generalize w5.heap.size = gh0 at *
    generalize hnb : M.length / 64 = nb at *
    have HNB := Lib.hid hnb
    clear hnb
    go_loopw [5, 7] (fun hs at_ wr => ∃ (i a gh : Nat), i ≤ nb ∧ Hid (a = 64 * i) ∧ a ≤ M.length ∧ at_ = .int .i64 a ∧ hs = .slice (some ⟨gh, 0, none⟩) 5 5 ∧ Cel wr gh 140 5 (hF (fb i h0 M)) ∧ gh ≠ gw ∧ (∃ l, Pre wr gw 140 80 .u32 l) ∧ Ints .u8 wr A5 M ∧ Below w.heap.size w wr) (fun _ at_ _ => M.length - (intOf at_).toNat)
    case atStart => exact ⟨0, 0, gh0, Nat.zero_le _, rfl, Nat.zero_le _, rfl, rfl, hcel, hgg, ⟨_, hpre⟩, hI7, hB7⟩
    case round =>
     clear hcel hpre hI7 hB7 hgg
     obtain ⟨i, a, gh, hi8, ha8, haM, rfl, rfl, hc, hgg, ⟨l0, hpre⟩, hI, hB⟩ := hrel
     have hpre : Pre wr gw 140 80 .u32 [] := by
      obtain ⟨cs, h1, h2, h3, h4⟩ := hpre
      exact ⟨cs, h1, h2, by simp, fun j hj => by simp at hj⟩
     have hML := Lib.hid hMd
     have hok8 := fb_ok i h0 M h0_ok
     have FS : Hid (fb (i + 1) h0 M = mixH (fb i h0 M) (M.drop (64 * i))) := fb_succ i h0 M
     by_cases hlt : a < M.length
     · have hin : i < nb := by have := ha8.out; have := hML.out; omega
       have hr64 : a + 64 ≤ M.length := by have := ha8.out; have := hML.out; omega
       have hrd : ∀ j, (M.drop (64 * i)).getD j 0 = M.getD (a + j) 0 := fun j => by
        rw [ha8.out]; simp [List.getD_eq_getElem?_getD]
       have hSC0 : schedTo (M.drop (64 * i)) 0 = [] := rfl
       rw [← hSC0] at hpre
       clear hMd hSC0
       generalize hK : fb i h0 M = K at *
       have HK := Lib.hid hK
       clear hK
       generalize hr : M.drop (64 * i) = r at *
       have HRR := Lib.hid hr
       clear hr
       have hIo := hI
       obtain ⟨b, o, rfl, hbl, hcell⟩ := hI (by omega)
       have hbg : b ≠ gw := fun h => by subst h; exact hA5 o (by omega) rfl
       obtain ⟨wo, rfl⟩ : ∃ wo : World, wo = wr := ⟨_, rfl⟩
       go_wp2
       go_loopw [8] (fun t wr => ∃ k : Nat, k ≤ 80 ∧ t = .int .i64 k ∧ Pre wr gw 140 80 .u32 (schedTo r k) ∧ Chg (fun q => q = gw) wo wr) (fun t _ => 80 - (intOf t).toNat)
       case atStart => exact ⟨0, by omega, rfl, hpre, Chg.refl _ _⟩
       case round =>
        clear hpre
        obtain ⟨k, hk, rfl, hP, hCh⟩ := hrel
        have hl := schedTo_len r k
        by_cases hlk : k < 80
        · obtain ⟨v0, hv0⟩ := hP.some_ (j := k) hlk
          have hf0 := hP.frozen k
          have q4 : (k : Int) < 80 := by omega
          by_cases h16 : k < 16
          · have hcl : ∀ j, j < M.length → wr.cell? ⟨b, o + j, none⟩ = some (.int .u8 (M.getD j 0)) := fun j hj => (World.cell?_of_block (hCh.block b hbl hbg)).trans (hcell j hj)
            have c0 := hcl (a + 4 * k) (by omega)
            have c1 := hcl (a + 4 * k + 1) (by omega)
            have c2 := hcl (a + 4 * k + 2) (by omega)
            have c3 := hcl (a + 4 * k + 3) (by omega)
            have r0 := hMb.at_ (a + 4 * k) (by omega)
            have r1 := hMb.at_ (a + 4 * k + 1) (by omega)
            have r2 := hMb.at_ (a + 4 * k + 2) (by omega)
            have r3 := hMb.at_ (a + 4 * k + 3) (by omega)
            have l0 : (a : Int) + 4 * k < M.length := by omega
            have l1 : (a : Int) + 4 * k + 1 < M.length := by omega
            have l2 : (a : Int) + 4 * k + 2 < M.length := by omega
            have l3 : (a : Int) + 4 * k + 3 < M.length := by omega
            have HW : Hid (schedTo r (k + 1) = schedTo r k ++ [num4 (M.getD (a + 4 * k) 0) (M.getD (a + 4 * k + 1) 0) (M.getD (a + 4 * k + 2) 0) (M.getD (a + 4 * k + 3) 0)]) := by
             show _ = _
             rw [schedTo, if_pos h16, wordAt, hrd, hrd, hrd, hrd]; rfl
            have HLk := Lib.hid hl
            clear hcl hcell hl hrd
            generalize M.getD (a + 4 * k) 0 = b0 at *
            generalize M.getD (a + 4 * k + 1) 0 = b1 at *
            generalize M.getD (a + 4 * k + 2) 0 = b2 at *
            generalize M.getD (a + 4 * k + 3) 0 = b3 at *
            have n0 : ((a : Int) + 4 * k).toNat = a + 4 * k := by omega
            have n1 : ((a : Int) + 4 * k + 1).toNat = a + 4 * k + 1 := by omega
            have n2 : ((a : Int) + 4 * k + 2).toNat = a + 4 * k + 2 := by omega
            have n3 : ((a : Int) + 4 * k + 3).toNat = a + 4 * k + 3 := by omega
            have g1 : IntKind.i64.wrap ((a : Int) + 4 * k + 1) = (a : Int) + 4 * k + 1 := by exact IntWalk.i64_in _ (by omega)
            have g2 : IntKind.i64.wrap ((a : Int) + 4 * k + 2) = (a : Int) + 4 * k + 2 := by exact IntWalk.i64_in _ (by omega)
            have g3 : IntKind.i64.wrap ((a : Int) + 4 * k + 3) = (a : Int) + 4 * k + 3 := by exact IntWalk.i64_in _ (by omega)
            have p0 : 0 ≤ (a : Int) + 4 * k := by omega
            have p1 : 0 ≤ (a : Int) + 4 * k + 1 := by omega
            have p2 : 0 ≤ (a : Int) + 4 * k + 2 := by omega
            have p3 : 0 ≤ (a : Int) + 4 * k + 3 := by omega
            have v0 : IntKind.u32.wrap b0 = b0 := by rw [IntKind.wrap_u32']; omega
            have v1 : IntKind.u32.wrap b1 = b1 := by rw [IntKind.wrap_u32']; omega
            have v2 : IntKind.u32.wrap b2 = b2 := by rw [IntKind.wrap_u32']; omega
            have v3 : IntKind.u32.wrap b3 = b3 := by rw [IntKind.wrap_u32']; omega
            have x0 : IntKind.u32.wrap (b0 * 16777216) = b0 * 16777216 := by rw [IntKind.wrap_u32']; omega
            have x1 : IntKind.u32.wrap (b1 * 65536) = b1 * 65536 := by rw [IntKind.wrap_u32']; omega
            have x2 : IntKind.u32.wrap (b2 * 256) = b2 * 256 := by rw [IntKind.wrap_u32']; omega
            go_wp2
            refine wp_region_still_tail 32 (by kernel_rfl) (by kernel_rfl) ?_
            simp only [List.take_succ_cons, List.take_zero, List.drop_succ_cons, List.drop_zero]
            repeat still_step
            first | refine wpStill_nil ?_ | (trace_state; fail)
            change wpList _ _ _ _ _ wr.drew
            go_wp2
            go_roundw
            case rel =>
             refine ⟨k + 1, by omega, by go_num, ?_, (hCh.drew).setCell (.inl rfl) _⟩
             have hs := (hP.drew).snoc (by have := HLk.out; omega) (num4 b0 b1 b2 b3)
             rw [HW.out]
             rw [HLk.out] at hs
             exact hs
            case measure => simp [intOf]; omega
          · have c0 := hP.cell (j := k - 3) (by omega)
            have c1 := hP.cell (j := k - 8) (by omega)
            have c2 := hP.cell (j := k - 14) (by omega)
            have c3 := hP.cell (j := k - 16) (by omega)
            have HW : Hid (schedTo r (k + 1) = schedTo r k ++ [rotN 1 (bits .xor .u32 (bits .xor .u32 (bits .xor .u32 ((schedTo r k).getD (k - 3) 0) ((schedTo r k).getD (k - 8) 0)) ((schedTo r k).getD (k - 14) 0)) ((schedTo r k).getD (k - 16) 0))]) := by
             show _ = _
             rw [schedTo, if_neg (by omega)]; rfl
            have HLk := Lib.hid hl
            clear hl hcell hrd
            generalize (schedTo r k).getD (k - 3) 0 = b0 at *
            generalize (schedTo r k).getD (k - 8) 0 = b1 at *
            generalize (schedTo r k).getD (k - 14) 0 = b2 at *
            generalize (schedTo r k).getD (k - 16) 0 = b3 at *
            have hx := bits_u32 .xor (bits .xor .u32 (bits .xor .u32 b0 b1) b2) b3
            have n0 : (((k : Int) - 3)).toNat = k - 3 := by omega
            have n1 : (((k : Int) - 8)).toNat = k - 8 := by omega
            have n2 : (((k : Int) - 14)).toNat = k - 14 := by omega
            have n3 : (((k : Int) - 16)).toNat = k - 16 := by omega
            have g0 : IntKind.i64.wrap ((k : Int) - 3) = (k : Int) - 3 := by exact IntWalk.i64_in _ (by omega)
            have g1 : IntKind.i64.wrap ((k : Int) - 8) = (k : Int) - 8 := by exact IntWalk.i64_in _ (by omega)
            have g2 : IntKind.i64.wrap ((k : Int) - 14) = (k : Int) - 14 := by exact IntWalk.i64_in _ (by omega)
            have g3 : IntKind.i64.wrap ((k : Int) - 16) = (k : Int) - 16 := by exact IntWalk.i64_in _ (by omega)
            have p0 : (3 : Int) ≤ k := by omega
            have p1 : (8 : Int) ≤ k := by omega
            have p2 : (14 : Int) ≤ k := by omega
            have p3 : (16 : Int) ≤ k := by omega
            have q0 : (k : Int) - 3 < 80 := by omega
            have q1 : (k : Int) - 8 < 80 := by omega
            have q2 : (k : Int) - 14 < 80 := by omega
            have q3 : (k : Int) - 16 < 80 := by omega
            have o0 : 0 ≤ (k : Int) - 3 := by omega
            have o1 : 0 ≤ (k : Int) - 8 := by omega
            have o2 : 0 ≤ (k : Int) - 14 := by omega
            have o3 : 0 ≤ (k : Int) - 16 := by omega
            have z3 : k - 3 ≠ k := by omega
            have z8 : k - 8 ≠ k := by omega
            have z14 : k - 14 ≠ k := by omega
            have z16 : k - 16 ≠ k := by omega
            go_wp2
            go_region_held3 (fun w' => w'.cell? ⟨gw, k - 3, none⟩ = some (.int .u32 b0) ∧ w'.cell? ⟨gw, k - 8, none⟩ = some (.int .u32 b1) ∧ w'.cell? ⟨gw, k - 14, none⟩ = some (.int .u32 b2) ∧ w'.cell? ⟨gw, k - 16, none⟩ = some (.int .u32 b3)) (first | go_keep | (refine ⟨?_, ?_, ?_, ?_⟩ <;> (rw [cell_beside _ _ _ _ _ (Ne.symm (by assumption))]; assumption))) ((go_at_call 79; refine (rol_any _ _ _ hx.1 hx.2 (.inl rfl)).mono ?_; rintro e w' ⟨rfl, nq, rfl⟩))
            go_wp2
            go_roundw
            case rel =>
             refine ⟨k + 1, by omega, by go_num, ?_, ?_⟩
             · have hs := (hP.drewN (1 + nq)).snoc (by have := HLk.out; omega) (rotN 1 (bits .xor .u32 (bits .xor .u32 (bits .xor .u32 b0 b1) b2) b3))
               rw [HW.out]
               rw [HLk.out] at hs
               exact hs
             · exact (hCh.drewN (1 + nq)).setCell (.inl rfl) _
            case measure => simp [intOf]; omega
        · obtain rfl : k = 80 := by omega
          have hc3 := hc.chg hCh hgg
          have k0 : wr.cell? ⟨gh, 0, none⟩ = some (.int .u32 K.a) := hc3.cell 0 (by decide)
          have k1 : wr.cell? ⟨gh, 1, none⟩ = some (.int .u32 K.b) := hc3.cell 1 (by decide)
          have k2 : wr.cell? ⟨gh, 2, none⟩ = some (.int .u32 K.c) := hc3.cell 2 (by decide)
          have k3 : wr.cell? ⟨gh, 3, none⟩ = some (.int .u32 K.d) := hc3.cell 3 (by decide)
          have k4 : wr.cell? ⟨gh, 4, none⟩ = some (.int .u32 K.e) := hc3.cell 4 (by decide)
          clear hcell hrd hl hlk
          go_wp2
          go_loopw [10, 11, 12, 13, 14, 15] (fun sx sy sz su sv t w4 => ∃ q : Nat, q ≤ 80 ∧ t = .int .i64 q ∧ sx = .int .u32 (runH r K q).a ∧ sy = .int .u32 (runH r K q).b ∧ sz = .int .u32 (runH r K q).c ∧ su = .int .u32 (runH r K q).d ∧ sv = .int .u32 (runH r K q).e ∧ Drawn wr w4) (fun _ _ _ _ _ t _ => 80 - (intOf t).toNat)
          case atStart => exact ⟨0, by omega, rfl, rfl, rfl, rfl, rfl, rfl, ⟨0, rfl⟩⟩
          case round =>
           obtain ⟨q, hq, rfl, rfl, rfl, rfl, rfl, rfl, hdr⟩ := hrel
           have hokq := runH_ok r K hok8 q
           by_cases hlq : q < 80
           · have HST : Hid (runH r K (q + 1) = stepH r q (runH r K q)) := rfl
             generalize runH r K q = st at *
             obtain ⟨⟨j1, j2⟩, ⟨j3, j4⟩, ⟨j5, j6⟩, ⟨j7, j8⟩, ⟨j9, j10⟩⟩ := hokq
             have cW := (hdr.cell _).trans (hP.cell (j := q) (by rw [schedTo_len]; exact hlq))
             have qI : (q : Int) < 80 := by omega
             generalize hwv : (schedTo r 80).getD q 0 = wv at cW
             have HWV := Lib.hid hwv
             clear hwv
             have hsg := u32_unsigned
             obtain ⟨w4, rfl⟩ : ∃ w4 : World, w4 = wr := ⟨_, rfl⟩
             go_upto_block 8 with (fail)
             go_cut [16, 17] (fun f kk wx => f = .int .u32 (fT q st.b st.c st.d) ∧ kk = .int .u32 (kT q) ∧ w4 = wx)
             case first =>
              by_cases h60 : 60 ≤ q
              · have HF : Hid (∀ b c d, fT q b c d = fPar b c d) := fun b c d => by unfold fT; rw [if_neg (by omega), if_neg (by omega), if_neg (by omega)]
                have HKc : Hid (kT q = 3395469782) := by show _ = _; unfold kT; rw [if_neg (by omega), if_neg (by omega), if_neg (by omega)]
                have hI60 : (60 : Int) ≤ q := by omega
                go_wp2
                go_meet
                exact ⟨by rw [HF.out]; rfl, by rw [HKc.out], rfl⟩
              · by_cases h40 : 40 ≤ q
                · have HF : Hid (∀ b c d, fT q b c d = fMaj b c d) := fun b c d => by unfold fT; rw [if_neg (by omega), if_neg (by omega), if_pos (by omega)]
                  have HKc : Hid (kT q = 2400959708) := by show _ = _; unfold kT; rw [if_neg (by omega), if_neg (by omega), if_pos (by omega)]
                  have hI60 : decide ((60 : Int) ≤ q) = false := by simp; omega
                  have hI40 : (40 : Int) ≤ q := by omega
                  clear h60 h40
                  go_wp2
                  go_meet
                  exact ⟨by rw [HF.out]; rfl, by rw [HKc.out], rfl⟩
                · by_cases h20 : 20 ≤ q
                  · have HF : Hid (∀ b c d, fT q b c d = fPar b c d) := fun b c d => by unfold fT; rw [if_neg (by omega), if_pos (by omega)]
                    have HKc : Hid (kT q = 1859775393) := by show _ = _; unfold kT; rw [if_neg (by omega), if_pos (by omega)]
                    have hI60 : decide ((60 : Int) ≤ q) = false := by simp; omega
                    have hI40 : decide ((40 : Int) ≤ q) = false := by simp; omega
                    have hI20 : (20 : Int) ≤ q := by omega
                    clear h60 h40 h20
                    go_wp2
                    go_meet
                    exact ⟨by rw [HF.out]; rfl, by rw [HKc.out], rfl⟩
                  · have HF : Hid (∀ b c d, fT q b c d = fCh b c d) := fun b c d => by unfold fT; rw [if_pos (by omega)]
                    have HKc : Hid (kT q = 1518500249) := by show _ = _; unfold kT; rw [if_pos (by omega)]
                    have hI60 : decide ((60 : Int) ≤ q) = false := by simp; omega
                    have hI40 : decide ((40 : Int) ≤ q) = false := by simp; omega
                    have hI20 : decide ((20 : Int) ≤ q) = false := by simp; omega
                    clear h60 h40 h20
                    go_wp2
                    go_meet
                    exact ⟨by rw [HF.out]; rfl, by rw [HKc.out], rfl⟩
             case rest =>
              obtain ⟨rfl, rfl, rfl⟩ := hcut
              go_wp2
              go_quiet ((go_at_call 79; exact Calls.quiet_of (rol_any _ _ _ j1 j2 (.inr (.inl rfl)))))
              go_wp2_with (go_at_call 79; refine (rol_any _ _ _ j3 j4 (.inr (.inr rfl))).mono ?_; rintro e w' ⟨rfl, nq2, rfl⟩)
              go_roundw
              case rel =>
               (repeat apply Exists.intro)
               refine ⟨?_, rfl⟩
               exact ⟨q + 1, by omega, by go_num, by rw [HST.out, stepH, HWV.out], by rw [HST.out, stepH], by rw [HST.out, stepH], by rw [HST.out, stepH], by rw [HST.out, stepH], by rw [← World.drewN_drewN]; exact (hdr.more _).more _⟩
              case measure => simp [intOf]; omega
           · obtain rfl : q = 80 := by omega
             obtain ⟨w4, rfl⟩ : ∃ w4 : World, w4 = wr := ⟨_, rfl⟩
             have m0 := (hdr.cell _).trans k0
             have m1 := (hdr.cell _).trans k1
             have m2 := (hdr.cell _).trans k2
             have m3 := (hdr.cell _).trans k3
             have m4 := (hdr.cell _).trans k4
             have hmx : mixH K r = ⟨(K.a + (runH r K 80).a) % 4294967296, (K.b + (runH r K 80).b) % 4294967296, (K.c + (runH r K 80).c) % 4294967296, (K.d + (runH r K 80).d) % 4294967296, (K.e + (runH r K 80).e) % 4294967296⟩ := rfl
             generalize runH r K 80 = st at *
             rw [hmx] at FS
             clear hmx hlq
             go_wp2
             refine wp_region_still_tail 25 (by kernel_rfl) (by kernel_rfl) ?_
             simp only [List.take_succ_cons, List.take_zero, List.drop_succ_cons, List.drop_zero]
             repeat still_step
             first | refine wpStill_nil ?_ | (trace_state; fail)
             change wpList _ _ _ _ _ w4.drew
             go_wp2
             go_roundw
             case rel =>
              have hPb := hP.blk
              have hh4 := hdr.heap
              have hgs : gw < w4.heap.size := by rw [hh4]; exact hPb
              have hCh4 : Chg (fun q => q = gw) wo w4 := by obtain ⟨nd, rfl⟩ := hdr; exact hCh.drewN nd
              have hB4 : Below w.heap.size w w4 := hB.trans (hCh4.below hB.size (fun q hq hh => by subst hh; omega))
              have hC4 := hCh4.alloc (.cells #[Value.int IntKind.u32 ((K.a + st.a) % 4294967296), Value.int IntKind.u32 ((K.b + st.b) % 4294967296), Value.int IntKind.u32 ((K.c + st.c) % 4294967296), Value.int IntKind.u32 ((K.d + st.d) % 4294967296), Value.int IntKind.u32 ((K.e + st.e) % 4294967296)] 140)
              refine ⟨i + 1, a + 64, w4.heap.size, by omega, by have := ha8.out; show _ = _; omega, hr64, by go_num, rfl, (Cel.newH w4 140 _ _ _ _ _ _ FS.out).drew, by omega, ⟨_, ((hP.same (w' := w4) (by rw [hh4])).same (heap_alloc_old w4 _ hgs)).drew⟩, ?_, (hB4.alloc hB4.size _).drew⟩
              exact hIo.chg (hC4.drew) (fun b' o' hb' hh => by injection hb' with hb'; injection hb' with hb' _ _; exact hbg (by rw [hb', hh]))
             case measure => simp [intOf]; omega
     · have hin : i = nb := by have := ha8.out; have := hML.out; omega
       subst hin
       have k0 : wr.cell? ⟨gh, 0, none⟩ = some (.int .u32 (fb i h0 M).a) := hc.cell 0 (by decide)
       have k1 : wr.cell? ⟨gh, 1, none⟩ = some (.int .u32 (fb i h0 M).b) := hc.cell 1 (by decide)
       have k2 : wr.cell? ⟨gh, 2, none⟩ = some (.int .u32 (fb i h0 M).c) := hc.cell 2 (by decide)
       have k3 : wr.cell? ⟨gh, 3, none⟩ = some (.int .u32 (fb i h0 M).d) := hc.cell 3 (by decide)
       have k4 : wr.cell? ⟨gh, 4, none⟩ = some (.int .u32 (fb i h0 M).e) := hc.cell 4 (by decide)
       have hbk := hc.blk
       clear hMd FS
       generalize hK : fb i h0 M = K at *
       have HK := Lib.hid hK
       clear hK
       have hI5 : Ints .u32 wr (some ⟨gh, 0, none⟩) [K.a, K.b, K.c, K.d, K.e] := fun _ => ⟨gh, 0, rfl, hbk, fun j hj => by
        match j, hj with
        | 0, _ => exact k0
        | 1, _ => exact k1
        | 2, _ => exact k2
        | 3, _ => exact k3
        | 4, _ => exact k4⟩
       obtain ⟨h1, h2, h3, h4, h5⟩ := hok8
       have hW5 : Words [K.a, K.b, K.c, K.d, K.e] := by
        intro x hx
        simp only [List.mem_cons, List.not_mem_nil, or_false] at hx
        rcases hx with rfl | rfl | rfl | rfl | rfl <;> assumption
       clear k0 k1 k2 k3 k4
       go_wp2_with fail
       refine (words_any (some ⟨gh, 0, none⟩) 5 5 _ wr hI5 rfl hW5 (by decide)).mono ?_
       rintro e w8 h8
       have hE : wordsL [K.a, K.b, K.c, K.d, K.e] = shaTo K 5 := by
        simp [wordsL, shaTo, H5.nth]
       rw [hE] at h8
       obtain ⟨A8, c8, rfl, ho8, hb8⟩ := AskPost.below hB h8
       have HE := Lib.hid hE
       clear hE
       go_wp2
       go_ret
       exact ⟨A8, c8, rfl, ho8, hb8⟩
end Go.Proofs.YtihanglnjghcfaaGreatDoor
namespace Go.Proofs.YtihanglnjghcfaaGreatDoor
open Go.RowKit
set_option linter.unusedVariables false

/-- A digit's number; none: it is none. -/
def dig (c : Int) : Option Int := if 48 ≤ c ∧ c ≤ 57 then some (c - 48) else if 97 ≤ c ∧ c ≤ 102 then some (c - 87) else none
def digP (c : Int) (e : Ending) : Prop := e = .returned (.tuple #[.int .u8 ((dig c).getD 0), .bool (dig c).isSome])

set_option maxRecDepth 100000 in
theorem digit_any (c : Int) (w : World) (h0 : 0 ≤ c) (h1 : c < 256) : Calls Tryz.prog 144 #[.int .u8 c] w fun e w' => digP c e ∧ w = w' := by
 by_cases ha : 48 ≤ c
 · by_cases hb : c ≤ 57
   · have hd : dig c = some (c - 48) := if_pos ⟨ha, hb⟩
     go_enter Tryz.func144, Tryz.ntmps144
     go_wp2
     go_ret2
     exact ⟨by unfold digP; rw [hd]; rfl, rfl⟩
   · by_cases h2 : 97 ≤ c
     · by_cases h3 : c ≤ 102
       · have hd : dig c = some (c - 87) := by unfold dig; rw [if_neg (by omega), if_pos ⟨h2, h3⟩]
         go_enter Tryz.func144, Tryz.ntmps144
         go_wp2
         go_ret2
         refine ⟨?_, rfl⟩
         unfold digP
         rw [hd]
         simp
         omega
       · have hd : dig c = none := by unfold dig; rw [if_neg (by omega), if_neg (by omega)]
         go_enter Tryz.func144, Tryz.ntmps144
         go_wp2
         go_ret2
         exact ⟨by unfold digP; rw [hd]; rfl, rfl⟩
     · have hd : dig c = none := by unfold dig; rw [if_neg (by omega), if_neg (by omega)]
       go_enter Tryz.func144, Tryz.ntmps144
       go_wp2
       go_ret2
       exact ⟨by unfold digP; rw [hd]; rfl, rfl⟩
 · have hd : dig c = none := by unfold dig; rw [if_neg (by omega), if_neg (by omega)]
   have h2 : ¬ 97 ≤ c := by omega
   go_enter Tryz.func144, Tryz.ntmps144
   go_wp2
   go_ret2
   exact ⟨by unfold digP; rw [hd]; rfl, rfl⟩
end Go.Proofs.YtihanglnjghcfaaGreatDoor
namespace Go.Proofs.YtihanglnjghcfaaGreatDoor
open Go.RowKit
set_option linter.unusedVariables false

def hexd (n : Int) : Int := if n < 10 then 48 + n else 87 + n
theorem hexIx0 (w : World) : (Instr.index 9 (.string (⟨#[48, 49, 50, 51, 52, 53, 54, 55, 56, 57, 97, 98, 99, 100, 101, 102]⟩ : ByteArray)) (.int .u8 ((0 : Nat) : Int))).run Tryz.prog w = .ok (.int .u8 48) w := by kernel_rfl
theorem hexIx1 (w : World) : (Instr.index 9 (.string (⟨#[48, 49, 50, 51, 52, 53, 54, 55, 56, 57, 97, 98, 99, 100, 101, 102]⟩ : ByteArray)) (.int .u8 ((1 : Nat) : Int))).run Tryz.prog w = .ok (.int .u8 49) w := by kernel_rfl
theorem hexIx2 (w : World) : (Instr.index 9 (.string (⟨#[48, 49, 50, 51, 52, 53, 54, 55, 56, 57, 97, 98, 99, 100, 101, 102]⟩ : ByteArray)) (.int .u8 ((2 : Nat) : Int))).run Tryz.prog w = .ok (.int .u8 50) w := by kernel_rfl
theorem hexIx3 (w : World) : (Instr.index 9 (.string (⟨#[48, 49, 50, 51, 52, 53, 54, 55, 56, 57, 97, 98, 99, 100, 101, 102]⟩ : ByteArray)) (.int .u8 ((3 : Nat) : Int))).run Tryz.prog w = .ok (.int .u8 51) w := by kernel_rfl
theorem hexIx4 (w : World) : (Instr.index 9 (.string (⟨#[48, 49, 50, 51, 52, 53, 54, 55, 56, 57, 97, 98, 99, 100, 101, 102]⟩ : ByteArray)) (.int .u8 ((4 : Nat) : Int))).run Tryz.prog w = .ok (.int .u8 52) w := by kernel_rfl
theorem hexIx5 (w : World) : (Instr.index 9 (.string (⟨#[48, 49, 50, 51, 52, 53, 54, 55, 56, 57, 97, 98, 99, 100, 101, 102]⟩ : ByteArray)) (.int .u8 ((5 : Nat) : Int))).run Tryz.prog w = .ok (.int .u8 53) w := by kernel_rfl
theorem hexIx6 (w : World) : (Instr.index 9 (.string (⟨#[48, 49, 50, 51, 52, 53, 54, 55, 56, 57, 97, 98, 99, 100, 101, 102]⟩ : ByteArray)) (.int .u8 ((6 : Nat) : Int))).run Tryz.prog w = .ok (.int .u8 54) w := by kernel_rfl
theorem hexIx7 (w : World) : (Instr.index 9 (.string (⟨#[48, 49, 50, 51, 52, 53, 54, 55, 56, 57, 97, 98, 99, 100, 101, 102]⟩ : ByteArray)) (.int .u8 ((7 : Nat) : Int))).run Tryz.prog w = .ok (.int .u8 55) w := by kernel_rfl
theorem hexIx8 (w : World) : (Instr.index 9 (.string (⟨#[48, 49, 50, 51, 52, 53, 54, 55, 56, 57, 97, 98, 99, 100, 101, 102]⟩ : ByteArray)) (.int .u8 ((8 : Nat) : Int))).run Tryz.prog w = .ok (.int .u8 56) w := by kernel_rfl
theorem hexIx9 (w : World) : (Instr.index 9 (.string (⟨#[48, 49, 50, 51, 52, 53, 54, 55, 56, 57, 97, 98, 99, 100, 101, 102]⟩ : ByteArray)) (.int .u8 ((9 : Nat) : Int))).run Tryz.prog w = .ok (.int .u8 57) w := by kernel_rfl
theorem hexIx10 (w : World) : (Instr.index 9 (.string (⟨#[48, 49, 50, 51, 52, 53, 54, 55, 56, 57, 97, 98, 99, 100, 101, 102]⟩ : ByteArray)) (.int .u8 ((10 : Nat) : Int))).run Tryz.prog w = .ok (.int .u8 97) w := by kernel_rfl
theorem hexIx11 (w : World) : (Instr.index 9 (.string (⟨#[48, 49, 50, 51, 52, 53, 54, 55, 56, 57, 97, 98, 99, 100, 101, 102]⟩ : ByteArray)) (.int .u8 ((11 : Nat) : Int))).run Tryz.prog w = .ok (.int .u8 98) w := by kernel_rfl
theorem hexIx12 (w : World) : (Instr.index 9 (.string (⟨#[48, 49, 50, 51, 52, 53, 54, 55, 56, 57, 97, 98, 99, 100, 101, 102]⟩ : ByteArray)) (.int .u8 ((12 : Nat) : Int))).run Tryz.prog w = .ok (.int .u8 99) w := by kernel_rfl
theorem hexIx13 (w : World) : (Instr.index 9 (.string (⟨#[48, 49, 50, 51, 52, 53, 54, 55, 56, 57, 97, 98, 99, 100, 101, 102]⟩ : ByteArray)) (.int .u8 ((13 : Nat) : Int))).run Tryz.prog w = .ok (.int .u8 100) w := by kernel_rfl
theorem hexIx14 (w : World) : (Instr.index 9 (.string (⟨#[48, 49, 50, 51, 52, 53, 54, 55, 56, 57, 97, 98, 99, 100, 101, 102]⟩ : ByteArray)) (.int .u8 ((14 : Nat) : Int))).run Tryz.prog w = .ok (.int .u8 101) w := by kernel_rfl
theorem hexIx15 (w : World) : (Instr.index 9 (.string (⟨#[48, 49, 50, 51, 52, 53, 54, 55, 56, 57, 97, 98, 99, 100, 101, 102]⟩ : ByteArray)) (.int .u8 ((15 : Nat) : Int))).run Tryz.prog w = .ok (.int .u8 102) w := by kernel_rfl
theorem hexIx (x : Int) (h0 : 0 ≤ x) (h : x < 16) (w : World) : (Instr.index 9 (.string (⟨#[48, 49, 50, 51, 52, 53, 54, 55, 56, 57, 97, 98, 99, 100, 101, 102]⟩ : ByteArray)) (.int .u8 x)).run Tryz.prog w = .ok (.int .u8 (hexd x)) w := by
 obtain ⟨n, rfl⟩ := Int.eq_ofNat_of_zero_le h0
 rcases (by omega : n = 0 ∨ n = 1 ∨ n = 2 ∨ n = 3 ∨ n = 4 ∨ n = 5 ∨ n = 6 ∨ n = 7 ∨ n = 8 ∨ n = 9 ∨ n = 10 ∨ n = 11 ∨ n = 12 ∨ n = 13 ∨ n = 14 ∨ n = 15) with rfl | rfl | rfl | rfl | rfl | rfl | rfl | rfl | rfl | rfl | rfl | rfl | rfl | rfl | rfl | rfl
 · exact hexIx0 w
 · exact hexIx1 w
 · exact hexIx2 w
 · exact hexIx3 w
 · exact hexIx4 w
 · exact hexIx5 w
 · exact hexIx6 w
 · exact hexIx7 w
 · exact hexIx8 w
 · exact hexIx9 w
 · exact hexIx10 w
 · exact hexIx11 w
 · exact hexIx12 w
 · exact hexIx13 w
 · exact hexIx14 w
 · exact hexIx15 w

def hexOf (x : Int) : List Int := [hexd (x / 16), hexd (x % 16)]
def hexL : List Int → List Int
 | [] => []
 | x :: xs => hexOf x ++ hexL xs
theorem hexL_snoc (xs : List Int) (x : Int) : hexL (xs ++ [x]) = hexL xs ++ hexOf x := by
 induction xs with
 | nil => simp [hexL]
 | cons y ys ih => simp [hexL, ih]
theorem hexL_len (xs : List Int) : (hexL xs).length = 2 * xs.length := by
 induction xs with
 | nil => rfl
 | cons y ys ih => simp [hexL, hexOf, ih]; omega

set_option maxRecDepth 100000 in
set_option maxHeartbeats 2000000 in
theorem hex_any (A : Option Addr) (n c : Nat) (xs : List Int) (w : World) (hI : Ints .u8 w A xs) (hn : xs.length = n) (hb : Bytes xs) (hsz : n ≤ 70368744177000) :
 Calls Tryz.prog 104 #[.slice A n c] w fun e w' => e = .returned (.string (strOfNums (hexL xs))) ∧ Below w.heap.size w w' := by
 subst hn
 obtain ⟨i0, hi, hz0, hz1, hz2⟩ := info_parts Tryz.info_u8
 have hmk : ∀ w : World, (Instr.makeSlice 48 (.int .i64 0) (.int .i64 (2 * (xs.length : Int)))).run Tryz.prog w = .ok (.slice (some ⟨w.heap.size, 0, none⟩) 0 (2 * xs.length)) (w.alloc (.cells (madeCells #[.int .u8 0] (2 * xs.length)) 5)) := by
  have := make_bytes (2 * xs.length) (by omega)
  rwa [Int.natCast_mul] at this
 go_enter Tryz.func104, Tryz.ntmps104
 go_wp2
 have hoE : OwnS (w.alloc (.cells (madeCells #[.int .u8 0] (2 * xs.length)) 5)) w.heap.size 5 1 (.slice (some ⟨w.heap.size, 0, none⟩) 0 (2 * xs.length)) 0 [] := OwnS.empty (Nat.le_refl _) (heap_alloc_new w _) (by unfold maxLen; omega) (by simp [madeCells])
 have hBE := (Below.refl w.heap.size w).alloc (Nat.le_refl _) (.cells (madeCells #[.int .u8 0] (2 * xs.length)) 5)
 have hIE := hI.below hBE
 generalize w.alloc (.cells (madeCells #[.int .u8 0] (2 * xs.length)) 5) = w9 at *
 go_loopw [3, 12] (fun out i wr => ∃ (k : Nat) (A : Option Addr) (c : Nat), k ≤ xs.length ∧ i = .int .i64 k ∧ out = .slice A (hexL (xs.take k)).length c ∧ OwnS wr w.heap.size 5 1 (.slice A (hexL (xs.take k)).length c) (hexL (xs.take k)).length ((hexL (xs.take k)).map (Value.int .u8)) ∧ Below w.heap.size w wr) (fun _ i _ => xs.length - (intOf i).toNat)
 case atStart => exact ⟨0, _, _, by omega, rfl, rfl, hoE, hBE⟩
 case round =>
  clear hoE hBE hIE
  obtain ⟨k, A9, c9, hk9, rfl, rfl, ho, hB⟩ := hrel
  by_cases hlt : k < xs.length
  · have hI9 := hI.below hB
    have hx := hb.at_ k hlt
    have HN : Hid (hexL (xs.take (k + 1)) = hexL (xs.take k) ++ hexOf (xs.getD k 0)) := by show _ = _; rw [take_snoc_getD xs k hlt, hexL_snoc]
    have hll : (hexL (xs.take k)).length ≤ 140737488355000 := by rw [hexL_len, List.length_take_of_le hk9]; omega
    obtain ⟨b, o, rfl, hbl, hcell⟩ := hI9 (by omega)
    have hc := hcell k hlt
    have hx1 : 0 ≤ xs.getD k 0 / 16 ∧ xs.getD k 0 / 16 < 16 := by omega
    have hx2 : 0 ≤ xs.getD k 0 % 16 ∧ xs.getD k 0 % 16 < 16 := by omega
    clear hcell hI
    generalize xs.getD k 0 = x at *
    generalize hexL (xs.take k) = l at *
    have hi1 := hexIx (x / 16) hx1.1 hx1.2
    have hi2 := hexIx (x % 16) hx2.1 hx2.2
    have ha : bits .and .u8 x 15 = x % 16 := u8_and15 x hx.1 hx.2
    clear hI9
    go_wp2
    go_region_law (refine step_append_S rfl (.tmp 16) (.tmp 23) 48 48 rfl i0 (.int .u8 0) 1 (.slice 5) Tryz.underlying48 Tryz.underlying48 (fun _ h => by cases h) hi hz0 hz1 hz2 rfl rfl rfl ((ho.alloc _).drew) ((Src.new (us := (hexOf x).map (Value.int .u8)) rfl (ints_oneCell .u8 (hexOf x))).drew) ?_ ?_ ?_ ?_; (simp only [hexOf, List.length_map, List.length_cons, List.length_nil]; unfold maxLen; omega); (simp only [hexOf, List.length_map, List.length_cons, List.length_nil]; omega); (have := hB.size; simp; omega); intro A2 c2 w2 ho2 hg2 hw2)
    all_goals
     go_wp2
     go_roundw
     case rel =>
      have hB' := hB.size
      refine ⟨k + 1, A2, c2, by omega, by go_num, ?_, ?_, ?_⟩
      · rw [HN.out, List.length_append]
      · rw [HN.out, List.length_append, List.map_append]; exact ho2
      · exact ((hB.alloc (by omega) _).drew).grown hg2 (by simp; omega) (fun q h => (ho.lt q h).1)
     case measure => simp [intOf]; omega
  · obtain rfl : k = xs.length := by omega
    rw [List.take_length] at ho ⊢
    have hcv := run_str_ints (P := Tryz.prog) (w := wr) 48 9 5 Tryz.underlying48 Tryz.underlying5 Tryz.underlying9 A9 c9 (hexL xs) ho.ints
    go_wp2
    go_ret
    exact ⟨rfl, hB⟩
end Go.Proofs.YtihanglnjghcfaaGreatDoor
namespace Go.Proofs.YtihanglnjghcfaaGreatDoor
open Go.RowKit
set_option linter.unusedVariables false

def pairV (l : List Int) (j : Nat) : Int := (dig (l.getD (2 * j) 0)).getD 0 * 16 + (dig (l.getD (2 * j + 1) 0)).getD 0
def pairOk (l : List Int) (j : Nat) : Bool := (dig (l.getD (2 * j) 0)).isSome && (dig (l.getD (2 * j + 1) 0)).isSome
def unTo (l : List Int) (k : Nat) : List Int := (List.range k).map (pairV l)
def unOk (l : List Int) : Bool := l.length % 2 == 0 && (List.range (l.length / 2)).all (pairOk l)
def unV (l : List Int) : List Int := if unOk l then unTo l (l.length / 2) else []
theorem unTo_len (l : List Int) (k : Nat) : (unTo l k).length = k := by simp [unTo]
theorem unTo_succ (l : List Int) (k : Nat) : unTo l (k + 1) = unTo l k ++ [pairV l k] := by simp [unTo, List.range_succ]
theorem dig_ok (c : Int) : 0 ≤ (dig c).getD 0 ∧ (dig c).getD 0 < 16 := by
 unfold dig
 by_cases h1 : 48 ≤ c ∧ c ≤ 57
 · rw [if_pos h1]; simp; omega
 · rw [if_neg h1]
   by_cases h2 : 97 ≤ c ∧ c ≤ 102
   · rw [if_pos h2]; simp; omega
   · rw [if_neg h2]; simp
theorem unOk_bad (l : List Int) (j : Nat) (hj : 2 * j + 1 < l.length) (h : pairOk l j = false) : unOk l = false := by
 unfold unOk
 rw [Bool.and_eq_false_iff]
 right
 rw [List.all_eq_false]
 exact ⟨j, List.mem_range.2 (by omega), by simp [h]⟩
theorem unOk_odd (l : List Int) (h : l.length % 2 = 1) : unOk l = false := by
 unfold unOk; rw [h]; rfl
theorem unOk_good (l : List Int) (h : l.length % 2 = 0) (hg : ∀ j, j < l.length / 2 → pairOk l j = true) : unOk l = true := by
 unfold unOk; rw [h]; simpa using hg
def UnPost (w : World) (l : List Int) (e : Ending) (w' : World) : Prop :=
 ∃ A c, e = .returned (.tuple #[.slice A (unV l).length c, .bool (unOk l)]) ∧ Ints .u8 w' A (unV l) ∧ Below w.heap.size w w'
theorem UnPost.bad {w w' : World} {l : List Int} (h : unOk l = false) (hb : Below w.heap.size w w') : UnPost w l (.returned (.tuple #[.slice none 0 0, .bool false])) w' := by
 have e : unV l = [] := by unfold unV; rw [h]; rfl
 refine ⟨none, 0, ?_, ?_, hb⟩
 · rw [e, h]; rfl
 · rw [e]; exact Ints.nil
theorem UnPost.good {w w' : World} {l : List Int} {A : Option Addr} {c k : Nat} (h : unOk l = true) (hk : k = l.length / 2) (ho : Ints .u8 w' A (unTo l k)) (hb : Below w.heap.size w w') : UnPost w l (.returned (.tuple #[.slice A (unTo l k).length c, .bool true])) w' := by
 subst hk
 have e : unV l = unTo l (l.length / 2) := by unfold unV; rw [h]; rfl
 exact ⟨A, c, by rw [e, h], by rw [e]; exact ho, hb⟩
def PairsTo (l : List Int) (k : Nat) : Prop := ∀ j, j < k → pairOk l j = true
theorem PairsTo.succ {l : List Int} {k : Nat} (h : PairsTo l k) (hk : pairOk l k = true) : PairsTo l (k + 1) := fun j hj => by
 rcases Nat.lt_or_ge j k with h' | h'
 · exact h j h'
 · obtain rfl : j = k := by omega
   exact hk
theorem u8_join (a b : Int) (ha : 0 ≤ a ∧ a < 16) (hb : 0 ≤ b ∧ b < 16) : bits .or .u8 (a * 16) b = a * 16 + b :=
 bits_join .u8 8 (by decide) wraps_u8 4 (a * 16) b (by omega) (by omega) (by omega) hb.1 (by omega) (by omega)

set_option maxRecDepth 100000 in
set_option maxHeartbeats 2000000 in
theorem unhex_any (s : ByteArray) (w : World) (hsz : s.size ≤ 140737488355328) : Calls Tryz.prog 127 #[.string s] w (UnPost w (bytesOf s)) := by
 obtain ⟨i0, hi, hz0, hz1, hz2⟩ := info_parts Tryz.info_u8
 by_cases hodd : (s.size : Int) % 2 = 0
 case neg =>
  have hU := unOk_odd (bytesOf s) (by rw [bytesOf_len]; omega)
  have hd : ((s.size : Int) % 2 != 0) = true := by simpa using hodd
  go_enter Tryz.func127, Tryz.ntmps127
  go_wp2
  go_ret2
  exact UnPost.bad hU (Below.refl _ _)
 case pos =>
  have hmk : ∀ w : World, (Instr.makeSlice 48 (.int .i64 0) (.int .i64 ((s.size : Int) / 2))).run Tryz.prog w = .ok (.slice (some ⟨w.heap.size, 0, none⟩) 0 (s.size / 2)) (w.alloc (.cells (madeCells #[.int .u8 0] (s.size / 2)) 5)) := by
   have := make_bytes (s.size / 2) (by omega)
   rwa [Int.natCast_ediv] at this
  have HE := Lib.hid hodd
  have hd : ((s.size : Int) % 2 != 0) = false := by simpa using hodd
  clear hodd
  go_enter Tryz.func127, Tryz.ntmps127
  go_wp2
  clear hd
  have hoE : OwnS (w.alloc (.cells (madeCells #[.int .u8 0] (s.size / 2)) 5)) w.heap.size 5 1 (.slice (some ⟨w.heap.size, 0, none⟩) 0 (s.size / 2)) 0 [] := OwnS.empty (Nat.le_refl _) (heap_alloc_new w _) (by unfold maxLen; omega) (by simp [madeCells])
  have hBE := (Below.refl w.heap.size w).alloc (Nat.le_refl _) (.cells (madeCells #[.int .u8 0] (s.size / 2)) 5)
  generalize w.alloc (.cells (madeCells #[.int .u8 0] (s.size / 2)) 5) = w9 at *
  clear hmk
  go_loopw [4, 5] (fun out i wr => ∃ (k m : Nat) (A : Option Addr) (c : Nat), m ≤ s.size ∧ Hid (m = 2 * k) ∧ i = .int .i64 m ∧ out = .slice A (unTo (bytesOf s) k).length c ∧ OwnS wr w.heap.size 5 1 (.slice A (unTo (bytesOf s) k).length c) (unTo (bytesOf s) k).length ((unTo (bytesOf s) k).map (Value.int .u8)) ∧ PairsTo (bytesOf s) k ∧ Below w.heap.size w wr) (fun _ i _ => s.size - (intOf i).toNat)
  case atStart => exact ⟨0, 0, _, _, by omega, rfl, rfl, rfl, hoE, fun j hj => absurd hj (Nat.not_lt_zero _), hBE⟩
  case round =>
   clear hoE hBE
   obtain ⟨k, m, A9, c9, hm9, hmk, rfl, rfl, ho, hP, hB⟩ := hrel
   by_cases hlt : m < s.size
   · have hlt2 : m + 1 < s.size := by have := hmk.out; have := HE.out; omega
     have e1 : (bytesOf s).getD (2 * k) 0 = ((s[m]'hlt).toNat : Int) := by rw [← hmk.out]; exact bytesOf_at s m hlt
     have e2 : (bytesOf s).getD (2 * k + 1) 0 = ((s[m + 1]'hlt2).toNat : Int) := by rw [← hmk.out]; exact bytesOf_at s (m + 1) hlt2
     have hl1 : 2 * k + 1 < (bytesOf s).length := by rw [bytesOf_len, ← hmk.out]; exact hlt2
     have ha := dig_ok ((bytesOf s).getD (2 * k) 0)
     have hb := dig_ok ((bytesOf s).getD (2 * k + 1) 0)
     have hB1 := (s[m]'hlt).toNat_lt
     have hB2 := (s[m + 1]'hlt2).toNat_lt
     have HN : Hid (unTo (bytesOf s) (k + 1) = unTo (bytesOf s) k ++ [(dig ((s[m]'hlt).toNat : Int)).getD 0 * 16 + (dig ((s[m + 1]'hlt2).toNat : Int)).getD 0]) := by
      show _ = _
      rw [unTo_succ, pairV, e1, e2]
     have hPO : pairOk (bytesOf s) k = ((dig ((s[m]'hlt).toNat : Int)).isSome && (dig ((s[m + 1]'hlt2).toNat : Int)).isSome) := by unfold pairOk; rw [e1, e2]
     have hlen : (unTo (bytesOf s) k).length ≤ 140737488355000 := by rw [unTo_len]; have := hmk.out; omega
     rw [e1] at ha
     rw [e2] at hb
     have hj := u8_join _ _ ha hb
     clear e1 e2
     by_cases hg : ((dig ((s[m]'hlt).toNat : Int)).isSome && (dig ((s[m + 1]'hlt2).toNat : Int)).isSome) = true
     · rw [hg] at hPO
       have HP := Lib.hid hPO
       clear hPO
       obtain ⟨hg1, hg2⟩ := Bool.and_eq_true_iff.1 hg
       clear hg
       go_wp2_with (first
        | (have hm := hdg; go_at_call 144; refine (digit_any _ _ (by omega) (by omega)).mono ?_; rintro e w' ⟨hdg2, rfl⟩; unfold digP at hdg2; rw [hg2] at hdg2; subst hdg2)
        | (go_at_call 144; refine (digit_any _ _ (by omega) (by omega)).mono ?_; rintro e w' ⟨hdg, rfl⟩; unfold digP at hdg; rw [hg1] at hdg; subst hdg; have hdg := trivial)
        | (at_builtin; refine wpList_append_S rfl (.tmp 45) (.tmp 50) 48 48 rfl i0 (.int .u8 0) 1 (.slice 5) Tryz.underlying48 Tryz.underlying48 (fun _ h => by cases h) hi hz0 hz1 hz2 rfl rfl rfl (ho.alloc _) (Src.one_new (u := .int .u8 ((dig ((s[m]'hlt).toNat : Int)).getD 0 * 16 + (dig ((s[m + 1]'hlt2).toNat : Int)).getD 0)) rfl) ?_ ?_ ?_ ?_; (unfold maxLen; omega); omega; (have := hB.size; simp; omega); intro A2 c2 w2 ho2 hg2 hw2))
       go_roundw
       case rel =>
        have hB' := hB.size
        have hPO := HP.out
        refine ⟨k + 1, m + 2, A2, c2, by omega, by have := hmk.out; show _ = _; omega, by go_num, ?_, ?_, hP.succ hPO, ?_⟩
        · rw [HN.out, List.length_append]; first | done | rfl
        · rw [HN.out, List.length_append, List.map_append]; exact ho2
        · exact (hB.alloc (by omega) _).grown hg2 (by simp; omega) (fun q h => (ho.lt q h).1)
       case measure => simp [intOf]; omega
     · have hU : unOk (bytesOf s) = false := unOk_bad (bytesOf s) k hl1 (by rw [hPO]; simpa using hg)
       clear hPO
       rw [Bool.not_eq_true, Bool.and_eq_false_iff] at hg
       have HU := Lib.hid hU
       clear hU
       by_cases hg1 : (dig ((s[m]'hlt).toNat : Int)).isSome = true
       · have hg2 : (dig ((s[m + 1]'hlt2).toNat : Int)).isSome = false := by
          rcases hg with h | h
          · rw [hg1] at h; cases h
          · exact h
         clear hg
         go_wp2_with (first
          | (have hm := hdg; go_at_call 144; refine (digit_any _ _ (by omega) (by omega)).mono ?_; rintro e w' ⟨hdg2, rfl⟩; unfold digP at hdg2; rw [hg2] at hdg2; subst hdg2)
          | (go_at_call 144; refine (digit_any _ _ (by omega) (by omega)).mono ?_; rintro e w' ⟨hdg, rfl⟩; unfold digP at hdg; rw [hg1] at hdg; subst hdg; have hdg := trivial))
         go_ret2
         exact UnPost.bad HU.out hB
       · have hg1 : (dig ((s[m]'hlt).toNat : Int)).isSome = false := by simpa using hg1
         clear hg
         go_wp2_with (first
          | (have hm := hdg; go_at_call 144; refine (digit_any _ _ (by omega) (by omega)).mono ?_; rintro e w' ⟨hdg2, rfl⟩; unfold digP at hdg2; subst hdg2)
          | (go_at_call 144; refine (digit_any _ _ (by omega) (by omega)).mono ?_; rintro e w' ⟨hdg, rfl⟩; unfold digP at hdg; rw [hg1] at hdg; subst hdg; have hdg := trivial))
         go_ret2
         exact UnPost.bad HU.out hB
   · have hms : m = s.size := by omega
     have hU : unOk (bytesOf s) = true := unOk_good _ (by rw [bytesOf_len]; have := HE.out; omega) (fun j hj => hP j (by rw [bytesOf_len] at hj; have := hmk.out; omega))
     have HU := Lib.hid hU
     have hkl : k = (bytesOf s).length / 2 := by rw [bytesOf_len]; have := hmk.out; omega
     have HK := Lib.hid hkl
     clear hU hms hkl
     go_wp2
     go_ret2
     exact UnPost.good HU.out HK.out ho.ints hB
end Go.Proofs.YtihanglnjghcfaaGreatDoor
namespace Go.Proofs.YtihanglnjghcfaaGreatDoor
open Go.RowKit
set_option linter.unusedVariables false

def digR (c : Int) : Int := match dig c with | some d => d | none => -1
def NotTo (c : Int) (k : Nat) : Prop := ∀ j : Nat, j < k → hexd (j : Int) ≠ c
theorem NotTo.succ {c : Int} {k : Nat} (h : NotTo c k) (hk : hexd (k : Int) ≠ c) : NotTo c (k + 1) := fun j hj => by
 rcases Nat.lt_or_ge j k with h' | h'
 · exact h j h'
 · obtain rfl : j = k := by omega
   exact hk
theorem NotTo.none {c : Int} (h : NotTo c 16) : digR c = -1 := by
 unfold digR dig
 by_cases h1 : 48 ≤ c ∧ c ≤ 57
 · exfalso
   have := h (c - 48).toNat (by omega)
   unfold hexd at this
   rw [if_pos (by omega)] at this
   omega
 · rw [if_neg h1]
   by_cases h2 : 97 ≤ c ∧ c ≤ 102
   · exfalso
     have := h (c - 87).toNat (by omega)
     unfold hexd at this
     rw [if_neg (by omega)] at this
     omega
   · rw [if_neg h2]
set_option maxRecDepth 100000 in
set_option maxHeartbeats 2000000 in
theorem hexR_any (A : Option Addr) (n c : Nat) (xs : List Int) (w : World) (hI : Ints .u8 w A xs) (hn : xs.length = n) (hb : Bytes xs) (hsz : n ≤ 70368744177000) :
 Calls Tryz.prog 56 #[.slice A n c] w fun e w' => e = .returned (.string (strOfNums (hexL xs))) ∧ Below w.heap.size w w' := by
 subst hn
 obtain ⟨i0, hi, hz0, hz1, hz2⟩ := info_parts Tryz.info_u8
 go_enter Tryz.func56, Tryz.ntmps56
 go_wp2
 go_loopw [3, 4] (fun out i wr => ∃ (k : Nat) (A : Option Addr) (c : Nat), k ≤ xs.length ∧ i = .int .i64 k ∧ out = .slice A (hexL (xs.take k)).length c ∧ OwnS wr w.heap.size 5 1 (.slice A (hexL (xs.take k)).length c) (hexL (xs.take k)).length ((hexL (xs.take k)).map (Value.int .u8)) ∧ Below w.heap.size w wr) (fun _ i _ => xs.length - (intOf i).toNat)
 case atStart => exact ⟨0, none, 0, by omega, rfl, rfl, OwnS.nil _ _ _ _, Below.refl _ _⟩
 case round =>
  obtain ⟨k, A9, c9, hk9, rfl, rfl, ho, hB⟩ := hrel
  by_cases hlt : k < xs.length
  · have hI9 := hI.below hB
    have hx := hb.at_ k hlt
    have HN : Hid (hexL (xs.take (k + 1)) = hexL (xs.take k) ++ hexOf (xs.getD k 0)) := by show _ = _; rw [take_snoc_getD xs k hlt, hexL_snoc]
    have hll : (hexL (xs.take k)).length ≤ 140737488355000 := by rw [hexL_len, List.length_take_of_le hk9]; omega
    obtain ⟨b, o, rfl, hbl, hcell⟩ := hI9 (by omega)
    have hc := hcell k hlt
    have hx1 : 0 ≤ xs.getD k 0 / 16 ∧ xs.getD k 0 / 16 < 16 := by omega
    have hx2 : 0 ≤ xs.getD k 0 % 16 ∧ xs.getD k 0 % 16 < 16 := by omega
    clear hcell hI
    generalize xs.getD k 0 = x at *
    generalize hexL (xs.take k) = l at *
    have hi1 := hexIx (x / 16) hx1.1 hx1.2
    have hi2 := hexIx (x % 16) hx2.1 hx2.2
    have ha : bits .and .u8 x 15 = x % 16 := u8_and15 x hx.1 hx.2
    have hkI : (k : Int) < xs.length := by omega
    clear hI9
    go_wp2
    go_region_law (refine step_append_S rfl (.tmp 11) (.tmp 24) 48 48 rfl i0 (.int .u8 0) 1 (.slice 5) Tryz.underlying48 Tryz.underlying48 (fun _ h => by cases h) hi hz0 hz1 hz2 rfl rfl rfl ((ho.alloc _).drew) ((Src.new (us := (hexOf x).map (Value.int .u8)) rfl (ints_oneCell .u8 (hexOf x))).drew) ?_ ?_ ?_ ?_; (simp only [hexOf, List.length_map, List.length_cons, List.length_nil]; unfold maxLen; omega); (simp only [hexOf, List.length_map, List.length_cons, List.length_nil]; omega); (have := hB.size; simp; omega); intro A2 c2 w2 ho2 hg2 hw2)
    all_goals
     go_wp2
     go_roundw
     case rel =>
      have hB' := hB.size
      refine ⟨k + 1, A2, c2, by omega, by go_num, ?_, ?_, ?_⟩
      · rw [HN.out, List.length_append]
      · rw [HN.out, List.length_append, List.map_append]; exact ho2
      · exact ((hB.alloc (by omega) _).drew).grown hg2 (by simp; omega) (fun q h => (ho.lt q h).1)
     case measure => simp [intOf]; omega
  · obtain rfl : k = xs.length := by omega
    rw [List.take_length] at ho ⊢
    have hcv := run_str_ints (P := Tryz.prog) (w := wr) 48 9 5 Tryz.underlying48 Tryz.underlying5 Tryz.underlying9 A9 c9 (hexL xs) ho.ints
    go_wp2
    go_ret
    exact ⟨rfl, hB⟩
end Go.Proofs.YtihanglnjghcfaaGreatDoor
