/- The document's SHA-1. -/
import Derived.Test.YtdlabapfcghfmaaGreatDoorSumWords
import Derived.Test.YtdlabapfcghfmaaGreatDoorSumRol
import Derived.Deep.CutBlock
namespace Go.Proofs.YtdlabapfcghfmaaGreatDoor
open Go.RowKit
set_option linter.unusedVariables false

theorem Cel.newH (w : World) (t : TypeId) (x0 x1 x2 x3 x4 : Int) (Q : H5) (h : Q = ⟨x0, x1, x2, x3, x4⟩) : Cel (w.alloc (.cells #[.int .u32 x0, .int .u32 x1, .int .u32 x2, .int .u32 x3, .int .u32 x4] t)) w.heap.size t 5 (hF Q) := by
  subst h
  exact Cel.new w t #[.int .u32 x0, .int .u32 x1, .int .u32 x2, .int .u32 x3, .int .u32 x4] _ (fun i hi => by
    match i, hi with
    | 0, _ => rfl
    | 1, _ => rfl
    | 2, _ => rfl
    | 3, _ => rfl
    | 4, _ => rfl)
theorem info_w32 : (Tryz.prog.info? 99).map (fun i => (i.zero, i.size, i.bytes)) = some (some (.int .u32 0), 1, 4) := by kernel_rfl
theorem make80 (w : World) : (Instr.makeSlice 124 (.int .i64 80) (.int .i64 80)).run Tryz.prog w = .ok (.slice (some ⟨w.heap.size, 0, none⟩) 80 80) (w.alloc (.cells (madeCells #[.int .u32 0] 80) 99)) := by
  obtain ⟨i0, hi, hz0, hz1, hz2⟩ := info_parts info_w32
  have hr := run_make (P := Tryz.prog) w 124 99 i0 (.int .u32 0) Tryz.underlying124 hi hz0 .i64 .i64 80 80 (by decide) (by decide) (by rw [hz2]; decide) (by decide)
  simp only [hz1] at hr
  exact hr

set_option maxRecDepth 100000 in
set_option maxHeartbeats 4000000 in
theorem refSha_any (s : ByteArray) (w : World) (hsz : s.size ≤ 140737488351300) :
    Calls Tryz.prog 39 #[.string s] w (AskPost w (shaTo (fb (((shaMsg (bytesOf s) (s.size : Int))).length / 64) h0 (shaMsg (bytesOf s) (s.size : Int))) 5)) := by
  obtain ⟨i0, hi, hz0, hz1, hz2⟩ := info_parts Tryz.info_u8
  have hcv := fun W => run_bytes_of_string (P := Tryz.prog) W 9 24 5 s Tryz.underlying9 Tryz.underlying24 Tryz.underlying5
  have hge := grownCap_ge w s.size 0 5
  have hcm : grownCap w s.size 0 5 ≤ maxLen := grownCap_le_maxLen w s.size 0 5 (by unfold maxLen; omega)
  go_enter Tryz.func39, Tryz.ntmps39
  have hoS := OwnS.of_str w s 5 _ hge hcm
  have hb := bytesOf_ok s
  have hbl := bytesOf_len s
  go_wp2_with (at_builtin; go_loud (refine wpList_append_S rfl (.tmp 24) (.tmp 25) 24 24 rfl i0 (.int .u8 0) 1 (.slice 5) Tryz.underlying24 Tryz.underlying24 (fun _ h => by cases h) hi hz0 hz1 hz2 rfl rfl rfl ((hoS.alloc _).drew) ((Src.one_at (u := .int .u8 128) (by simp) rfl).drew) ?_ ?_ ?_ ?_; (unfold maxLen; omega); omega; (simp; omega); intro A2 c2 w2 ho2 hg2 hw2))
  generalize hR : bytesOf s = R at *
  have hp2 : OwnS w2 w.heap.size 5 1 (.slice A2 (padTo R 0).length c2) (padTo R 0).length ((padTo R 0).map (Value.int .u8)) := by
    rw [padTo_len, hbl]; unfold padTo; rw [List.map_append]; exact ho2
  have hl2 : s.size + 1 = (padTo R 0).length := by rw [padTo_len, hbl]
  have hB2 : Below w.heap.size w w2 := ((((Below.refl _ _).alloc (Nat.le_refl _) _).alloc (by simp) _).drew).grown hg2 (by simp; omega) (fun k h => (hoS.lt k h).1)
  clear hcv ho2 hg2 hw2 hoS hge hcm
  rw [hl2]
  have HR := Lib.hid hR
  have HL := Lib.hid hbl
  clear hR
  go_loopw [4] (fun p wr => ∃ (k : Nat) (A : Option Addr) (c : Nat), k ≤ padN R.length ∧ p = .slice A (padTo R k).length c ∧ OwnS wr w.heap.size 5 1 (.slice A (padTo R k).length c) (padTo R k).length ((padTo R k).map (Value.int .u8)) ∧ Below w.heap.size w wr) (fun p _ => 140737488355327 - lenOf p)
  case atStart => exact ⟨0, A2, c2, Nat.zero_le _, rfl, hp2, hB2⟩
  case round =>
    clear hp2 hB2 hl2
    obtain ⟨k, A, c, hk, rfl, ho, hB⟩ := hrel
    have hpl := padTo_len R k
    have hpn := padN_le R.length
    have hRl : R.length ≤ 140737488351300 := by omega
    clear hbl
    by_cases hlt : k < padN R.length
    · have hne : ((padTo R k).length : Int) % 64 ≠ 56 := by rw [hpl]; exact padN_lt _ _ hlt
      have hd : (((padTo R k).length : Int) % 64 != 56) = true := by simpa using hne
      go_wp2_with (at_builtin; refine wpList_append_S rfl (.tmp 31) (.tmp 32) 24 24 rfl i0 (.int .u8 0) 1 (.slice 5) Tryz.underlying24 Tryz.underlying24 (fun _ h => by cases h) hi hz0 hz1 hz2 rfl rfl rfl (ho.alloc _) (Src.one_new (u := .int .u8 0) rfl) ?_ ?_ ?_ ?_; (unfold maxLen; omega); omega; (have := hB.size; simp; omega); intro A2 c2 w2 ho2 hg2 hw2)
      go_roundw
      case rel =>
        have hB' := hB.size
        have hl1' := padTo_len R (k + 1)
        have e : (padTo R k).length + 1 = (padTo R (k + 1)).length := by omega
        have e2 : (padTo R k).map (Value.int .u8) ++ [Value.int .u8 0] = (padTo R (k + 1)).map (Value.int .u8) := by rw [padTo_succ, List.map_append]; rfl
        rw [e, e2] at ho2
        rw [show R.length + 1 + k + 1 = (padTo R (k + 1)).length by omega]
        exact ⟨k + 1, A2, c2, by omega, rfl, ho2, (hB.alloc (by omega) _).grown hg2 (by simp; omega) (fun q h => (ho.lt q h).1)⟩
      case measure => simp only [lenOf]; omega
    · obtain rfl : k = padN R.length := by omega
      have hmod := padN_eq R.length
      rw [← hpl] at hmod
      have hd : (((padTo R (padN R.length)).length : Int) % 64 != 56) = false := by simp; omega
      have hlen : (padTo R (padN R.length)).length ≤ 140737488351370 := by omega
      have hDb : Bytes (padTo R (padN R.length)) := fun x hx => by
        unfold padTo at hx
        rcases List.mem_append.1 hx with h' | h'
        · exact hb x h'
        · rcases List.mem_cons.1 h' with rfl | h'
          · omega
          · rw [List.eq_of_mem_replicate h']; omega
      clear hpl hpn hlt
      generalize hD : padTo R (padN R.length) = D at *
      have HD := Lib.hid hD
      clear hD
      have hM : shaMsg R (s.size : Int) = D ++ wordsL [(s.size : Int) * 8 / 4294967296, (s.size : Int) * 8 % 4294967296] := by
        unfold shaMsg
        rw [HD.out, IntKind.wrap_u32', IntKind.wrap_u32', IntKind.wrap_u64]
        rw [show (s.size : Int) / 536870912 % 4294967296 = (s.size : Int) * 8 / 4294967296 by omega, show (s.size : Int) * 8 % 18446744073709551616 % 4294967296 = (s.size : Int) * 8 % 4294967296 by omega]
        simp [wordsL]
      have hwl : (wordsL [(s.size : Int) * 8 / 4294967296, (s.size : Int) * 8 % 4294967296]).length = 8 := rfl
      have hW : Words [(s.size : Int) * 8 / 4294967296, (s.size : Int) * 8 % 4294967296] := by
        intro x hx
        simp only [List.mem_cons, List.not_mem_nil, or_false] at hx
        rcases hx with rfl | rfl <;> omega
      have hWb := wordsL_ok _ hW
      have HM := Lib.hid hM
      have HWL := Lib.hid hwl
      clear hM hwl
      go_wp2_with fail
      refine (words_any (some ⟨wr.heap.size, 0, none⟩) 2 2 [(s.size : Int) * 8 / 4294967296, (s.size : Int) * 8 % 4294967296] _ (Ints.of_new (heap_alloc_new wr _) rfl) rfl hW (by decide)).mono ?_
      rintro e w3 ⟨A3, c3, rfl, ho3, hb3⟩
      have hB3 : Below w.heap.size w w3 := (hB.alloc hB.size _).trans (hb3.mono (by simp; have := hB.size; omega))
      have hoD : OwnS w3 w.heap.size 5 1 (.slice A D.length c) D.length (D.map (Value.int .u8)) := (ho.alloc _).chg (Chg.of_below (S := fun _ => False) hb3) (fun _ _ h => h)
      have hI3 := ho3.ints
      clear ho3 hb3 ho hB hW
      generalize wordsL [(s.size : Int) * 8 / 4294967296, (s.size : Int) * 8 % 4294967296] = W8 at *
      have hw8 : W8.length ≤ 8 := Nat.le_of_eq HWL.out
      have hS3 := Src.ints (P := Tryz.prog) (c := c3) hI3
      have hmk := make80
      go_wp2_with (at_builtin; go_loud (refine wpList_append_S rfl (.tmp 34) (.tmp 41) 24 24 rfl i0 (.int .u8 0) 1 (.slice 5) Tryz.underlying24 Tryz.underlying24 (fun _ h => by cases h) hi hz0 hz1 hz2 rfl rfl rfl hoD hS3 ?_ ?_ ?_ ?_; (unfold maxLen; omega); omega; (have := hB3.size; omega); intro A5 c5 w5 ho5 hg5 hw5))
      have hMl : D.length + W8.length = (shaMsg R (s.size : Int)).length := by rw [HM.out, List.length_append]
      have hMm : (D.map (Value.int .u8) ++ W8.map (Value.int .u8)) = (shaMsg R (s.size : Int)).map (Value.int .u8) := by rw [HM.out, List.map_append]
      have hMb : Bytes (shaMsg R (s.size : Int)) := by
        rw [HM.out]
        intro x hx
        rcases List.mem_append.1 hx with hx | hx
        · exact hDb x hx
        · exact hWb x hx
      have hMd : (shaMsg R (s.size : Int)).length = 64 * ((shaMsg R (s.size : Int)).length / 64) := by have := HWL.out; omega
      have hMle : (shaMsg R (s.size : Int)).length ≤ 140737488351378 := by omega
      rw [hMm, hMl] at ho5
      rw [hMl]
      have hB5 : Below w.heap.size w w5 := hB3.grown hg5 hB3.size (fun q h => (hoD.lt q h).1)
      have hI5 := ho5.ints
      have hA5 : ∀ o, 0 < (shaMsg R (s.size : Int)).length → A5 ≠ some ⟨w5.heap.size + 1, o, none⟩ := fun o hl h => by
        subst h
        have := ho5.lt (w5.heap.size + 1) rfl
        omega
      clear ho5 hg5 hw5 hMm hMl hoD hS3 hI3 hB3 HM hDb hWb hlen hw8 hd hmod
      generalize shaMsg R (s.size : Int) = M at *
      have hcel : Cel ((w5.alloc (.cells #[.int .u32 1732584193, .int .u32 4023233417, .int .u32 2562383102, .int .u32 271733878, .int .u32 3285377520] 99)).alloc (.cells (madeCells #[.int .u32 0] 80) 99)) w5.heap.size 99 5 (hF h0) :=
        (Cel.new w5 _ #[.int .u32 1732584193, .int .u32 4023233417, .int .u32 2562383102, .int .u32 271733878, .int .u32 3285377520] (hF h0) (fun i hi => by
          match i, hi with
          | 0, _ => rfl
          | 1, _ => rfl
          | 2, _ => rfl
          | 3, _ => rfl
          | 4, _ => rfl)).alloc _
      have hpre : Pre ((w5.alloc (.cells #[.int .u32 1732584193, .int .u32 4023233417, .int .u32 2562383102, .int .u32 271733878, .int .u32 3285377520] 99)).alloc (.cells (madeCells #[.int .u32 0] 80) 99)) (w5.heap.size + 1) 99 80 .u32 [] :=
        ⟨_, heap_at _ _ _ (by simp), by simp [madeCells], by simp, fun j hj => by simp at hj⟩
      have hB7 := (hB5.alloc hB5.size (.cells #[.int .u32 1732584193, .int .u32 4023233417, .int .u32 2562383102, .int .u32 271733878, .int .u32 3285377520] 99)).alloc (by simp; have := hB5.size; omega) (.cells (madeCells #[.int .u32 0] 80) 99)
      have hI7 : Ints .u8 ((w5.alloc (.cells #[.int .u32 1732584193, .int .u32 4023233417, .int .u32 2562383102, .int .u32 271733878, .int .u32 3285377520] 99)).alloc (.cells (madeCells #[.int .u32 0] 80) 99)) A5 M :=
        hI5.below (((Below.refl _ _).alloc (Nat.le_refl _) _).alloc (by simp) _)
      have hgw : w.heap.size ≤ w5.heap.size + 1 := by have := hB5.size; omega
      have hgg : w5.heap.size ≠ w5.heap.size + 1 := by omega
      clear hI5 hB5 hmk
      generalize ((w5.alloc (.cells #[.int .u32 1732584193, .int .u32 4023233417, .int .u32 2562383102, .int .u32 271733878, .int .u32 3285377520] 99)).alloc (.cells (madeCells #[.int .u32 0] 80) 99)) = w7 at *
      generalize w5.heap.size + 1 = gw at *
      generalize w5.heap.size = gh0 at *
      generalize hnb : M.length / 64 = nb at *
      have HNB := Lib.hid hnb
      clear hnb
      go_loopw [5, 7] (fun hs at_ wr => ∃ (i a gh : Nat), i ≤ nb ∧ Hid (a = 64 * i) ∧ a ≤ M.length ∧ at_ = .int .i64 a ∧ hs = .slice (some ⟨gh, 0, none⟩) 5 5 ∧ Cel wr gh 99 5 (hF (fb i h0 M)) ∧ gh ≠ gw ∧ (∃ l, Pre wr gw 99 80 .u32 l) ∧ Ints .u8 wr A5 M ∧ Below w.heap.size w wr) (fun _ at_ _ => M.length - (intOf at_).toNat)
      case atStart => exact ⟨0, 0, gh0, Nat.zero_le _, rfl, Nat.zero_le _, rfl, rfl, hcel, hgg, ⟨_, hpre⟩, hI7, hB7⟩
      case round =>
        clear hcel hpre hI7 hB7 hgg
        obtain ⟨i, a, gh, hi8, ha8, haM, rfl, rfl, hc, hgg, ⟨l0, hpre⟩, hI, hB⟩ := hrel
        have hpre : Pre wr gw 99 80 .u32 [] := by
          obtain ⟨cs, h1, h2, h3, h4⟩ := hpre
          exact ⟨cs, h1, h2, by simp, fun j hj => by simp at hj⟩
        have hML := Lib.hid hMd
        have hok8 := fb_ok i h0 M h0_ok
        have FS : Hid (fb (i + 1) h0 M = mixH (fb i h0 M) (M.drop (64 * i))) := fb_succ i h0 M
        by_cases hlt : a < M.length
        · have hin : i < nb := by have := ha8.out; have := hML.out; omega
          have hr64 : a + 64 ≤ M.length := by have := ha8.out; have := hML.out; omega
          have hrd : ∀ j, (M.drop (64 * i)).getD j 0 = M.getD (a + j) 0 := fun j => by
            rw [ha8.out]; simp [List.getD_eq_getElem?_getD]
          have hSC0 : schedTo (M.drop (64 * i)) 0 = [] := rfl
          rw [← hSC0] at hpre
          clear hMd hSC0
          generalize hK : fb i h0 M = K at *
          have HK := Lib.hid hK
          clear hK
          generalize hr : M.drop (64 * i) = r at *
          have HRR := Lib.hid hr
          clear hr
          have hIo := hI
          obtain ⟨b, o, rfl, hbl, hcell⟩ := hI (by omega)
          have hbg : b ≠ gw := fun h => by subst h; exact hA5 o (by omega) rfl
          obtain ⟨wo, rfl⟩ : ∃ wo : World, wo = wr := ⟨_, rfl⟩
          go_wp2
          go_loopw [8] (fun t wr => ∃ k : Nat, k ≤ 80 ∧ t = .int .i64 k ∧ Pre wr gw 99 80 .u32 (schedTo r k) ∧ Chg (fun q => q = gw) wo wr) (fun t _ => 80 - (intOf t).toNat)
          case atStart => exact ⟨0, by omega, rfl, hpre, Chg.refl _ _⟩
          case round =>
            clear hpre
            obtain ⟨k, hk, rfl, hP, hCh⟩ := hrel
            have hl := schedTo_len r k
            by_cases hlk : k < 80
            · obtain ⟨v0, hv0⟩ := hP.some_ (j := k) hlk
              have hf0 := hP.frozen k
              have q4 : (k : Int) < 80 := by omega
              by_cases h16 : k < 16
              · have hcl : ∀ j, j < M.length → wr.cell? ⟨b, o + j, none⟩ = some (.int .u8 (M.getD j 0)) := fun j hj => (World.cell?_of_block (hCh.block b hbl hbg)).trans (hcell j hj)
                have c0 := hcl (a + 4 * k) (by omega)
                have c1 := hcl (a + 4 * k + 1) (by omega)
                have c2 := hcl (a + 4 * k + 2) (by omega)
                have c3 := hcl (a + 4 * k + 3) (by omega)
                have r0 := hMb.at_ (a + 4 * k) (by omega)
                have r1 := hMb.at_ (a + 4 * k + 1) (by omega)
                have r2 := hMb.at_ (a + 4 * k + 2) (by omega)
                have r3 := hMb.at_ (a + 4 * k + 3) (by omega)
                have l0 : (a : Int) + 4 * k < M.length := by omega
                have l1 : (a : Int) + 4 * k + 1 < M.length := by omega
                have l2 : (a : Int) + 4 * k + 2 < M.length := by omega
                have l3 : (a : Int) + 4 * k + 3 < M.length := by omega
                have HW : Hid (schedTo r (k + 1) = schedTo r k ++ [num4 (M.getD (a + 4 * k) 0) (M.getD (a + 4 * k + 1) 0) (M.getD (a + 4 * k + 2) 0) (M.getD (a + 4 * k + 3) 0)]) := by
                  show _ = _
                  rw [schedTo, if_pos h16, wordAt, hrd, hrd, hrd, hrd]; rfl
                have HLk := Lib.hid hl
                clear hcl hcell hl hrd
                generalize M.getD (a + 4 * k) 0 = b0 at *
                generalize M.getD (a + 4 * k + 1) 0 = b1 at *
                generalize M.getD (a + 4 * k + 2) 0 = b2 at *
                generalize M.getD (a + 4 * k + 3) 0 = b3 at *
                have n0 : ((a : Int) + 4 * k).toNat = a + 4 * k := by omega
                have n1 : ((a : Int) + 4 * k + 1).toNat = a + 4 * k + 1 := by omega
                have n2 : ((a : Int) + 4 * k + 2).toNat = a + 4 * k + 2 := by omega
                have n3 : ((a : Int) + 4 * k + 3).toNat = a + 4 * k + 3 := by omega
                have g1 : IntKind.i64.wrap ((a : Int) + 4 * k + 1) = (a : Int) + 4 * k + 1 := by exact IntWalk.i64_in _ (by omega)
                have g2 : IntKind.i64.wrap ((a : Int) + 4 * k + 2) = (a : Int) + 4 * k + 2 := by exact IntWalk.i64_in _ (by omega)
                have g3 : IntKind.i64.wrap ((a : Int) + 4 * k + 3) = (a : Int) + 4 * k + 3 := by exact IntWalk.i64_in _ (by omega)
                have p0 : 0 ≤ (a : Int) + 4 * k := by omega
                have p1 : 0 ≤ (a : Int) + 4 * k + 1 := by omega
                have p2 : 0 ≤ (a : Int) + 4 * k + 2 := by omega
                have p3 : 0 ≤ (a : Int) + 4 * k + 3 := by omega
                have v0 : IntKind.u32.wrap b0 = b0 := by rw [IntKind.wrap_u32']; omega
                have v1 : IntKind.u32.wrap b1 = b1 := by rw [IntKind.wrap_u32']; omega
                have v2 : IntKind.u32.wrap b2 = b2 := by rw [IntKind.wrap_u32']; omega
                have v3 : IntKind.u32.wrap b3 = b3 := by rw [IntKind.wrap_u32']; omega
                have x0 : IntKind.u32.wrap (b0 * 16777216) = b0 * 16777216 := by rw [IntKind.wrap_u32']; omega
                have x1 : IntKind.u32.wrap (b1 * 65536) = b1 * 65536 := by rw [IntKind.wrap_u32']; omega
                have x2 : IntKind.u32.wrap (b2 * 256) = b2 * 256 := by rw [IntKind.wrap_u32']; omega
                go_wp2
                refine wp_region_still_tail 32 (by kernel_rfl) (by kernel_rfl) ?_
                simp only [List.take_succ_cons, List.take_zero, List.drop_succ_cons, List.drop_zero]
                repeat still_step
                first | refine wpStill_nil ?_ | (trace_state; fail)
                change wpList _ _ _ _ _ wr.drew
                go_wp2
                go_roundw
                case rel =>
                  refine ⟨k + 1, by omega, by go_num, ?_, (hCh.drew).setCell (.inl rfl) _⟩
                  have hs := (hP.drew).snoc (by have := HLk.out; omega) (num4 b0 b1 b2 b3)
                  rw [HW.out]
                  rw [HLk.out] at hs
                  exact hs
                case measure => simp [intOf]; omega
              · have c0 := hP.cell (j := k - 3) (by omega)
                have c1 := hP.cell (j := k - 8) (by omega)
                have c2 := hP.cell (j := k - 14) (by omega)
                have c3 := hP.cell (j := k - 16) (by omega)
                have HW : Hid (schedTo r (k + 1) = schedTo r k ++ [rotN 1 (bits .xor .u32 (bits .xor .u32 (bits .xor .u32 ((schedTo r k).getD (k - 3) 0) ((schedTo r k).getD (k - 8) 0)) ((schedTo r k).getD (k - 14) 0)) ((schedTo r k).getD (k - 16) 0))]) := by
                  show _ = _
                  rw [schedTo, if_neg (by omega)]; rfl
                have HLk := Lib.hid hl
                clear hl hcell hrd
                generalize (schedTo r k).getD (k - 3) 0 = b0 at *
                generalize (schedTo r k).getD (k - 8) 0 = b1 at *
                generalize (schedTo r k).getD (k - 14) 0 = b2 at *
                generalize (schedTo r k).getD (k - 16) 0 = b3 at *
                have hx := bits_u32 .xor (bits .xor .u32 (bits .xor .u32 b0 b1) b2) b3
                have n0 : (((k : Int) - 3)).toNat = k - 3 := by omega
                have n1 : (((k : Int) - 8)).toNat = k - 8 := by omega
                have n2 : (((k : Int) - 14)).toNat = k - 14 := by omega
                have n3 : (((k : Int) - 16)).toNat = k - 16 := by omega
                have g0 : IntKind.i64.wrap ((k : Int) - 3) = (k : Int) - 3 := by exact IntWalk.i64_in _ (by omega)
                have g1 : IntKind.i64.wrap ((k : Int) - 8) = (k : Int) - 8 := by exact IntWalk.i64_in _ (by omega)
                have g2 : IntKind.i64.wrap ((k : Int) - 14) = (k : Int) - 14 := by exact IntWalk.i64_in _ (by omega)
                have g3 : IntKind.i64.wrap ((k : Int) - 16) = (k : Int) - 16 := by exact IntWalk.i64_in _ (by omega)
                have p0 : (3 : Int) ≤ k := by omega
                have p1 : (8 : Int) ≤ k := by omega
                have p2 : (14 : Int) ≤ k := by omega
                have p3 : (16 : Int) ≤ k := by omega
                have q0 : (k : Int) - 3 < 80 := by omega
                have q1 : (k : Int) - 8 < 80 := by omega
                have q2 : (k : Int) - 14 < 80 := by omega
                have q3 : (k : Int) - 16 < 80 := by omega
                have o0 : 0 ≤ (k : Int) - 3 := by omega
                have o1 : 0 ≤ (k : Int) - 8 := by omega
                have o2 : 0 ≤ (k : Int) - 14 := by omega
                have o3 : 0 ≤ (k : Int) - 16 := by omega
                have z3 : k - 3 ≠ k := by omega
                have z8 : k - 8 ≠ k := by omega
                have z14 : k - 14 ≠ k := by omega
                have z16 : k - 16 ≠ k := by omega
                go_wp2
                go_region_held3 (fun w' => w'.cell? ⟨gw, k - 3, none⟩ = some (.int .u32 b0) ∧ w'.cell? ⟨gw, k - 8, none⟩ = some (.int .u32 b1) ∧ w'.cell? ⟨gw, k - 14, none⟩ = some (.int .u32 b2) ∧ w'.cell? ⟨gw, k - 16, none⟩ = some (.int .u32 b3)) (first | go_keep | (refine ⟨?_, ?_, ?_, ?_⟩ <;> (rw [cell_beside _ _ _ _ _ (Ne.symm (by assumption))]; assumption))) ((go_at_call 69; refine (rol_any _ _ _ hx.1 hx.2 (.inl rfl)).mono ?_; rintro e w' ⟨rfl, nq, rfl⟩))
                go_wp2
                go_roundw
                case rel =>
                  refine ⟨k + 1, by omega, by go_num, ?_, ?_⟩
                  · have hs := (hP.drewN (1 + nq)).snoc (by have := HLk.out; omega) (rotN 1 (bits .xor .u32 (bits .xor .u32 (bits .xor .u32 b0 b1) b2) b3))
                    rw [HW.out]
                    rw [HLk.out] at hs
                    exact hs
                  · exact (hCh.drewN (1 + nq)).setCell (.inl rfl) _
                case measure => simp [intOf]; omega
            · obtain rfl : k = 80 := by omega
              have hc3 := hc.chg hCh hgg
              have k0 : wr.cell? ⟨gh, 0, none⟩ = some (.int .u32 K.a) := hc3.cell 0 (by decide)
              have k1 : wr.cell? ⟨gh, 1, none⟩ = some (.int .u32 K.b) := hc3.cell 1 (by decide)
              have k2 : wr.cell? ⟨gh, 2, none⟩ = some (.int .u32 K.c) := hc3.cell 2 (by decide)
              have k3 : wr.cell? ⟨gh, 3, none⟩ = some (.int .u32 K.d) := hc3.cell 3 (by decide)
              have k4 : wr.cell? ⟨gh, 4, none⟩ = some (.int .u32 K.e) := hc3.cell 4 (by decide)
              clear hcell hrd hl hlk
              go_wp2
              go_loopw [10, 11, 12, 13, 14, 15] (fun sx sy sz su sv t w4 => ∃ q : Nat, q ≤ 80 ∧ t = .int .i64 q ∧ sx = .int .u32 (runH r K q).a ∧ sy = .int .u32 (runH r K q).b ∧ sz = .int .u32 (runH r K q).c ∧ su = .int .u32 (runH r K q).d ∧ sv = .int .u32 (runH r K q).e ∧ Drawn wr w4) (fun _ _ _ _ _ t _ => 80 - (intOf t).toNat)
              case atStart => exact ⟨0, by omega, rfl, rfl, rfl, rfl, rfl, rfl, ⟨0, rfl⟩⟩
              case round =>
                obtain ⟨q, hq, rfl, rfl, rfl, rfl, rfl, rfl, hdr⟩ := hrel
                have hokq := runH_ok r K hok8 q
                by_cases hlq : q < 80
                · have HST : Hid (runH r K (q + 1) = stepH r q (runH r K q)) := rfl
                  generalize runH r K q = st at *
                  obtain ⟨⟨j1, j2⟩, ⟨j3, j4⟩, ⟨j5, j6⟩, ⟨j7, j8⟩, ⟨j9, j10⟩⟩ := hokq
                  have cW := (hdr.cell _).trans (hP.cell (j := q) (by rw [schedTo_len]; exact hlq))
                  have qI : (q : Int) < 80 := by omega
                  generalize hwv : (schedTo r 80).getD q 0 = wv at cW
                  have HWV := Lib.hid hwv
                  clear hwv
                  have hsg := u32_unsigned
                  obtain ⟨w4, rfl⟩ : ∃ w4 : World, w4 = wr := ⟨_, rfl⟩
                  go_upto_block 8 with (fail)
                  go_cut [16, 17] (fun f kk wx => f = .int .u32 (fT q st.b st.c st.d) ∧ kk = .int .u32 (kT q) ∧ w4 = wx)
                  case first =>
                    by_cases h60 : 60 ≤ q
                    · have HF : Hid (∀ b c d, fT q b c d = fPar b c d) := fun b c d => by unfold fT; rw [if_neg (by omega), if_neg (by omega), if_neg (by omega)]
                      have HKc : Hid (kT q = 3395469782) := by show _ = _; unfold kT; rw [if_neg (by omega), if_neg (by omega), if_neg (by omega)]
                      have hI60 : (60 : Int) ≤ q := by omega
                      go_wp2
                      go_meet
                      exact ⟨by rw [HF.out]; rfl, by rw [HKc.out], rfl⟩
                    · by_cases h40 : 40 ≤ q
                      · have HF : Hid (∀ b c d, fT q b c d = fMaj b c d) := fun b c d => by unfold fT; rw [if_neg (by omega), if_neg (by omega), if_pos (by omega)]
                        have HKc : Hid (kT q = 2400959708) := by show _ = _; unfold kT; rw [if_neg (by omega), if_neg (by omega), if_pos (by omega)]
                        have hI60 : decide ((60 : Int) ≤ q) = false := by simp; omega
                        have hI40 : (40 : Int) ≤ q := by omega
                        clear h60 h40
                        go_wp2
                        go_meet
                        exact ⟨by rw [HF.out]; rfl, by rw [HKc.out], rfl⟩
                      · by_cases h20 : 20 ≤ q
                        · have HF : Hid (∀ b c d, fT q b c d = fPar b c d) := fun b c d => by unfold fT; rw [if_neg (by omega), if_pos (by omega)]
                          have HKc : Hid (kT q = 1859775393) := by show _ = _; unfold kT; rw [if_neg (by omega), if_pos (by omega)]
                          have hI60 : decide ((60 : Int) ≤ q) = false := by simp; omega
                          have hI40 : decide ((40 : Int) ≤ q) = false := by simp; omega
                          have hI20 : (20 : Int) ≤ q := by omega
                          clear h60 h40 h20
                          go_wp2
                          go_meet
                          exact ⟨by rw [HF.out]; rfl, by rw [HKc.out], rfl⟩
                        · have HF : Hid (∀ b c d, fT q b c d = fCh b c d) := fun b c d => by unfold fT; rw [if_pos (by omega)]
                          have HKc : Hid (kT q = 1518500249) := by show _ = _; unfold kT; rw [if_pos (by omega)]
                          have hI60 : decide ((60 : Int) ≤ q) = false := by simp; omega
                          have hI40 : decide ((40 : Int) ≤ q) = false := by simp; omega
                          have hI20 : decide ((20 : Int) ≤ q) = false := by simp; omega
                          clear h60 h40 h20
                          go_wp2
                          go_meet
                          exact ⟨by rw [HF.out]; rfl, by rw [HKc.out], rfl⟩
                  case rest =>
                    obtain ⟨rfl, rfl, rfl⟩ := hcut
                    go_wp2
                    go_quiet ((go_at_call 69; exact Calls.quiet_of (rol_any _ _ _ j1 j2 (.inr (.inl rfl)))))
                    go_wp2_with (go_at_call 69; refine (rol_any _ _ _ j3 j4 (.inr (.inr rfl))).mono ?_; rintro e w' ⟨rfl, nq2, rfl⟩)
                    go_roundw
                    case rel =>
                      (repeat apply Exists.intro)
                      refine ⟨?_, rfl⟩
                      exact ⟨q + 1, by omega, by go_num, by rw [HST.out, stepH, HWV.out], by rw [HST.out, stepH], by rw [HST.out, stepH], by rw [HST.out, stepH], by rw [HST.out, stepH], by rw [← World.drewN_drewN]; exact (hdr.more _).more _⟩
                    case measure => simp [intOf]; omega
                · obtain rfl : q = 80 := by omega
                  obtain ⟨w4, rfl⟩ : ∃ w4 : World, w4 = wr := ⟨_, rfl⟩
                  have m0 := (hdr.cell _).trans k0
                  have m1 := (hdr.cell _).trans k1
                  have m2 := (hdr.cell _).trans k2
                  have m3 := (hdr.cell _).trans k3
                  have m4 := (hdr.cell _).trans k4
                  have hmx : mixH K r = ⟨(K.a + (runH r K 80).a) % 4294967296, (K.b + (runH r K 80).b) % 4294967296, (K.c + (runH r K 80).c) % 4294967296, (K.d + (runH r K 80).d) % 4294967296, (K.e + (runH r K 80).e) % 4294967296⟩ := rfl
                  generalize runH r K 80 = st at *
                  rw [hmx] at FS
                  clear hmx hlq
                  go_wp2
                  refine wp_region_still_tail 25 (by kernel_rfl) (by kernel_rfl) ?_
                  simp only [List.take_succ_cons, List.take_zero, List.drop_succ_cons, List.drop_zero]
                  repeat still_step
                  first | refine wpStill_nil ?_ | (trace_state; fail)
                  change wpList _ _ _ _ _ w4.drew
                  go_wp2
                  go_roundw
                  case rel =>
                    have hPb := hP.blk
                    have hh4 := hdr.heap
                    have hgs : gw < w4.heap.size := by rw [hh4]; exact hPb
                    have hCh4 : Chg (fun q => q = gw) wo w4 := by obtain ⟨nd, rfl⟩ := hdr; exact hCh.drewN nd
                    have hB4 : Below w.heap.size w w4 := hB.trans (hCh4.below hB.size (fun q hq hh => by subst hh; omega))
                    have hC4 := hCh4.alloc (.cells #[Value.int IntKind.u32 ((K.a + st.a) % 4294967296), Value.int IntKind.u32 ((K.b + st.b) % 4294967296), Value.int IntKind.u32 ((K.c + st.c) % 4294967296), Value.int IntKind.u32 ((K.d + st.d) % 4294967296), Value.int IntKind.u32 ((K.e + st.e) % 4294967296)] 99)
                    refine ⟨i + 1, a + 64, w4.heap.size, by omega, by have := ha8.out; show _ = _; omega, hr64, by go_num, rfl, (Cel.newH w4 99 _ _ _ _ _ _ FS.out).drew, by omega, ⟨_, ((hP.same (w' := w4) (by rw [hh4])).same (heap_alloc_old w4 _ hgs)).drew⟩, ?_, (hB4.alloc hB4.size _).drew⟩
                    exact hIo.chg (hC4.drew) (fun b' o' hb' hh => by injection hb' with hb'; injection hb' with hb' _ _; exact hbg (by rw [hb', hh]))
                  case measure => simp [intOf]; omega
        · have hin : i = nb := by have := ha8.out; have := hML.out; omega
          subst hin
          have k0 : wr.cell? ⟨gh, 0, none⟩ = some (.int .u32 (fb i h0 M).a) := hc.cell 0 (by decide)
          have k1 : wr.cell? ⟨gh, 1, none⟩ = some (.int .u32 (fb i h0 M).b) := hc.cell 1 (by decide)
          have k2 : wr.cell? ⟨gh, 2, none⟩ = some (.int .u32 (fb i h0 M).c) := hc.cell 2 (by decide)
          have k3 : wr.cell? ⟨gh, 3, none⟩ = some (.int .u32 (fb i h0 M).d) := hc.cell 3 (by decide)
          have k4 : wr.cell? ⟨gh, 4, none⟩ = some (.int .u32 (fb i h0 M).e) := hc.cell 4 (by decide)
          have hbk := hc.blk
          clear hMd FS
          generalize hK : fb i h0 M = K at *
          have HK := Lib.hid hK
          clear hK
          have hI5 : Ints .u32 wr (some ⟨gh, 0, none⟩) [K.a, K.b, K.c, K.d, K.e] := fun _ => ⟨gh, 0, rfl, hbk, fun j hj => by
            match j, hj with
            | 0, _ => exact k0
            | 1, _ => exact k1
            | 2, _ => exact k2
            | 3, _ => exact k3
            | 4, _ => exact k4⟩
          obtain ⟨h1, h2, h3, h4, h5⟩ := hok8
          have hW5 : Words [K.a, K.b, K.c, K.d, K.e] := by
            intro x hx
            simp only [List.mem_cons, List.not_mem_nil, or_false] at hx
            rcases hx with rfl | rfl | rfl | rfl | rfl <;> assumption
          clear k0 k1 k2 k3 k4
          go_wp2_with fail
          refine (words_any (some ⟨gh, 0, none⟩) 5 5 _ wr hI5 rfl hW5 (by decide)).mono ?_
          rintro e w8 h8
          have hE : wordsL [K.a, K.b, K.c, K.d, K.e] = shaTo K 5 := by
            simp [wordsL, shaTo, H5.nth]
          rw [hE] at h8
          obtain ⟨A8, c8, rfl, ho8, hb8⟩ := AskPost.below hB h8
          have HE := Lib.hid hE
          clear hE
          go_wp2
          go_ret
          exact ⟨A8, c8, rfl, ho8, hb8⟩
end Go.Proofs.YtdlabapfcghfmaaGreatDoor
