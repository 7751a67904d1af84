/- Walk: the document's Parse, of bytes that are a segment. -/
import Derived.Test.YtoeipgbnjcgbjaaSeg6
namespace Go.Proofs.Ytoeipgbnjcgbjaa
open Go.RowKit
set_option linter.unusedVariables false

set_option maxRecDepth 100000 in
set_option maxHeartbeats 8000000 in
theorem refParse_yes (s : ByteArray) (w : World) (hsz : s.size ≤ 140737488351300) (h : parseB (bytesOf s) = true) :
    Calls Try.prog 16 #[.string s] w (ParseYesR w (bytesOf s)) := by
  have hcv := fun W => run_bytes_of_string (P := Try.prog) W 9 22 5 s Try.underlying9 Try.underlying22 Try.underlying5
  have hpre := rpre s w hsz
  go_enter Try.func16, Try.ntmps16
  go_upto_region 1 with (fail)
  go_cut [4] (fun v4 wx => ∃ A cap, v4 = .slice A s.size cap ∧ RPre s w wx A cap)
  case first =>
    go_wp2
    go_meet
    exact ⟨_, _, rfl, hpre.drew⟩
  case rest =>
    clear hpre hcv
    obtain ⟨A, cap, rfl, hC, hB, hI, hc1, hc2, hfar⟩ := hcut
    obtain ⟨p1, p2, p3, p4, p5, p6⟩ := of_decide_eq_true h
    have hbl := bytesOf_len s
    have hb := bytesOf_ok s
    · skip
      obtain ⟨N, hN⟩ : ∃ N, s.size = N + 19 := ⟨s.size - 19, by rw [bytesOf_len] at p1; omega⟩
      have p1' : s.size ≤ 419 := by rw [bytesOf_len] at p2; exact p2
      generalize hbs : bytesOf s = bs at *
      have HBS := Lib.hid hbs
      obtain ⟨b, o, rfl, hlt, hcell⟩ := hI (by omega)
      have c0 := hcell 0 (by omega)
      rw [Nat.add_zero] at c0
      have x0 := hb.at_ 0 (by omega)
      have x13 := hb.at_ 13 (by omega)
      have x14 := hb.at_ 14 (by omega)
      have hI13 : Ints .u8 wc (some ⟨b, o + 13, none⟩) [bs.getD 13 0, bs.getD 14 0] := by
        have h13 := (hI.drop 13).take 2
        have e : (bs.drop 13).take 2 = [bs.getD 13 0, bs.getD 14 0] := by
          apply List.ext_getElem?
          intro i
          rw [List.getElem?_take]
          rcases i with _ | _ | i
          · simp [List.getElem?_eq_getElem (show 13 < bs.length by omega), List.getD_eq_getElem?_getD]
          · simp [List.getElem?_eq_getElem (show 14 < bs.length by omega), List.getD_eq_getElem?_getD]
          · simp; omega
        rwa [e] at h13
      have hb13 : Bytes [bs.getD 13 0, bs.getD 14 0] := fun x hx => by
        rcases List.mem_cons.1 hx with rfl | hx
        · exact x13
        · rw [List.mem_singleton.1 hx]; exact x14
      have hG : Calls Try.prog 51 #[.slice (some ⟨b, o + 13, none⟩) 2 (cap - 13)] wc fun e w' => e = .returned (.int .u64 (256 * bs.getD 13 0 + bs.getD 14 0)) ∧ wc = w' := by
        have := get_any (some ⟨b, o + 13, none⟩) 2 (cap - 13) _ wc hI13 rfl (by omega) hb13
        rwa [getL_two] at this
      obtain ⟨K, hK⟩ : ∃ K, K = N + 15 := ⟨_, rfl⟩
      have hG2 : ∀ wx : World, wx.heap = wc.heap → Calls Try.prog 51 #[.slice (some ⟨b, o + K, none⟩) (s.size - K) (cap - K)] wx fun e w' => e = .returned (.int .u64 (nat4 bs K)) ∧ wx = w' := by
        intro wx hx
        have hl : (bs.drop K).length = s.size - K := by rw [List.length_drop, hbl]
        have := get_any (some ⟨b, o + K, none⟩) (s.size - K) (cap - K) (bs.drop K) wx ((hI.drop K).heap hx) hl (by omega) (hb.drop K)
        rwa [← List.take_of_length_le (show (bs.drop K).length ≤ 4 by omega), getL_four bs K (by omega)] at this
      have hCr : ∀ wx : World, Calls Try.prog 52 #[.string (s.extract 0 K)] wx fun e w' => e = .returned (.int .u32 (crcV (bs.take K))) ∧ wx = w' := by
        intro wx
        have hz : (s.extract 0 K).size ≤ 140737488355328 := by
          have := bytesOf_len (s.extract 0 K)
          rw [bytesOf_take, List.length_take] at this
          have := bytesOf_len s
          omega
        have := refCrc_any (s.extract 0 K) wx hz
        rwa [bytesOf_take, hbs, ← crcTo_bits] at this
      have hn4 := nat4_ok bs K hb (by omega)
      have hcv := crcV_ok (bs.take K) (hb.take K)
      have H13 : bs.getD 13 0 * 256 + bs.getD 14 0 = 256 * bs.getD 13 0 + bs.getD 14 0 := by omega
      have hw0 : IntKind.i64.wrap (256 * bs.getD 13 0 + bs.getD 14 0) = 256 * bs.getD 13 0 + bs.getD 14 0 := IntWalk.i64_in _ (by omega)
      have l13 : (13 : Int) ≤ 15 := by omega
      have l15 : (15 : Int) ≤ s.size := by omega
      have lc15 : (15 : Int) ≤ cap := by omega
      have lc13 : ¬ cap = 13 := by omega
      have ln0 : 0 < s.size := by omega
      have ln1 : ¬ s.size = 0 := by omega
      have d19 : decide ((s.size : Int) < 19) = false := by simp; omega
      have d419 : decide ((419 : Int) < s.size) = false := by simp; omega
      have q1 : decide (bs.getD 0 0 < 1) = false := decide_eq_false (by omega)
      have q2 : decide (5 < bs.getD 0 0) = false := decide_eq_false (by omega)
      have q3 : (256 * bs.getD 13 0 + bs.getD 14 0 != (s.size : Int) - 19) = false := by rw [bne_eq_false_iff_eq]; omega
      have q4 : (nat4 bs K != crcV (bs.take K)) = false := by
        rw [show bs.length - 4 = K by omega] at p6
        simpa using p6.symm
      have hgk : ∀ k, k + 4 ≤ s.size → ∀ wx : World, Ints .u8 wx (some ⟨b, o, none⟩) bs → Calls Try.prog 51 #[.slice (some ⟨b, o + k, none⟩) 4 (cap - k)] wx fun e w' => e = .returned (.int .u64 (nat4 bs k)) ∧ wx = w' := by
        intro k hk wx hx
        have hl : ((bs.drop k).take 4).length = 4 := by rw [List.length_take, List.length_drop]; omega
        have := get_any (some ⟨b, o + k, none⟩) 4 (cap - k) ((bs.drop k).take 4) wx ((hx.drop k).take 4) hl (by omega) ((hb.drop k).take 4)
        rwa [getL_four bs k (by omega)] at this
      have G1 := Lib.hid (hgk 1 (by omega))
      have G5 := Lib.hid (hgk 5 (by omega))
      have G9 := Lib.hid (hgk 9 (by omega))
      have m1 := nat4_ok bs 1 hb (by omega)
      have m5 := nat4_ok bs 5 hb (by omega)
      have m9 := nat4_ok bs 9 hb (by omega)
      have i1 : IntKind.i64.wrap (nat4 bs 1) = nat4 bs 1 := IntWalk.i64_in _ (by omega)
      have i5 : IntKind.i64.wrap (nat4 bs 5) = nat4 bs 5 := IntWalk.i64_in _ (by omega)
      have i9 : IntKind.i64.wrap (nat4 bs 9) = nat4 bs 9 := IntWalk.i64_in _ (by omega)
      have i0 : IntKind.i64.wrap (bs.getD 0 0) = bs.getD 0 0 := IntWalk.i64_in _ (by omega)
      have HPS : Hid (parseS bs = ⟨bs.getD 0 0, nat4 bs 1, nat4 bs 5, nat4 bs 9, (bs.drop 15).take N⟩) := by
        show _ = _
        unfold parseS
        rw [show bs.length - 19 = N by omega]
      have hD : Ints .u8 wc (some ⟨b, o + 15, none⟩) ((bs.drop 15).take N) := (hI.drop 15).take N
      have hDl : ((bs.drop 15).take N).length = N := by rw [List.length_take, List.length_drop]; omega
      have HDL := Lib.hid hDl
      have e5 : (5 : Int) ≤ cap := by omega
      have e9 : (9 : Int) ≤ cap := by omega
      have e13 : (13 : Int) ≤ cap := by omega
      have ec1 : ¬ cap = 1 := by omega
      have ec5 : ¬ cap = 5 := by omega
      have ec9 : ¬ cap = 9 := by omega
      have ec15 : ¬ cap = 15 := by omega
      have lK15 : (15 : Int) ≤ K := by omega
      have hKN : K - 15 = N := by omega
      have hbgt := hfar b o rfl
      clear hgk hDl p1 p2 p3 p4 p5 p6
      have hk5 : (s.size : Int) - 4 = (K : Int) := by omega
      have lk1 : (K : Int) ≤ s.size := by omega
      have lk2 : (K : Int) ≤ cap := by omega
      have lk3 : ¬ cap = K := by omega
      have lk4 : K ≤ s.size := by omega
      have hcw : IntKind.u64.wrap (crcV (bs.take K)) = crcV (bs.take K) := by rw [IntKind.wrap_u64]; omega
      have HN := Lib.hid hN
      have HBL := Lib.hid hbl
      have HK := Lib.hid hK
      have HG2 := Lib.hid hG2
      have HCR := Lib.hid hCr
      clear hN hbl hK hcell hbs hI13 hb13 x13 x14 H13  p1' hG2 hCr
      generalize nat4 bs K = n4 at *
      generalize crcV (bs.take K) = cv at *
      generalize 256 * bs.getD 13 0 + bs.getD 14 0 = l2 at *
      have HB0 : Hid (bs.getD 0 0 = bs.getD 0 0) := rfl
      generalize nat4 bs 1 = n1 at *
      generalize nat4 bs 5 = n5 at *
      generalize nat4 bs 9 = n9 at *
      generalize bs.getD 0 0 = b0 at *
      go_wp2_with (go_at_call 51; refine hG.mono ?_; rintro e w' ⟨rfl, rfl⟩)
      go_quiet ((first | (go_at_call 51; exact quiet_same (HG2.out _ rfl)) | (go_at_call 52; exact quiet_same (HCR.out _))))
      have c0q : (wc.drewN nq).cell? ⟨b, o, none⟩ = some (.int .u8 b0) := c0
      have HQ : Hid ((wc.drewN nq).heap = wc.heap) := rfl
      have hCq := hC.drewN nq
      have hBq := Below.drewN hB nq
      have hDq : Ints .u8 (wc.drewN nq) (some ⟨b, o + 15, none⟩) ((bs.drop 15).take N) := hD.heap rfl
      have hltq : b < (wc.drewN nq).heap.size := hlt
      have hIq : Ints .u8 (wc.drewN nq) (some ⟨b, o, none⟩) bs := hI.heap rfl
      generalize wc.drewN nq = wq at *
      have HIW := fun wx (h : Below wq.heap.size wq wx) => hIq.below h
      have nkq := World.new_ne wq ⟨b, o, none⟩ c0q
      clear c0 hC hB hD hG HG2 HCR hI
      have HIW := Lib.hid HIW
      go_upto_region 7 with (fail)
      go_cut [6] (fun v6 wx => v6 = .pointer (some ⟨wq.heap.size, 0, none⟩) ∧ wx = (wq.alloc (.cells #[.int .i64 b0, .int .i64 n1, .int .i64 n5, .int .i64 n9, .slice none 0 0] 24)).drew)
      case first =>
        go_wp2
        go_region_held3 (fun w' => w'.cell? ⟨b, o, none⟩ = some (.int .u8 b0)) (go_keep) (first
          | (go_at_call 51; ((with_reducible refine (G1.out _ ?_).mono ?_); (refine HIW.out _ ?_); (first | exact (Below.refl _ _).drew | exact ((Below.refl _ _).alloc (Nat.le_refl _) _).drew | exact (((Below.refl _ _).alloc (Nat.le_refl _) _).drew)); rintro e w' ⟨rfl, rfl⟩))
          | (go_at_call 51; ((with_reducible refine (G5.out _ ?_).mono ?_); (refine HIW.out _ ?_); (first | exact (Below.refl _ _).drew | exact ((Below.refl _ _).alloc (Nat.le_refl _) _).drew | exact (((Below.refl _ _).alloc (Nat.le_refl _) _).drew)); rintro e w' ⟨rfl, rfl⟩))
          | (go_at_call 51; ((with_reducible refine (G9.out _ ?_).mono ?_); (refine HIW.out _ ?_); (first | exact (Below.refl _ _).drew | exact ((Below.refl _ _).alloc (Nat.le_refl _) _).drew | exact (((Below.refl _ _).alloc (Nat.le_refl _) _).drew)); rintro e w' ⟨rfl, rfl⟩)))
        all_goals
          go_wp2
          go_meet
          exact ⟨rfl, rfl⟩
      case rest =>
        obtain ⟨rfl, rfl⟩ := hcut
        obtain ⟨i0, hi, hz0, hz1, hz2⟩ := info_parts Try.info_u8
        have hCX : Cel (wq.alloc (.cells #[.int .i64 b0, .int .i64 n1, .int .i64 n5, .int .i64 n9, .slice none 0 0] 24)).drew wq.heap.size 24 5 (fun i => (#[Value.int .i64 b0, .int .i64 n1, .int .i64 n5, .int .i64 n9, .slice none 0 0] : Array Value).getD i undef) := (Cel.new wq _ _ _ (fun i hi => getD_some hi)).drew
        have hCz := (hCq.alloc (.cells #[.int .i64 b0, .int .i64 n1, .int .i64 n5, .int .i64 n9, .slice none 0 0] 24)).drew
        have hBx := (hBq.alloc hBq.size (.cells #[.int .i64 b0, .int .i64 n1, .int .i64 n5, .int .i64 n9, .slice none 0 0] 24)).drew
        have hDx := hDq.below (((Below.refl wq.heap.size wq).alloc (Nat.le_refl _) (.cells #[.int .i64 b0, .int .i64 n1, .int .i64 n5, .int .i64 n9, .slice none 0 0] 24)).drew)
        have hzx : wq.heap.size + 1 ≤ (wq.alloc (.cells #[.int .i64 b0, .int .i64 n1, .int .i64 n5, .int .i64 n9, .slice none 0 0] 24)).drew.heap.size := by simp
        have hGq := hCq.blk
        generalize (wq.alloc (.cells #[.int .i64 b0, .int .i64 n1, .int .i64 n5, .int .i64 n9, .slice none 0 0] 24)).drew = wx at *
        generalize wq.heap.size = X at *
        have x4 := hCX.cell 4 (by decide)
        have xf := hCX.frozen 4
        clear HIW c0q nkq hIq hBq hCq hDq HQ G1 G5 G9
        have hdl := HDL.out
        have hsrc := Src.ints (P := Try.prog) (c := cap - 15) hDx
        rw [hdl] at hsrc
        go_wp2
        go_region_law (refine step_append_S rfl (.tmp 72) (.tmp 75) 22 22 rfl i0 (.int .u8 0) 1 (.slice 5) Try.underlying22 Try.underlying22 (fun _ h => by cases h) hi hz0 hz1 hz2 rfl rfl rfl (OwnS.nil _ (X + 1) _ _) (hsrc.drew) ?_ ?_ ?_ ?_; (unfold maxLen; omega); omega; (exact hzx); intro A9 c9 w9 ho9 hg9 hw9; have hC9 := hCX.drew.grown hg9 (fun h => by cases h); have y4 := hC9.cell 4 (by decide); have yf := hC9.frozen 4)
        rw [Nat.zero_add, List.nil_append] at ho9
        have hC10 : Cel (w9.setCell ⟨X, 4, none⟩ (.slice A9 N c9)) X 24 5 (fun i => (#[Value.int .i64 b0, .int .i64 n1, .int .i64 n5, .int .i64 n9, .slice A9 N c9] : Array Value).getD i undef) := by
          refine (hC9.set 4 _).congr (fun i hi => ?_)
          rcases i with _ | _ | _ | _ | _ | i <;> first | rfl | omega
        have ho10 := ho9.setLow (a := ⟨X, 4, none⟩) (Nat.lt_succ_self X) (.slice A9 N c9)
        have hz10 := (hCz.drew.grown hg9 (fun h => by cases h)).setFar (a := ⟨X, 4, none⟩) (Nat.ne_of_lt hGq) (.slice A9 N c9)
        have hB10 := (hBx.drew.grown hg9 (by exact hBx.size) (fun q h => by cases h)).setCell (show w.heap.size ≤ (⟨X, 4, none⟩ : Addr).block from Nat.le_of_lt hGq) (.slice A9 N c9)
        generalize w9.setCell ⟨X, 4, none⟩ (.slice A9 N c9) = w10 at *
        clear hC9 y4 yf x4 xf hg9 hw9 ho9 hCX hCz hDx hsrc
        go_wp2_with (first
          | (refine wpList_load_part (vs := #[Value.int .i64 b0, .int .i64 n1, .int .i64 n5, .int .i64 n9, .slice A9 N c9]) (off := 0) rfl (.tmp 6) rfl rfl hC10 Try.underlying24 rfl info_seg (Nat.le_refl 5) (fun j hj => by rw [Nat.zero_add]; exact getD_some hj) ?_)
          | (refine wpList_store_part (vs := #[Value.int .i64 b0, .int .i64 n1, .int .i64 n5, .int .i64 n9, .slice A9 N c9]) (off := 0) rfl (.tmp 2) (.tmp 78) rfl rfl rfl hz10 info_seg (Nat.le_refl 5) (by simp [Value.oneCell']) ?_; intro w11 hC11 hg11 hs11; have hC12 := cel_stored rfl hC11))
        have hps := HPS.out
        have ho12 := (ho10.kept hg11 (.inr (fun h => by have := (ho10.lt _ h).1; omega))).base_ (base' := w.heap.size) (by omega)
        have hB12 := hB10.grown hg11 hB10.size (fun k h => by injection h with h; omega)
        refine bodyPost_ret (v := .tuple #[.agg #[Value.int .i64 b0, .int .i64 n1, .int .i64 n5, .int .i64 n9, .slice A9 N c9], .bool true]) (results_cel2 rfl _ _ rfl rfl hC12 Try.underlying24 rfl info_seg (Nat.le_refl 5) (fun j hj => getD_some hj)) rfl ?_
        refine ⟨A9, c9, ?_, ?_, hB12⟩
        · rw [hps]; simp only [segV, hdl]
        · rw [hps]; simp only [hdl]; exact ho12
end Go.Proofs.Ytoeipgbnjcgbjaa
