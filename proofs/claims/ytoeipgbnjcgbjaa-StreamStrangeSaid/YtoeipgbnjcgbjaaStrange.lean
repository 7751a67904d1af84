/- The walk of StreamStrange. -/
import Derived.Test.YtoeipgbnjcgbjaaStrangeM
import Derived.Test.YtoeipgbnjcgbjaaPAll
import Derived.Test.YtoeipgbnjcgbjaaConv
import Derived.Test.YtoeipgbnjcgbjaaSeg2
import Derived.Test.YtoeipgbnjcgbjaaRel
namespace Go.Proofs.Ytoeipgbnjcgbjaa
open Go.RowKit
set_option linter.unusedVariables false

set_option maxRecDepth 100000 in
set_option maxHeartbeats 4000000 in
theorem streamStrange_walk (A0 : Option Addr) (c0 : Nat) (b : List Int) (id : Int) (A2 : Option Addr) (c2 : Nat) (data : List Int) (W : World) (hI0 : Ints .u8 W A0 b) (hb0 : Bytes b) (hsz : b.length ≤ 140737488351300) (wfid : (Lit.int .i64 id).wf = true)
    (hI2 : Ints .u8 W A2 data) (hb2 : Bytes data) (hcap0 : b.length ≤ c0 ∧ c0 ≤ 9223372036854775807) (hcap2 : data.length ≤ c2 ∧ c2 ≤ 9223372036854775807) (hsz2 : data.length ≤ 140737488351300) :
    Calls Try.prog 5 #[.slice A0 b.length c0, .int .i64 id, .slice A2 data.length c2] W fun e w' => e = .returned (.bool true) ∧ Below W.heap.size W w' := by
  go_enter Try.func5, Try.ntmps5
  go_wp2_with fail
  refine (listen_any 7 W).mono ?_
  intro e w1 hN1
  obtain rfl := hN1.1
  go_wp2_with fail
  refine (listen_any 7 w1).mono ?_
  intro e w2 hN2
  obtain rfl := hN2.1
  obtain ⟨hT, hB⟩ := Two.new hN1 hN2
  clear hN1 hN2
  have hT : Two W.heap.size W.heap.size w1.heap.size w2 awL awL (.slice none 0 0) (.slice none 0 0) (.slice none 0 0) (.slice none 0 0) := hT
  generalize hB0 : W.heap.size = B at hT hB ⊢
  generalize w1.heap.size = g2 at *
  have HB0 := Lib.hid hB0
  clear hB0
  by_cases hd : data.length ≤ 300
  · have d0 : decide ((300 : Int) < (data.length : Int)) = false := decide_eq_false (by omega)
    have d0' : decide (300 < data.length) = false := decide_eq_false (by omega)
    have hs19 : (strOfNums awD).size = 19 := by rw [strOfNums_size', awD_len]
    have hbs : bytesOf (strOfNums awD) = awD := bytesOf_str _ awD_ok
    have HS19 := Lib.hid hs19
    have HBS := Lib.hid hbs
    clear hs19 hbs
    go_wp2_with (first
      | (go_at_call 18; refine (refSegment_any ⟨1, 7, 0, 0, []⟩ none 0 w2 Ints.nil (fun x h => by cases h) (by simp) (by decide)).mono ?_; rintro e w3 ⟨rfl, hb3⟩)
      | (with_reducible refine wpList_conv rfl (.tmp 39) rfl (strOfNums awD) 19 awD rfl HS19.out HBS.out (by rw [HS19.out]; decide) ?_; intro Ay cy w4 hIy hcy1 hcy2 hb4 hfy))
    have hblk3 := (hT.below hb3).e1.blk
    have hT4 := (hT.below hb3).below hb4
    have hB4 : Below B W w4 := hB.trans ((hb3.trans (hb4.mono hb3.size)).mono hT.size)
    clear hT hB hb3
    have hin := in_any B awL _ _ Ay 19 cy awD 0 w4 hT4.e1 (newEnd_ok 7 2 (by decide)) hIy awD_len awD_ok hcy1 hcy2 (by decide)
    rw [aw4] at hin
    refine hin.mono ?_
    intro e w5 hp5
    obtain ⟨rfl, vi5, hT5, hc5, hb5⟩ := hT4.take hp5
    have hIy5 : Ints .u8 w5 Ay awD := hIy.chg hc5 (fun q o hA hF => by have h1 := hfy q o hA; rcases hF with h | h | h <;> first | omega | (cases h))
    clear hin hp5 hIy
    go_wp2_with fail
    have hin := in_any g2 awL _ _ Ay 19 cy awD 0 w5 hT5.e2 (newEnd_ok 7 2 (by decide)) hIy5 awD_len awD_ok hcy1 hcy2 (by decide)
    rw [aw4] at hin
    refine hin.mono ?_
    intro e w6 hp6
    obtain ⟨rfl, vi6, hT6, hc6, hb6⟩ := hT5.swap.take hp6
    have hT6 : Two B B g2 w6 stO stO (.slice none 0 0) vi5 (.slice none 0 0) vi6 := hT6.swap
    have hB6 := (hB4.trans hb5).trans hb6
    clear hin hp6 hIy5 hT4 hT5 hc5 hc6 hb4 hb5 hb6 hB4 hfy hcy1 hcy2
    have hI06 := hI0.below (by rw [HB0.out]; exact hB6)
    have HIN : Hid (parseB b = false ∨ (parseX b).id ≠ 7 → inS stO b 1 = stO) := by
      intro h
      refine inS_strange stO b 1 (fun hp => ?_)
      rcases h with h | h
      · rw [hp] at h; cases h
      · unfold parseX at h; rw [if_pos hp] at h; exact h
    have hP := parse_all A0 b.length c0 b w6 hI06 rfl hb0 hcap0.1 hcap0.2 (by omega)
    generalize parseX b = X at *
    generalize parseB b = ok at *
    obtain ⟨xt, xid, xseq, xack, xdata⟩ := X
    simp only [segV] at hP
    go_wp2_with fail
    refine hP.mono ?_
    rintro e w7 ⟨Ax, cx, rfl, hIx, hb7⟩
    have hCx := cel_seg w7 ⟨xt, xid, xseq, xack, xdata⟩ Ax cx
    have hBx : Below w7.heap.size w7 (w7.alloc (.cells #[.int .i64 xt, .int .i64 xid, .int .i64 xseq, .int .i64 xack, .slice Ax xdata.length cx] 24)) := (Below.refl _ _).alloc (Nat.le_refl _) _
    try simp only at hCx
    go_upto_region 9 with (fail)
    generalize (w7.alloc (.cells #[.int .i64 xt, .int .i64 xid, .int .i64 xseq, .int .i64 xack, .slice Ax xdata.length cx] 24)) = w8 at *
    have hT8 := (hT6.below hb7).below hBx
    have hB8 := hB6.trans ((hb7.trans (hBx.mono hb7.size)).mono hT6.size)
    have k1 : w8.cell? ⟨w7.heap.size, 1, none⟩ = some (.int .i64 xid) := hCx.cell 1 (by decide)
    clear hP hIx hb7 hBx hCx hT6 hB6 hI06
    generalize w7.heap.size = xb at *
    go_cut [58] (fun v wx => (∃ bb : Bool, v = .bool bb ∧ (bb = true → Hid (inS stO b 1 = stO))) ∧ wx = w8)
    case first => as_aux_lemma =>
      cases ok
      · have h := HIN.out (.inl rfl)
        have H := Lib.hid h
        clear h HIN
        go_wp2
        go_meet
        exact ⟨⟨true, rfl, fun _ => H⟩, rfl⟩
      · by_cases hx : xid = 7
        · have t : (xid != 7) = false := by simpa using hx
          clear hx HIN
          go_wp2
          go_meet
          exact ⟨⟨false, rfl, fun h => by cases h⟩, rfl⟩
        · have t : (xid != 7) = true := by simpa using hx
          have h := HIN.out (.inr hx)
          have H := Lib.hid h
          clear h HIN hx
          go_wp2
          go_meet
          exact ⟨⟨true, rfl, fun _ => H⟩, rfl⟩
    case rest =>
      obtain ⟨⟨bb, rfl, hbb⟩, rfl⟩ := hcut
      clear HIN k1
      go_upto_if 58 with (fail)
      go_cut [] (fun wx => ∃ vi', Two B B g2 wx stO stO (.slice none 0 0) vi' (.slice none 0 0) vi6 ∧ Below B W wx)
      case first => as_aux_lemma =>
        cases bb
        · clear hbb
          go_wp2
          go_meet
          exact ⟨vi5, hT8, hB8⟩
        · have hI08 := hI0.below (by rw [HB0.out]; exact hB8)
          have hin := in_any B stO _ _ A0 b.length c0 b 1 _ hT8.e1 stO_ok hI08 rfl hb0 hcap0.1 hcap0.2 (by omega)
          rw [(hbb rfl).out] at hin
          clear hbb
          go_wp2_with fail
          refine hin.mono ?_
          intro e w9 hp
          obtain ⟨rfl, vi9, hT9, _, hb9⟩ := hT8.take hp
          clear hin hp
          go_wp2
          go_meet
          exact ⟨vi9, hT9, hB8.trans hb9⟩
      case rest =>
        obtain ⟨vi7, hT9, hB9⟩ := hcut
        clear hT8 hB8 hbb
        have e1 : IntKind.u32.wrap id = w32 id := IntKind.wrap_u32' _
        go_upto_region 11 with (fail)
        go_cut [64] (fun v wx => (∃ bb : Bool, v = .bool bb ∧ (bb = true → w32 id ≠ 7)) ∧ wx = wc)
        case first => as_aux_lemma =>
          by_cases hx : w32 id = 7
          · have t : (w32 id != 7) = false := by simpa using hx
            clear hx
            go_wp2
            go_meet
            exact ⟨⟨false, rfl, fun h => by cases h⟩, rfl⟩
          · have t : (w32 id != 7) = true := by simpa using hx
            have H := Lib.hid hx
            clear hx
            go_wp2
            go_meet
            exact ⟨⟨true, rfl, fun _ => H.out⟩, rfl⟩
        case rest =>
          obtain ⟨⟨bb, rfl, hbb⟩, rfl⟩ := hcut
          clear e1
          go_upto_if 64 with (fail)
          go_cut [] (fun wx => ∃ vi', Two B B g2 wx stO stO (.slice none 0 0) vi' (.slice none 0 0) vi6 ∧ Below B W wx)
          case first => as_aux_lemma =>
            cases bb
            · clear hbb
              go_wp2
              go_meet
              exact ⟨vi7, hT9, hB9⟩
            · have hid := Lib.hid (hbb rfl)
              clear hbb
              go_wp2
              go_loopw [12] (fun t wr => ∃ k : Nat, 1 ≤ k ∧ k ≤ 6 ∧ t = .int .i64 k ∧ ∃ vi', Two B B g2 wr stO stO (.slice none 0 0) vi' (.slice none 0 0) vi6 ∧ Below B W wr) (fun t _ => 6 - (intOf t).toNat)
              case atStart => exact ⟨1, by omega, by omega, rfl, vi7, hT9, hB9⟩
              case round =>
                clear hT9 hB9
                obtain ⟨k, hk1, hk6, rfl, vi8, hT, hB⟩ := hrel
                by_cases hlt : k ≤ 5
                · have hI2r := hI2.below (by rw [HB0.out]; exact hB)
                  obtain ⟨L, hL⟩ : ∃ L, L = segL ⟨k, id, 0, 0, data⟩ := ⟨_, rfl⟩
                  have hLl : L.length = 19 + data.length := by rw [hL, segL_len]; simp only []; rw [List.length_take]; omega
                  have hLb : Bytes L := hL ▸ segL_ok _ hb2
                  have hin := inS_other stO k id data 1 ⟨by omega, by omega⟩ hid.out hb2 (by omega)
                  have hsg := refSegment_any ⟨k, id, 0, 0, data⟩ A2 c2 wr hI2r hb2 hcap2.1 hcap2.2
                  simp only [segV] at hsg
                  rw [← hL] at hin hsg
                  have hs : (strOfNums L).size = 19 + data.length := by rw [strOfNums_size', hLl]
                  have HS := Lib.hid hs
                  have HBS2 := Lib.hid (bytesOf_str L hLb)
                  have HIN := Lib.hid hin
                  have HLL := Lib.hid hLl
                  clear hs hin hL hLl
                  go_wp2_with (first
                    | (go_at_call 18; refine hsg.mono ?_; rintro e w3 ⟨rfl, hb3⟩)
                    | (with_reducible refine wpList_conv rfl (.tmp 74) rfl (strOfNums L) (19 + data.length) L rfl HS.out HBS2.out (by rw [HS.out]; omega) ?_; intro Ay cy w4 hIy hcy1 hcy2 hb4 hfy))
                  have hT4 := (hT.below hb3).below hb4
                  have hB4 := hB.trans ((hb3.trans (hb4.mono hb3.size)).mono hT.size)
                  have hin := in_any B stO _ _ Ay _ cy L 1 w4 hT4.e1 stO_ok hIy HLL.out hLb hcy1 hcy2 (by omega)
                  rw [HIN.out] at hin
                  refine hin.mono ?_
                  intro e w5 hp
                  obtain ⟨rfl, vi5', hT5, _, hb5⟩ := hT4.take hp
                  have hB5 := hB4.trans hb5
                  clear hin hp hT hB hb3 hb4 hT4 hB4 hIy hfy hsg hI2r hb5
                  go_wp2
                  go_roundw
                  case rel => exact ⟨k + 1, by omega, by omega, by go_num, vi5', hT5, hB5⟩
                  case measure => simp [intOf]; omega
                · go_wp2
                  go_meet
                  exact ⟨vi8, hT, hB⟩
          case rest =>
            obtain ⟨vi8, hT, hB⟩ := hcut
            clear hT9 hB9 hbb
            go_wp2_with fail
            refine (out_at B stO stP _ _ 2 _ _ 1 stO_out rfl hT.e1 stO_ok (by decide)).mono ?_
            rintro e w10 ⟨A10, rfl, hO10, hE10, hC10⟩
            obtain ⟨hT10, hc10, hb10⟩ := hT.same hE10 hC10
            go_wp2_with fail
            refine (out_at g2 stO stP _ _ 2 _ _ 1 stO_out rfl hT10.e2 stO_ok (by decide)).mono ?_
            rintro e w11 ⟨A11, rfl, hO11, hE11, hC11⟩
            obtain ⟨hT11, hc11, hb11⟩ := hT10.swap.same hE11 hC11
            have hT11 := hT11.swap
            have hb1c := hT.e1.blk
            have hb1d := hT10.e1.blk
            have hO10' := hO10.chg hC11 (fun k hk e => by have := hT.e2.blk; omega)
            have hB11 := (hB.trans hb10).trans hb11
            have hrd := read_any B stP _ _ w11 hT11.e1 stP_ok
            unfold RdPost at hrd
            rw [stP_read] at hrd
            clear hT hB hE10 hC10 hO10 hT10 hc10 hb10 hE11 hC11 hc11 hb11
            go_wp2_with fail
            refine hrd.mono ?_
            rintro e w12 ⟨A12, rfl, _, hE12, hC12⟩
            obtain ⟨hT12, hc12, hb12⟩ := hT11.same hE12 hC12
            have hst : Calls Try.prog 25 #[.pointer (some ⟨B, 0, none⟩)] w12 fun e w' => e = .returned (.int .i64 3) ∧ w12 = w' := state_any B stP _ _ w12 hT12.e1
            have hB12 := hB11.trans hb12
            have hsz10 := hT11.size
            have hOp := hO10'.chg hC12 (fun k hk e => by omega)
            have hOq := hO11.chg hC12 (fun k hk e => by omega)
            clear hrd hT11 hB11 hE12 hC12 hc12 hb12 hO10' hO11 hb1c hb1d
            go_wp2_with fail
            refine hst.mono ?_
            rintro e w13 ⟨rfl, rfl⟩
            clear hst
            obtain ⟨b1, o1, A1', rfl, _, hl1, hcell1, hown1⟩ := hOp.elem 0 (by decide)
            obtain ⟨b2, o2, A2', rfl, _, hl2, hcell2, hown2⟩ := hOq.elem 0 (by decide)
            rw [Nat.add_zero] at hcell1 hcell2
            have hcell1 : w12.cell? ⟨b1, o1, none⟩ = some (.slice A1' 19 19) := hcell1
            have hcell2 : w12.cell? ⟨b2, o2, none⟩ = some (.slice A2' 19 19) := hcell2
            have hI1 : Ints .u8 w12 A1' stD := OwnS.ints hown1
            have hI2' : Ints .u8 w12 A2' stD := OwnS.ints hown2
            have HI1 := Lib.hid hI1
            have HI2 := Lib.hid hI2'
            clear hOp hOq hown1 hown2 hI1 hI2'
            go_wp2
            go_loopw [15] (fun t wr => ∃ k : Nat, k ≤ 1 ∧ t = .int .i64 k ∧ Below w12.heap.size w12 wr) (fun t _ => 1 - (intOf t).toNat)
            case atStart => exact ⟨0, by omega, rfl, Below.refl _ _⟩
            case round =>
              obtain ⟨k, hk, rfl, hBr⟩ := hrel
              by_cases hlt : k < 1
              · obtain rfl : k = 0 := by omega
                have kc1 : wr.drew.cell? ⟨b1, o1, none⟩ = some (.slice A1' 19 19) := (hBr.cell (p := ⟨b1, o1, none⟩) hl1).trans hcell1
                have kc2 : wr.drew.cell? ⟨b2, o2, none⟩ = some (.slice A2' 19 19) := (hBr.cell (p := ⟨b2, o2, none⟩) hl2).trans hcell2
                have kl1 : b1 < wr.drew.heap.size := Nat.lt_of_lt_of_le hl1 hBr.size
                have kl2 : b2 < wr.drew.heap.size := Nat.lt_of_lt_of_le hl2 hBr.size
                have hIa : Ints .u8 wr.drew A1' stD := HI1.out.below (hBr.drew)
                have hIb : Ints .u8 wr.drew A2' stD := HI2.out.below (hBr.drew)
                clear hcell1 hcell2
                go_wp2
                refine wp_region_relC (fun _ => False) (by kernel_rfl) [fun v _ => v = .slice (some ⟨b1, o1, none⟩) 1 1, fun v _ => v = .int .i64 0, fun v _ => v = .pointer (some ⟨b1, o1, none⟩), fun v _ => v = .slice A1' 19 19, fun v _ => v = .string (strOfNums stD), fun v _ => v = .slice (some ⟨b2, o2, none⟩) 1 1, fun v _ => v = .int .i64 0, fun v _ => v = .pointer (some ⟨b2, o2, none⟩), fun v _ => v = .slice A2' 19 19, fun v _ => v = .string (strOfNums stD), fun v _ => v = .bool false] (allC ⟨MonoC.eq _, MonoC.eq _, MonoC.eq _, MonoC.eq _, MonoC.eq _, MonoC.eq _, MonoC.eq _, MonoC.eq _, MonoC.eq _, MonoC.eq _, MonoC.eq _, trivial⟩) (by kernel_rfl) (by kernel_rfl) ?steps ?done rfl
                case steps =>
                  refine ⟨?_, ?_, ?_, ?_, ?_, ?_, ?_, ?_, ?_, ?_, ?_, trivial⟩
                  · intro us a w1 ha hR hd
                    exact StepR.pure (v := .slice (some ⟨b1, o1, none⟩) 1 1) rfl rfl (by rw [ha]; simp only [putAll]; go_simp) (Chg.refl _ _) rfl
                  · intro us a w1 ha hR hd
                    exact StepR.pure (v := .int .i64 0) rfl rfl (by rw [ha]; simp only [putAll]; go_simp) (Chg.refl _ _) rfl
                  · intro us a w1 ha hR hd
                    have e0 := hd 0 _ (by kernel_rfl) rfl
                    have e1 := hd 1 _ (by kernel_rfl) rfl
                    exact StepR.pure (v := .pointer (some ⟨b1, o1, none⟩)) rfl rfl (by rw [ha]; simp only [putAll]; go_simp) (Chg.refl _ _) rfl
                  · intro us a w1 ha hR hd
                    have e2 := hd 2 _ (by kernel_rfl) rfl
                    have k1 := (World.cell?_of_block (a := ⟨b1, o1, none⟩) (hR.block b1 kl1 (fun h => h))).trans kc1
                    exact StepR.pure (v := .slice A1' 19 19) rfl rfl (by rw [ha]; simp only [putAll]; go_simp) (Chg.refl _ _) rfl
                  · intro us a w1 ha hR hd
                    have e3 := hd 3 _ (by kernel_rfl) rfl
                    have hcv := run_str_ints (P := Try.prog) (w := w1) 22 9 5 Try.underlying22 Try.underlying5 Try.underlying9 A1' 19 stD (hIa.chg hR (fun _ _ _ h => h))
                    rw [stD_len] at hcv
                    exact StepR.pure (v := .string (strOfNums stD)) rfl rfl (by rw [ha]; simp only [putAll]; go_simp) (Chg.refl _ _) rfl
                  · intro us a w1 ha hR hd
                    exact StepR.pure (v := .slice (some ⟨b2, o2, none⟩) 1 1) rfl rfl (by rw [ha]; simp only [putAll]; go_simp) (Chg.refl _ _) rfl
                  · intro us a w1 ha hR hd
                    exact StepR.pure (v := .int .i64 0) rfl rfl (by rw [ha]; simp only [putAll]; go_simp) (Chg.refl _ _) rfl
                  · intro us a w1 ha hR hd
                    have e5 := hd 5 _ (by kernel_rfl) rfl
                    have e6 := hd 6 _ (by kernel_rfl) rfl
                    exact StepR.pure (v := .pointer (some ⟨b2, o2, none⟩)) rfl rfl (by rw [ha]; simp only [putAll]; go_simp) (Chg.refl _ _) rfl
                  · intro us a w1 ha hR hd
                    have e7 := hd 7 _ (by kernel_rfl) rfl
                    have k2 := (World.cell?_of_block (a := ⟨b2, o2, none⟩) (hR.block b2 kl2 (fun h => h))).trans kc2
                    exact StepR.pure (v := .slice A2' 19 19) rfl rfl (by rw [ha]; simp only [putAll]; go_simp) (Chg.refl _ _) rfl
                  · intro us a w1 ha hR hd
                    have e8 := hd 8 _ (by kernel_rfl) rfl
                    have hcv := run_str_ints (P := Try.prog) (w := w1) 22 9 5 Try.underlying22 Try.underlying5 Try.underlying9 A2' 19 stD (hIb.chg hR (fun _ _ _ h => h))
                    rw [stD_len] at hcv
                    exact StepR.pure (v := .string (strOfNums stD)) rfl rfl (by rw [ha]; simp only [putAll]; go_simp) (Chg.refl _ _) rfl
                  · intro us a w1 ha hR hd
                    have e4 := hd 4 _ (by kernel_rfl) rfl
                    have e9 := hd 9 _ (by kernel_rfl) rfl
                    exact StepR.pure (v := .bool false) rfl rfl (by rw [ha]; simp only [putAll]; go_simp) (Chg.refl _ _) rfl
                case done =>
                  intro us w1 hR hd
                  have e10 := hd 10 _ rfl
                  have hB1 : Below w12.heap.size w12 w1 := (hBr.drew).trans ((hR.below (Nat.le_refl _) (fun _ _ h => h)).mono (by exact hBr.size))
                  clear hd hR kc1 kc2 kl1 kl2 hIa hIb hBr
                  simp only [putAll]
                  go_simp
                  go_wp2
                  go_roundw
                  case rel => exact ⟨1, by omega, by go_num, hB1⟩
                  case measure => simp [intOf]
              · obtain rfl : k = 1 := by omega
                have hT13 := hT12.below hBr
                have hB13 := hB12.trans (hBr.mono hT12.size)
                have hI2r : Ints .u8 wr A2 data := hI2.below (by rw [HB0.out]; exact hB13)
                have hs19 : (strOfNums stRD).size = 19 := by rw [strOfNums_size', stRD_len]
                have hbs : bytesOf (strOfNums stRD) = stRD := bytesOf_str _ stRD_ok
                have HS19 := Lib.hid hs19
                have HBS := Lib.hid hbs
                clear HI1 HI2 hcell1 hcell2 hs19 hbs hT12 hB12 hlt hBr
                go_wp2_with (first
                  | (go_at_call 18; refine (refSegment_any ⟨5, 7, 0, 0, []⟩ none 0 wr Ints.nil (fun x h => by cases h) (by simp) (by decide)).mono ?_; rintro e w14 ⟨rfl, hb14⟩)
                  | (with_reducible refine wpList_conv rfl (.tmp 116) rfl (strOfNums stRD) 19 stRD rfl HS19.out HBS.out (by rw [HS19.out]; decide) ?_; intro Ay cy w15 hIy hcy1 hcy2 hb15 hfy))
                have hT15 := (hT13.below hb14).below hb15
                have hB15 : Below B W w15 := hB13.trans ((hb14.trans (hb15.mono hb14.size)).mono hT13.size)
                have hin := in_any B stP _ _ Ay 19 cy stRD 3 w15 hT15.e1 stP_ok hIy stRD_len stRD_ok hcy1 hcy2 (by decide)
                rw [stP_in] at hin
                refine hin.mono ?_
                intro e w16 hp
                obtain ⟨rfl, vi16, hT16, hc16, hb16⟩ := hT15.take hp
                have hB16 := hB15.trans hb16
                have hI216 := hI2.below (by rw [HB0.out]; exact hB16)
                have hst : Calls Try.prog 25 #[.pointer (some ⟨B, 0, none⟩)] w16 fun e w' => e = .returned (.int .i64 4) ∧ w16 = w' := state_any B stR _ _ w16 hT16.e1
                clear hin hp hT13 hB13 hT15 hB15 hb14 hb15 hb16 hIy hfy hc16
                go_wp2_with fail
                refine hst.mono ?_
                rintro e w17 ⟨rfl, rfl⟩
                have hwr := write_any B stR _ _ A2 data.length c2 data w16 hT16.e1 stR_ok hI216 rfl (by omega)
                clear hst
                go_wp2_with fail
                refine hwr.mono ?_
                intro e w17 hp
                obtain ⟨vo17, rfl, hT17, _, hb17⟩ := hT16.write hp
                rw [stR_write] at hT17
                have hcl := close_any B stR _ _ w17 hT17.e1
                rw [stR_close] at hcl
                have hB17 := hB16.trans hb17
                clear hwr hp hT16 hB16 hb17 hI216
                go_wp2_with fail
                refine hcl.mono ?_
                rintro e w18 ⟨rfl, hE18, hC18⟩
                obtain ⟨hT18, _, hb18⟩ := hT17.same hE18 hC18
                have hB18 := hB17.trans hb18
                clear hcl hT17 hE18 hC18 hb18
                go_wp2_with fail
                refine (out_at B stR stR _ _ 9 _ _ 0 stR_out rfl hT18.e1 stR_ok (by decide)).mono ?_
                rintro e w19 ⟨A19, rfl, _, hE19, hC19⟩
                obtain ⟨hT19, _, hb19⟩ := hT18.same hE19 hC19
                have hB19 := hB18.trans hb19
                have hz19 := hT19.size
                clear hT18 hE19 hC19 hb19 hT19
                go_wp2_with fail
                refine (awake18_any w19).mono ?_
                rintro e w20 ⟨rfl, hb20⟩
                go_wp2
                go_ret
                refine ⟨rfl, ?_⟩
                rw [HB0.out]
                exact hB19.trans (hb20.mono hz19)
  · have d0 : decide ((300 : Int) < (data.length : Int)) = true := decide_eq_true (by omega)
    have d0' : decide (300 < data.length) = true := decide_eq_true (by omega)
    have hz := hT.size
    clear hd hT
    go_wp2_with (go_at_call 19; refine (awake18_any w2).mono ?_; rintro e w20 ⟨rfl, hb20⟩)
    go_ret
    refine ⟨rfl, ?_⟩
    rw [HB0.out]
    exact hB.trans (hb20.mono hz)
end Go.Proofs.Ytoeipgbnjcgbjaa
