/- The document's Build walked. -/
import Derived.Test.YtndjebddgnmpfaaIdxRS
namespace Go.Proofs.Ytndjebddgnmpfaa
open Go.RowKit
set_option linter.unusedVariables false
set_option linter.unusedSimpArgs false

set_option maxRecDepth 100000 in
set_option maxHeartbeats 8000000 in
theorem rBuild_any (A0 : Option Addr) (N c0 : Nat) (L : List El) (p : ByteArray) (W : World) (hO : ObE W A0 L) (hN : L.length = N) (hcr : ∀ x ∈ L, 0 ≤ x.crc ∧ x.crc < 4294967296) (hid : ∀ x ∈ L, x.id.size ≤ 140737488355328) (hp : p.size ≤ 140737488355328) :
    Calls Try.prog 13 #[.slice A0 N c0, .string p] W (RBPost L p W) := by
  have HO := Lib.hid hO
  have HN := Lib.hid hN
  have HCR := Lib.hid hcr
  have HID := Lib.hid hid
  have HP := Lib.hid hp
  have HQ : Hid (∀ e w', RBPost L p W e w' ↔ (Below W.heap.size W w' ∧ (¬ BuildOk L p → e = .returned (.tuple #[.slice none 0 0, .int .i64 1])) ∧ (BuildOk L p → ∃ A c, e = .returned (.tuple #[.slice A (buildL (Srt.isort ltE L) (unV (bytesOf p))).length c, .int .i64 0]) ∧ Ints .u8 w' A (buildL (Srt.isort ltE L) (unV (bytesOf p)))))) := Lib.hid (fun e w' => Iff.rfl)
  generalize RBPost L p W = POST at *
  clear hO hN hcr hid hp
  obtain ⟨i0, hi, hz0, hz1, hz2⟩ := info_parts Try.info_u8
  have HI0 := Lib.hid hi
  have HZ0 := Lib.hid hz0
  have HZ1 := Lib.hid hz1
  have HZ2 := Lib.hid hz2
  clear hi hz0 hz1 hz2
  go_enter Try.func13, Try.ntmps13
  by_cases hlen : N ≤ 4096
  case neg =>
    have d1 : decide ((4096 : Int) < (N : Int)) = true := decide_eq_true (by omega)
    have d1' : decide (4096 < N) = true := decide_eq_true (by omega)
    go_wp2
    exact (HQ.out _ _).2 ⟨Below.refl _ _, (fun _ => rfl), fun h => absurd (by rw [← HN.out]; exact h.1) hlen⟩
  case pos =>
    have d1 : decide ((4096 : Int) < (N : Int)) = false := decide_eq_false (by omega)
    have d1' : decide (4096 < N) = false := decide_eq_false (by omega)
    have HH := Lib.hid (hashR_any p W HP.out)
    go_wp2_with fail
    refine HH.out.mono ?_
    rintro e w1 ⟨rfl, hb1⟩
    have HB1 := Lib.hid hb1
    clear hb1 HH
    cases hph : hashB (bytesOf p)
    · go_wp2
      exact (HQ.out _ _).2 ⟨HB1.out, (fun _ => rfl), fun h => by have := h.2.1; rw [hph] at this; cases this⟩
    · have HPH := Lib.hid hph
      clear hph d1 d1'
      have HOK : Hid (BuildOk L p ↔ GoodS (Srt.isort ltE L)) := Lib.hid ⟨fun h => h.2.2, fun h => ⟨by rw [HN.out]; exact hlen, HPH.out, h⟩⟩
      generalize BuildOk L p = OK at *
      go_wp2
      go_loopw [6] (fun vi wr => ∃ i : Nat, vi = .int .i64 i ∧ i ≤ N ∧ (∀ j x, j < i → L[j]? = some x → okO x = true) ∧ Below W.heap.size W wr) (fun vi _ => N - (intOf vi).toNat)
      case atStart => exact ⟨0, rfl, Nat.zero_le _, (fun j x hj => by omega), HB1.out⟩
      case round =>
        clear HB1
        obtain ⟨i, rfl, hiN, hok, hB⟩ := hrel
        by_cases hlt : i < N
        · skip
          have d1 : decide ((i : Int) < (N : Int)) = true := decide_eq_true (by omega)
          have d1' : decide (i < N) = true := decide_eq_true hlt
          obtain ⟨x, hx⟩ : ∃ x, L[i]? = some x := ⟨_, List.getElem?_eq_getElem (by rw [HN.out]; exact hlt)⟩
          have hxm := List.mem_of_getElem? hx
          obtain ⟨g, o, rfl, hg, hcell⟩ := HO.out (by rw [HN.out]; omega)
          have c2 : wr.cell? ⟨g, o + i * 5 + 2, none⟩ = some (.string x.id) := (hB.cell (p := ⟨g, o + i * 5 + 2, none⟩) hg).trans (hcell i 2 x hx (by decide))
          have c3 : wr.cell? ⟨g, o + i * 5 + 3, none⟩ = some (.int .i64 x.at_) := (hB.cell (p := ⟨g, o + i * 5 + 3, none⟩) hg).trans (hcell i 3 x hx (by decide))
          have HC3 : Hid (∀ w', Below wr.heap.size wr w' → w'.cell? ⟨g, o + i * 5 + 3, none⟩ = some (.int .i64 x.at_)) := Lib.hid (fun w' h => (h.cell (p := ⟨g, o + i * 5 + 3, none⟩) (Nat.lt_of_lt_of_le hg hB.size)).trans c3)
          obtain ⟨hv, hhv⟩ : ∃ hv, hashB (bytesOf x.id) = hv := ⟨_, rfl⟩
          have HH := Lib.hid (hashR_any x.id wr (HID.out x hxm))
          have HHV := Lib.hid hhv
          rw [hhv] at HH
          have HB := Lib.hid hB
          have HOKS := Lib.hid hok
          have hi2 : (i : Int) < (N : Int) := by omega
          have s1 : IntKind.i64.wrap ((i : Int) + 1) = ((i + 1 : Nat) : Int) := by rw [IntWalk.i64_in _ (by omega)]; omega
          have HBAD : Hid (okO x = false → ¬ OK) := Lib.hid (fun h hok => by
            have := (HOK.out.1 hok).all (Srt.mem_isort.2 hxm)
            rw [h] at this; cases this)
          have HXI := Lib.hid hx
          clear hx hxm hcell hg hB hok c3 hhv
          cases hv
          · go_wp2_with (go_at_call 33; refine HH.out.mono ?_; rintro e w5 ⟨rfl, hb5⟩)
            exact (HQ.out _ _).2 ⟨HB.out.trans (hb5.mono HB.out.size), (fun _ => rfl), fun h => absurd h (HBAD.out (by unfold okO; rw [HHV.out]; rfl))⟩
          · by_cases hneg : x.at_ < 0
            · have d4 : decide (x.at_ < 0) = true := decide_eq_true hneg
              go_wp2_with (go_at_call 33; refine HH.out.mono ?_; rintro e w5 ⟨rfl, hb5⟩; have c3 := HC3.out w5 hb5)
              exact (HQ.out _ _).2 ⟨HB.out.trans (hb5.mono HB.out.size), (fun _ => rfl), fun h => absurd h (HBAD.out (by unfold okO; rw [HHV.out, decide_eq_false (by omega : ¬ 0 ≤ x.at_)]; rfl))⟩
            · have d4 : decide (x.at_ < 0) = false := decide_eq_false hneg
              by_cases hbig : 4611686018427387904 < x.at_
              · have d5 : decide (4611686018427387904 < x.at_) = true := decide_eq_true hbig
                go_wp2_with (go_at_call 33; refine HH.out.mono ?_; rintro e w5 ⟨rfl, hb5⟩; have c3 := HC3.out w5 hb5)
                exact (HQ.out _ _).2 ⟨HB.out.trans (hb5.mono HB.out.size), (fun _ => rfl), fun h => absurd h (HBAD.out (by unfold okO; rw [HHV.out, decide_eq_false (by omega : ¬ x.at_ ≤ 4611686018427387904)]; simp))⟩
              · have d5 : decide (4611686018427387904 < x.at_) = false := decide_eq_false hbig
                have HOX : Hid (okO x = true) := Lib.hid (by unfold okO; rw [HHV.out, decide_eq_true (by omega : 0 ≤ x.at_), decide_eq_true (by omega : x.at_ ≤ 4611686018427387904)]; rfl)
                go_wp2_with (go_at_call 33; refine HH.out.mono ?_; rintro e w5 ⟨rfl, hb5⟩; have c3 := HC3.out w5 hb5)
                go_roundw
                case rel =>
                  refine ⟨i + 1, by go_num, by omega, fun j y hj hy => ?_, HB.out.trans (hb5.mono HB.out.size)⟩
                  by_cases hji : j = i
                  · subst hji
                    rw [HXI.out] at hy
                    injection hy with hy
                    rw [← hy]; exact HOX.out
                  · exact HOKS.out j y (by omega) hy
                case measure => simp [intOf]; omega
        · have d1 : decide ((i : Int) < (N : Int)) = false := decide_eq_false (by omega)
          have d1' : decide (i < N) = false := decide_eq_false hlt
          obtain rfl : N = i := by omega
          have HALL : Hid (∀ x ∈ Srt.isort ltE L, okO x = true ∧ (0 ≤ x.crc ∧ x.crc < 4294967296) ∧ x.id.size ≤ 140737488355328) := Lib.hid (fun x hx => by
            have hm := Srt.mem_isort.1 hx
            obtain ⟨j, hj, rfl⟩ := List.getElem_of_mem hm
            exact ⟨hok j _ (by rw [HN.out] at hj; exact hj) (List.getElem?_eq_getElem hj), HCR.out _ hm, HID.out _ hm⟩)
          have HSD := Lib.hid (sorted_any A0 N c0 L wr (fun hl => by
            obtain ⟨g, o, h1, h2, h3⟩ := HO.out hl
            exact ⟨g, o, h1, Nat.lt_of_lt_of_le h2 hB.size, fun i c x hx hc => (hB.cell (p := ⟨g, o + i * 5 + c, none⟩) h2).trans (h3 i c x hx hc)⟩) HN.out (by omega))
          have HB := Lib.hid hB
          have HSL : Hid ((Srt.isort ltE L).length = N) := Lib.hid (by rw [Srt.isort_length, HN.out])
          have HSS := Lib.hid (Srt.isort_sorted swoE L)
          clear hok hB HCR HID HO
          go_wp2_with (go_at_call 34; refine HSD.out.mono ?_; rintro e w2 ⟨As, cs, rfl, ho2, hb2⟩)
          have HB2 : Hid (Below W.heap.size W w2) := Lib.hid (HB.out.trans (hb2.mono HB.out.size))
          have HO2 : Hid (OwnS w2 W.heap.size 30 5 (.slice As N cs) N ((Srt.isort ltE L).flatMap encE)) := Lib.hid (ho2.base_ HB.out.size)
          clear ho2 hb2 HB HSD d1 d1'
          generalize Srt.isort ltE L = S at *
          go_loopw [8] (fun vi wr => ∃ i m : Nat, vi = .int .i64 i ∧ 1 ≤ i ∧ (i ≤ N ∨ i = 1) ∧ (∀ j, 0 < j → j < i → sameAt S j = false) ∧ wr = w2.drewN m) (fun vi _ => N + 1 - (intOf vi).toNat)
          case atStart => exact ⟨1, 0, rfl, Nat.le_refl _, .inr rfl, (fun j h1 h2 => by omega), rfl⟩
          case round =>
            obtain ⟨i, m, rfl, hi1, hiN, hsame, rfl⟩ := hrel
            by_cases hlt : i < N
            · skip
              have d1 : decide ((i : Int) < (N : Int)) = true := decide_eq_true (by omega)
              have d1' : decide (i < N) = true := decide_eq_true hlt
              obtain ⟨j, hij⟩ : ∃ j, i = j + 1 := ⟨i - 1, by omega⟩
              obtain ⟨x, hx⟩ : ∃ x, S[i]? = some x := ⟨_, List.getElem?_eq_getElem (by rw [HSL.out]; exact hlt)⟩
              obtain ⟨y, hy⟩ : ∃ y, S[j]? = some y := ⟨_, List.getElem?_eq_getElem (by rw [HSL.out]; omega)⟩
              obtain ⟨g, o, rfl, hg, hcell⟩ := ObE.of_own HO2.out (by rw [HSL.out]; omega)
              have cx : w2.cell? ⟨g, o + i * 5 + 2, none⟩ = some (.string x.id) := hcell i 2 x hx (by decide)
              have cy : w2.cell? ⟨g, o + j * 5 + 2, none⟩ = some (.string y.id) := hcell j 2 y hy (by decide)
              have s1 : IntKind.i64.wrap ((i : Int) + 1) = ((i + 1 : Nat) : Int) := by rw [IntWalk.i64_in _ (by omega)]; omega
              have s3 : (i : Int) - 1 = (j : Int) := by omega
              have ij0 : (0 : Int) ≤ (i : Int) := by omega
              have jj0 : (0 : Int) ≤ (j : Int) := by omega
              have hi2 : (i : Int) < (N : Int) := by omega
              have hj2 : (j : Int) < (N : Int) := by omega
              have HSM : Hid (sameAt S i = decide (y.id = x.id)) := Lib.hid (by have hx' := hx; rw [hij] at hx' ⊢; exact sameAt_succ hx' hy)
              have HSAME := Lib.hid hsame
              have HX := Lib.hid hx
              clear hx hy hcell hg hij hsame
              by_cases hs : y.id = x.id
              · have e1 : (x.id.toList == y.id.toList) = true := by rw [hs]; simp
                have HS1 : Hid (decide (y.id = x.id) = true) := Lib.hid (decide_eq_true hs)
                clear hs
                go_upto_region 12 with (fail)
                go_cut [78] (fun v wx => v = .bool true ∧ ∃ n, wx = w2.drewN n)
                case first => as_aux_lemma =>
                  go_wp2
                  go_quiet (fail)
                  go_wp2
                  go_meet
                  exact ⟨rfl, _, World.drewN_drewN _ _ _⟩
                case rest =>
                  obtain ⟨rfl, n, rfl⟩ := hcut
                  go_wp2
                  exact (HQ.out _ _).2 ⟨Below.drewN HB2.out n, (fun _ => rfl), fun h => absurd ((HOK.out.1 h) i (by rw [HSL.out]; exact hlt)) (by rw [badAt_some HX.out, HSM.out, HS1.out]; simp)⟩
              · have e1 : (x.id.toList == y.id.toList) = false := by
                  rw [beq_eq_false_iff_ne]
                  intro h
                  rw [ByteArray.toList_eq, ByteArray.toList_eq] at h
                  exact hs (ByteArray.ext (Array.toList_inj.1 h)).symm
                have HS1 : Hid (decide (y.id = x.id) = false) := Lib.hid (decide_eq_false hs)
                clear hs
                go_upto_region 12 with (fail)
                go_cut [78] (fun v wx => v = .bool false ∧ ∃ n, wx = w2.drewN n)
                case first => as_aux_lemma =>
                  go_wp2
                  go_quiet (fail)
                  go_wp2
                  go_meet
                  exact ⟨rfl, _, World.drewN_drewN _ _ _⟩
                case rest =>
                  obtain ⟨rfl, n, rfl⟩ := hcut
                  go_wp2
                  go_roundw
                  case rel =>
                    refine ⟨i + 1, n, by go_num, by omega, .inl (by omega), fun q hq hq2 => ?_, rfl⟩
                    by_cases hqi : q = i
                    · rw [hqi, HSM.out, HS1.out]
                    · exact HSAME.out q hq (by omega)
                  case measure => simp [intOf]; omega
            · have d1 : decide ((i : Int) < (N : Int)) = false := decide_eq_false (by omega)
              have d1' : decide (i < N) = false := decide_eq_false hlt
              have HGS : Hid (GoodS S) := Lib.hid (fun q hq => by
                have hq2 : q < N := by rw [HSL.out] at hq; exact hq
                rw [badAt_some (List.getElem?_eq_getElem hq), (HALL.out _ (List.getElem_mem hq)).1]
                by_cases h0 : q = 0
                · subst h0; rfl
                · rw [hsame q (by omega) (by omega)]; rfl)
              have HGO : Hid OK := Lib.hid (HOK.out.2 HGS.out)
              have hB3 := Below.drewN HB2.out m
              have hO3 := HO2.out.chg (S := fun _ => False) (Chg.of_below (Below.drewN (Below.refl _ _) m)) (fun _ _ h => h)
              clear hsame hi1 hiN HOK HB2 HO2
              generalize w2.drewN m = w3 at *
              have HB3 := Lib.hid hB3
              have HO3 := Lib.hid hO3
              clear hB3 hO3
              go_upto_region 16 with (fail)
              have hoA : OwnS (w3.alloc (.cells #[.int .u8 255, .int .u8 116, .int .u8 79, .int .u8 99, .int .u8 0, .int .u8 0, .int .u8 0, .int .u8 2] 5)) W.heap.size 5 1 (.slice (some ⟨w3.heap.size, 0, none⟩) 8 8) 8 (beginL.map (Value.int .u8)) :=
                ⟨rfl, .inr ⟨_, 0, 8, _, rfl, HB3.out.size, ⟨_, heap_alloc_new w3 _, .inl (Nat.le_refl _)⟩, Nat.le_refl _, by unfold maxLen; omega, Nat.le_refl _, rfl⟩⟩
              have hlA : Below W.heap.size W (w3.alloc (.cells #[.int .u8 255, .int .u8 116, .int .u8 79, .int .u8 99, .int .u8 0, .int .u8 0, .int .u8 0, .int .u8 2] 5)) := HB3.out.trans (((Below.refl _ _).alloc (Nat.le_refl _) _).mono HB3.out.size)
              have hBA := Bufs.first (W := W) (xs := beginL) 1 hlA hoA
              have hOA := HO3.out.alloc (.cells #[.int .u8 255, .int .u8 116, .int .u8 79, .int .u8 99, .int .u8 0, .int .u8 0, .int .u8 0, .int .u8 2] 5)
              clear hlA hoA HO3 HB3
              generalize w3.alloc (.cells #[.int .u8 255, .int .u8 116, .int .u8 79, .int .u8 99, .int .u8 0, .int .u8 0, .int .u8 0, .int .u8 2] 5) = wA at *
              generalize Value.slice (some ⟨w3.heap.size, 0, none⟩) 8 8 = vb at *
              have HBA := Lib.hid hBA
              have HOA := Lib.hid hOA
              have HLU : Hid (∀ x ∈ S, (uid x).length = 20) := Lib.hid (fun x hx => (okO_uid (HALL.out x hx).1).2.1)
              clear hBA hOA d1 d1'
              go_wp2
              go_loopw [11, 10] (fun vi vn wr => ∃ (k : Nat) (v1 : Value), vi = .int .i64 k ∧ v1 = vn ∧ k ≤ N ∧ Bufs W wr [(vb, beginL), (v1, namesL (S.take k))] ∧ OwnS wr W.heap.size 30 5 (.slice As N cs) N (S.flatMap encE)) (fun vi _ _ => N - (intOf vi).toNat)
              case atStart => exact ⟨0, _, rfl, rfl, Nat.zero_le _, HBA.out, HOA.out⟩
              case round =>
                clear HBA HOA
                obtain ⟨k, vn, rfl, rfl, hk, hB, hO⟩ := hrel
                by_cases hlt : k < N
                · skip
                  have d1 : decide ((k : Int) < (N : Int)) = true := decide_eq_true (by omega)
                  have d1' : decide (k < N) = true := decide_eq_true hlt
                  have hk2 : (k : Int) < (N : Int) := by omega
                  obtain ⟨x, hx⟩ : ∃ x, S[k]? = some x := ⟨_, List.getElem?_eq_getElem (by rw [HSL.out]; exact hlt)⟩
                  have hxm := List.mem_of_getElem? hx
                  obtain ⟨g, o, rfl, hg, hcell⟩ := ObE.of_own hO (by rw [HSL.out]; omega)
                  have c2 : wr.cell? ⟨g, o + k * 5 + 2, none⟩ = some (.string x.id) := hcell k 2 x hx (by decide)
                  have s1 : IntKind.i64.wrap ((k : Int) + 1) = ((k + 1 : Nat) : Int) := by rw [IntWalk.i64_in _ (by omega)]; omega
                  have HU := Lib.hid (unhexR_any x.id wr (HALL.out x hxm).2.2)
                  have HNX : Hid (namesL (S.take (k + 1)) = namesL (S.take k) ++ uid x) := Lib.hid (by rw [List.take_add_one, hx]; exact namesL_snoc _ _)
                  have HUL : Hid ((unV (bytesOf x.id)).length = 20) := Lib.hid (HLU.out x hxm)
                  have hln : (namesL (S.take k)).length ≤ 81920 := by
                    rw [namesL_len _ (fun y hy => HLU.out y (List.mem_of_mem_take hy)), List.length_take]; omega
                  have hm1 : (namesL (S.take k)).length + 20 ≤ maxLen := by unfold maxLen; omega
                  have hm2 : ((namesL (S.take k)).length + 20) * 1 ≤ 140737488355328 := by omega
                  obtain ⟨xn, hxn⟩ : ∃ xn, namesL (S.take k) = xn := ⟨_, rfl⟩
                  rw [hxn] at hB hm1 hm2
                  have HXN := Lib.hid hxn
                  have HB := Lib.hid hB
                  have HO := Lib.hid hO
                  have hi := HI0.out
                  have hz0 := HZ0.out
                  have hz1 := HZ1.out
                  have hz2 := HZ2.out
                  clear hx hxm hcell hg hB hO hln hxn
                  go_upto_region 20 with (go_at_call 35; refine HU.out.mono ?_; rintro e w5 ⟨Ai, ci, rfl, hI5, hb5⟩)
                  have hB5 := HB.out.below hb5
                  have HO5 := Lib.hid (HO.out.chg (Chg.of_below (S := fun _ => False) hb5) (fun _ _ h => h))
                  have hs5 := Src.ints (P := Try.prog) (c := ci) hI5
                  rw [HUL.out] at hs5 ⊢
                  have hg5 := hB5.get 1 rfl
                  have hsz5 := hB5.low.size
                  have HB5 := Lib.hid hB5
                  clear hI5 hB5 hb5
                  go_wp2_with (at_builtin; refine wpList_append_S rfl (.tmp 95) (.tmp 96) 24 24 rfl i0 _ 1 (.slice 5) Try.underlying24 Try.underlying24 (fun _ h => by cases h) hi hz0 hz1 hz2 rfl rfl rfl hg5 hs5 hm1 hm2 hsz5 ?_; intro A9 c9 w9 ho9 hg9 hw9)
                  go_roundw
                  case rel =>
                    have hB9 := HB5.out.app_S 1 rfl HUL.out ho9 hg9 hw9
                    refine ⟨k + 1, _, by go_num, rfl, by omega, ?_, HB5.out.keptRow 1 rfl hg9 HO5.out (by decide)⟩
                    rw [HNX.out, HXN.out]
                    exact hB9
                  case measure => simp [intOf]; omega
                · obtain rfl : N = k := by omega
                  have d1 : decide ((N : Int) < (N : Int)) = false := decide_eq_false (by omega)
                  have d1' : decide (N < N) = false := decide_eq_false (by omega)
                  have hTS : S.take N = S := List.take_of_length_le (by rw [HSL.out]; exact Nat.le_refl _)
                  rw [hTS] at hB
                  have HLN : Hid ((namesL S).length = 20 * N) := Lib.hid (by rw [namesL_len S HLU.out, HSL.out])
                  have HNA : Hid (∀ n x, S[n]? = some x → (namesL S).getD (20 * n) 0 = hd0 x) := Lib.hid (fun n x hx => by
                    have hc := chunk_flat uid 20 S HLU.out n x hx
                    unfold hd0
                    rw [← hc]
                    unfold chunk
                    rw [List.getD_eq_getElem?_getD, List.getD_eq_getElem?_getD, List.getElem?_take, if_pos (by decide), List.getElem?_drop]
                    rfl)
                  have HB := Lib.hid hB
                  have HO := Lib.hid hO
                  clear hB hO hTS hlt hk
                  have HBY : Hid (bodyL S (unV (bytesOf p)) = beginL ++ fanL S 256 ++ namesL S ++ crcsL S ++ placesL 0 S ++ farL S ++ unV (bytesOf p)) := Lib.hid rfl
                  generalize namesL S = xn at *
                  have HBL : Hid (∀ c, (beginL ++ fanL S c).length = 8 + 4 * c) := Lib.hid (fun c => by rw [List.length_append, fanL_len]; rfl)
                  obtain ⟨An, cn, rfl⟩ := (HB.out.get 1 rfl).shape
                  clear d1 d1'
                  go_wp2
                  go_loopw [15, 14, 9] (fun vi vm vb' wr => ∃ (c : Nat) (vb2 : Value), vi = .int .i64 c ∧ vm = .int .i64 ((cntLt S (c : Int) : Nat) : Int) ∧ vb2 = vb' ∧ c ≤ 256 ∧ Bufs W wr [(vb2, beginL ++ fanL S c), (.slice An xn.length cn, xn)] ∧ OwnS wr W.heap.size 30 5 (.slice As N cs) N (S.flatMap encE)) (fun vi _ _ _ => 256 - (intOf vi).toNat)
                  case atStart => exact ⟨0, _, rfl, by rw [show ((0 : Nat) : Int) = 0 from rfl, cntLt_zero]; rfl, rfl, Nat.zero_le _, by have := HB.out; simpa [fanL] using this, HO.out⟩
                  case round =>
                    clear HB HO
                    obtain ⟨c, vb2, rfl, rfl, rfl, hc256, hB, hO⟩ := hrel
                    by_cases hc : c < 256
                    · skip
                      have d1 : decide ((c : Int) < 256) = true := decide_eq_true (by omega)
                      have HB := Lib.hid hB
                      have HO := Lib.hid hO
                      have HMN := Lib.hid (cntLt_mono S (c := (c : Int)) (d := (c : Int) + 1) (by omega))
                      have HLE : Hid (cntLt S ((c : Int) + 1) ≤ N) := Lib.hid (by have := cntLt_le S ((c : Int) + 1); rw [HSL.out] at this; exact this)
                      have HFS : Hid (fanL S (c + 1) = fanL S c ++ beI ((cntLt S ((c : Int) + 1) : Nat) : Int)) := Lib.hid (fanL_succ S c)
                      have HCI : Hid (∀ n x, S[n]? = some x → (hd0 x ≤ (c : Int) ↔ n < cntLt S ((c : Int) + 1))) := Lib.hid (fun n x hx => HGS.out.cnt_iff HSS.out n x hx c)
                      have HCC : Hid (((c + 1 : Nat) : Int) = (c : Int) + 1) := Lib.hid (by omega)
                      have hbl := HBL.out c
                      have s2 : IntKind.i64.wrap ((c : Int) + 1) = ((c + 1 : Nat) : Int) := by rw [IntWalk.i64_in _ (by omega)]; omega
                      obtain ⟨M, hM⟩ : ∃ M, cntLt S ((c : Int) + 1) = M := ⟨_, rfl⟩
                      have HM := Lib.hid hM
                      rw [hM] at HMN HLE HFS HCI
                      obtain ⟨n0, hn0⟩ : ∃ n0, cntLt S (c : Int) = n0 := ⟨_, rfl⟩
                      rw [hn0] at HMN ⊢
                      clear hB hO hM hn0
                      go_wp2
                      go_loopw [14] (fun vm wz => ∃ n : Nat, vm = .int .i64 n ∧ n ≤ M ∧ wz = wr) (fun vm _ => N - (intOf vm).toNat)
                      case atStart => exact ⟨n0, rfl, HMN.out, rfl⟩
                      case round =>
                        obtain ⟨n, rfl, hnM, rfl⟩ := hrel
                        have hMN := HLE.out
                        go_upto_region 25 with (fail)
                        go_cut [115] (fun v wx => (∃ bb, v = .bool bb ∧ (bb = true → n < M) ∧ (bb = false → n = M)) ∧ wx = wr)
                        case first => as_aux_lemma =>
                          by_cases hn : n < N
                          · have d2 : decide ((n : Int) < (N : Int)) = true := decide_eq_true (by omega)
                            have d2' : decide (n < N) = true := decide_eq_true hn
                            obtain ⟨x, hx⟩ : ∃ x, S[n]? = some x := ⟨_, List.getElem?_eq_getElem (by rw [HSL.out]; exact hn)⟩
                            obtain ⟨q, hq⟩ : ∃ q : Nat, q = 20 * n := ⟨_, rfl⟩
                            have hqx : q < xn.length := by rw [HLN.out]; omega
                            obtain ⟨bn, on, hA, hbn, hcn⟩ := (HB.out.get 1 rfl).ints (by omega)
                            subst hA
                            have hh := hd0_ok (HLU.out x (List.mem_of_getElem? hx))
                            obtain ⟨h, hhe⟩ : ∃ h : Nat, hd0 x = (h : Int) := ⟨(hd0 x).toNat, by omega⟩
                            have cq : wr.cell? ⟨bn, on + q, none⟩ = some (.int .u8 (h : Int)) := by rw [hcn q hqx, hq, HNA.out n x hx, hhe]
                            have s1 : IntKind.i64.wrap (20 * (n : Int)) = (q : Int) := by rw [IntWalk.i64_in _ (by omega)]; omega
                            have s3 : IntKind.i64.wrap (h : Int) = (h : Int) := IntWalk.i64_in _ (by omega)
                            have hq2 : (q : Int) < (xn.length : Int) := by omega
                            have hiff := HCI.out n x hx
                            rw [hhe] at hiff
                            clear hcn hx hh hhe hbn hqx hq
                            by_cases hle : h ≤ c
                            · have d3 : decide ((h : Int) ≤ (c : Int)) = true := decide_eq_true (by omega)
                              have d3' : decide (h ≤ c) = true := decide_eq_true hle
                              have HR : Hid (n < M) := Lib.hid (hiff.1 (by omega))
                              clear hiff
                              go_wp2
                              go_meet
                              exact ⟨⟨true, rfl, (fun _ => HR.out), fun h => by cases h⟩, rfl⟩
                            · have d3 : decide ((h : Int) ≤ (c : Int)) = false := decide_eq_false (by omega)
                              have d3' : decide (h ≤ c) = false := decide_eq_false hle
                              have HR : Hid (n = M) := Lib.hid (by
                                by_cases hlt : n < M
                                · have := hiff.2 hlt; omega
                                · omega)
                              clear hiff
                              go_wp2
                              go_meet
                              exact ⟨⟨false, rfl, (fun h => by cases h), fun _ => HR.out⟩, rfl⟩
                          · have d2 : decide ((n : Int) < (N : Int)) = false := decide_eq_false (by omega)
                            have d2' : decide (n < N) = false := decide_eq_false hn
                            have HR : Hid (n = M) := Lib.hid (by omega)
                            clear hnM
                            go_wp2
                            go_meet
                            exact ⟨⟨false, rfl, (fun h => by cases h), fun _ => HR.out⟩, rfl⟩
                        case rest =>
                          obtain ⟨⟨bb, rfl, hb1, hb2⟩, rfl⟩ := hcut
                          cases bb
                          case true =>
                            have HR := Lib.hid (hb1 rfl)
                            have s1 : IntKind.i64.wrap ((n : Int) + 1) = ((n + 1 : Nat) : Int) := by rw [IntWalk.i64_in _ (by omega)]; omega
                            clear hb1 hb2
                            go_wp2
                            go_roundw
                            case rel => exact ⟨n + 1, by go_num, by have := HR.out; omega, by first | rfl | trivial⟩
                            case measure => have := HR.out; simp [intOf]; omega
                          case false =>
                            obtain rfl : M = n := (hb2 rfl).symm
                            have w1 : IntKind.u32.wrap (M : Int) = (M : Int) := IntWalk.u32_in _ (by omega)
                            have HW := Lib.hid (fun w => word_any (M : Int) w (by omega) (by omega))
                            have HBE : Hid (be4 (M : Int) = beI (M : Int)) := Lib.hid (beI_small _ (by omega) (by omega)).symm
                            have hm1 : (beginL ++ fanL S c).length + 4 ≤ maxLen := by unfold maxLen; omega
                            have hm2 : ((beginL ++ fanL S c).length + 4) * 1 ≤ 140737488355328 := by omega
                            clear hb1 hb2 hbl
                            go_wp2_with fail
                            refine (HW.out _).mono ?_
                            rintro e w5 ⟨A5, c5, rfl, ho5, hb5⟩
                            rw [HBE.out] at ho5 ⊢
                            have l5 : (beI (M : Int)).length = 4 := rfl
                            have hB5 := HB.out.below hb5
                            have HO5 := Lib.hid (HO.out.chg (Chg.of_below (S := fun _ => False) hb5) (fun _ _ h => h))
                            have hs5 := Src.ints (P := Try.prog) (c := c5) ho5.ints
                            rw [l5] at hs5 ⊢
                            have hg5 := hB5.get 0 rfl
                            have hsz5 := hB5.low.size
                            have HB5 := Lib.hid hB5
                            have hi := HI0.out
                            have hz0 := HZ0.out
                            have hz1 := HZ1.out
                            have hz2 := HZ2.out
                            clear ho5 hB5 hb5 l5 HW
                            go_wp2_with (at_builtin; refine wpList_append_S rfl (.tmp 118) (.tmp 121) 24 24 rfl i0 _ 1 (.slice 5) Try.underlying24 Try.underlying24 (fun _ h => by cases h) hi hz0 hz1 hz2 rfl rfl rfl hg5 hs5 hm1 hm2 hsz5 ?_; intro A9 c9 w9 ho9 hg9 hw9)
                            go_roundw
                            case rel =>
                              have hB9 := HB5.out.app_S 0 rfl rfl ho9 hg9 hw9
                              refine ⟨c + 1, _, by go_num, by rw [HCC.out, HM.out], rfl, by omega, ?_, HB5.out.keptRow 0 rfl hg9 HO5.out (by decide)⟩
                              rw [HFS.out, ← List.append_assoc]
                              have h := hB9
                              simp only [List.length_append] at h ⊢
                              exact h
                            case measure => simp [intOf]; omega
                    · obtain rfl : c = 256 := by omega
                      have d1 : decide (((256 : Nat) : Int) < 256) = false := rfl
                      have hbl := HBL.out 256
                      obtain ⟨x0, hx0⟩ : ∃ x0, beginL ++ fanL S 256 = x0 := ⟨_, rfl⟩
                      rw [hx0] at hbl hB
                      have HX0 := Lib.hid hx0
                      have hm1 : x0.length + xn.length ≤ maxLen := by rw [hbl, HLN.out]; unfold maxLen; omega
                      have hm2 : (x0.length + xn.length) * 1 ≤ 140737488355328 := by rw [hbl, HLN.out]; omega
                      have HL0 := Lib.hid hbl
                      clear hbl hx0
                      have hs5 := Src.ints (P := Try.prog) (c := cn) (hB.get 1 rfl).ints
                      have hg5 := hB.get 0 rfl
                      have hsz5 := hB.low.size
                      have HB := Lib.hid hB
                      have HO := Lib.hid hO
                      have hi := HI0.out
                      have hz0 := HZ0.out
                      have hz1 := HZ1.out
                      have hz2 := HZ2.out
                      clear hB hO
                      go_upto_region 29 with (at_builtin; refine wpList_append_S rfl (.tmp 123) (.tmp 124) 24 24 rfl i0 _ 1 (.slice 5) Try.underlying24 Try.underlying24 (fun _ h => by cases h) hi hz0 hz1 hz2 rfl rfl rfl hg5 hs5 hm1 hm2 hsz5 ?_; intro A9 c9 w9 ho9 hg9 hw9)
                      have hB9 := HB.out.app_S 0 rfl rfl ho9 hg9 hw9
                      have hO9 := HB.out.keptRow 0 rfl hg9 HO.out (by decide)
                      have HB := Lib.hid hB9
                      have HO := Lib.hid hO9
                      clear hB9 hO9 hs5 hg5 hsz5 hm1 hm2 hi hz0 hz1 hz2 ho9 hg9 hw9 d1
                      obtain ⟨y1, hy1⟩ : ∃ y1, x0 ++ xn = y1 := ⟨_, rfl⟩
                      have HY1 := Lib.hid hy1
                      have HLY : Hid (y1.length = 1032 + 20 * N) := Lib.hid (by rw [← hy1, List.length_append, HL0.out, HLN.out])
                      have hyl : x0.length + xn.length = y1.length := by rw [← hy1, List.length_append]
                      have HB : Hid (Bufs W w9 [(.slice A9 y1.length c9, y1), (.slice An xn.length cn, xn)]) := Lib.hid (by
                        have h := HB.out
                        rw [hyl, hy1] at h
                        exact h)
                      rw [hyl]
                      clear hyl hy1
                      generalize Value.slice A9 y1.length c9 = vb3 at *
                      go_wp2
                      go_loopw [16, 9] (fun vi vb' wr => ∃ (k : Nat) (vb4 : Value), vi = .int .i64 k ∧ vb4 = vb' ∧ k ≤ N ∧ Bufs W wr [(vb4, y1 ++ crcsL (S.take k)), (.slice An xn.length cn, xn)] ∧ OwnS wr W.heap.size 30 5 (.slice As N cs) N (S.flatMap encE)) (fun vi _ _ => N - (intOf vi).toNat)
                      case atStart => exact ⟨0, _, rfl, rfl, Nat.zero_le _, by have := HB.out; simpa [crcsL] using this, HO.out⟩
                      case round =>
                        clear HB HO
                        obtain ⟨k, vb4, rfl, rfl, hk, hB, hO⟩ := hrel
                        by_cases hlt : k < N
                        · skip
                          have d1 : decide ((k : Int) < (N : Int)) = true := decide_eq_true (by omega)
                          have d1' : decide (k < N) = true := decide_eq_true hlt
                          have hk2 : (k : Int) < (N : Int) := by omega
                          obtain ⟨x, hx⟩ : ∃ x, S[k]? = some x := ⟨_, List.getElem?_eq_getElem (by rw [HSL.out]; exact hlt)⟩
                          have hxm := List.mem_of_getElem? hx
                          have hcr := (HALL.out x hxm).2.1
                          obtain ⟨g, o, rfl, hg, hcell⟩ := ObE.of_own hO (by rw [HSL.out]; omega)
                          have c4 : wr.cell? ⟨g, o + k * 5 + 4, none⟩ = some (.int .u32 x.crc) := hcell k 4 x hx (by decide)
                          have s1 : IntKind.i64.wrap ((k : Int) + 1) = ((k + 1 : Nat) : Int) := by rw [IntWalk.i64_in _ (by omega)]; omega
                          have HNX : Hid (crcsL (S.take (k + 1)) = crcsL (S.take k) ++ beI x.crc) := Lib.hid (by rw [List.take_add_one, hx]; exact crcsL_snoc _ _)
                          have hln : (crcsL (S.take k)).length ≤ 16384 := by rw [crcsL_len, List.length_take]; omega
                          have hyy : (y1 ++ crcsL (S.take k)).length ≤ 200000 := by rw [List.length_append, HLY.out]; omega
                          obtain ⟨yy, hyy2⟩ : ∃ yy, y1 ++ crcsL (S.take k) = yy := ⟨_, rfl⟩
                          rw [hyy2] at hyy hB
                          have HYY := Lib.hid hyy2
                          have hm1 : yy.length + 4 ≤ maxLen := by unfold maxLen; omega
                          have hm2 : (yy.length + 4) * 1 ≤ 140737488355328 := by omega
                          have HW := Lib.hid (fun w => word_any x.crc w hcr.1 hcr.2)
                          have HBE : Hid (be4 x.crc = beI x.crc) := Lib.hid (beI_small _ hcr.1 hcr.2).symm
                          have HB := Lib.hid hB
                          have HO := Lib.hid hO
                          clear hx hxm hcell hg hB hO hln hyy hyy2 hcr
                          go_wp2_with fail
                          refine (HW.out _).mono ?_
                          rintro e w5 ⟨A5, c5, rfl, ho5, hb5⟩
                          rw [HBE.out] at ho5 ⊢
                          have l5 : (beI x.crc).length = 4 := rfl
                          have hB5 := HB.out.below hb5
                          have HO5 := Lib.hid (HO.out.chg (Chg.of_below (S := fun _ => False) hb5) (fun _ _ h => h))
                          have hs5 := Src.ints (P := Try.prog) (c := c5) ho5.ints
                          rw [l5] at hs5 ⊢
                          have hg5 := hB5.get 0 rfl
                          have hsz5 := hB5.low.size
                          have HB5 := Lib.hid hB5
                          have hi := HI0.out
                          have hz0 := HZ0.out
                          have hz1 := HZ1.out
                          have hz2 := HZ2.out
                          clear ho5 hB5 hb5 l5 HW
                          go_wp2_with (at_builtin; refine wpList_append_S rfl (.tmp 132) (.tmp 138) 24 24 rfl i0 _ 1 (.slice 5) Try.underlying24 Try.underlying24 (fun _ h => by cases h) hi hz0 hz1 hz2 rfl rfl rfl hg5 hs5 hm1 hm2 hsz5 ?_; intro A9 c9 w9 ho9 hg9 hw9)
                          go_roundw
                          case rel =>
                            have hB9 := HB5.out.app_S 0 rfl rfl ho9 hg9 hw9
                            refine ⟨k + 1, _, by go_num, rfl, by omega, ?_, HB5.out.keptRow 0 rfl hg9 HO5.out (by decide)⟩
                            rw [HNX.out, ← List.append_assoc, HYY.out]
                            exact hB9
                          case measure => simp [intOf]; omega
                        · obtain rfl : N = k := by omega
                          have d1 : decide ((N : Int) < (N : Int)) = false := decide_eq_false (by omega)
                          have d1' : decide (N < N) = false := decide_eq_false (by omega)
                          have hTS : S.take N = S := List.take_of_length_le (by rw [HSL.out]; exact Nat.le_refl _)
                          rw [hTS] at hB
                          obtain ⟨y2, hy2⟩ : ∃ y2, y1 ++ crcsL S = y2 := ⟨_, rfl⟩
                          have HLY2 : Hid (y2.length = 1032 + 24 * N) := Lib.hid (by rw [← hy2, List.length_append, HLY.out, crcsL_len, HSL.out]; omega)
                          rw [hy2] at hB
                          have HY2 := Lib.hid hy2
                          have HB3 := Lib.hid hB
                          have HO := Lib.hid hO
                          clear hB hO hTS hlt hk hy2
                          have hB0 := HB3.out.pair_nil 0 rfl
                          have HB := Lib.hid hB0
                          clear hB0 HB3
                          go_wp2
                          go_loopw [18, 9, 17] (fun vi vb' vf' wr => ∃ (k : Nat) (vb5 vf : Value), vi = .int .i64 k ∧ vb5 = vb' ∧ vf = vf' ∧ k ≤ N ∧ Bufs W wr [(vb5, y2 ++ placesL 0 (S.take k)), (vf, farL (S.take k))] ∧ OwnS wr W.heap.size 30 5 (.slice As N cs) N (S.flatMap encE)) (fun vi _ _ _ => N - (intOf vi).toNat)
                          case atStart => exact ⟨0, _, _, rfl, rfl, rfl, Nat.zero_le _, by have := HB.out; simpa [placesL, farL] using this, HO.out⟩
                          case round =>
                            clear HB HO
                            obtain ⟨k, vb5, vf, rfl, rfl, rfl, hk, hB, hO⟩ := hrel
                            by_cases hlt : k < N
                            · skip
                              have d1 : decide ((k : Int) < (N : Int)) = true := decide_eq_true (by omega)
                              have d1' : decide (k < N) = true := decide_eq_true hlt
                              have hk2 : (k : Int) < (N : Int) := by omega
                              obtain ⟨x, hx⟩ : ∃ x, S[k]? = some x := ⟨_, List.getElem?_eq_getElem (by rw [HSL.out]; exact hlt)⟩
                              have hxm := List.mem_of_getElem? hx
                              have hox := okO_uid (HALL.out x hxm).1
                              obtain ⟨g, o, rfl, hg, hcell⟩ := ObE.of_own hO (by rw [HSL.out]; omega)
                              have c3 : wr.cell? ⟨g, o + k * 5 + 3, none⟩ = some (.int .i64 x.at_) := hcell k 3 x hx (by decide)
                              have s1 : IntKind.i64.wrap ((k : Int) + 1) = ((k + 1 : Nat) : Int) := by rw [IntWalk.i64_in _ (by omega)]; omega
                              have hT : S.take (k + 1) = S.take k ++ [x] := by rw [List.take_add_one, hx]; rfl
                              have HNX : Hid (placesL 0 (S.take (k + 1)) = placesL 0 (S.take k) ++ placeV x (nfar (S.take k))) := Lib.hid (by rw [hT, placesL_snoc, Nat.zero_add])
                              have HNF : Hid (farL (S.take (k + 1)) = farL (S.take k) ++ farV x) := Lib.hid (by rw [hT, farL_snoc])
                              have hPV : placeV x (nfar (S.take k)) = if x.at_ < 2147483648 then beI x.at_ else beI (2147483648 + (nfar (S.take k) : Int)) := rfl
                              have hFV : farV x = if x.at_ < 2147483648 then [] else beI (x.at_ / 4294967296) ++ beI x.at_ := rfl
                              have hln : (placesL 0 (S.take k)).length ≤ 16384 := by rw [placesL_len, List.length_take]; omega
                              have hlf : (farL (S.take k)).length = 8 * nfar (S.take k) := farL_len _
                              have hnf : nfar (S.take k) ≤ 4096 := by have := nfar_le (S.take k); rw [List.length_take] at this; omega
                              have hyy : (y2 ++ placesL 0 (S.take k)).length ≤ 200000 := by rw [List.length_append, HLY2.out]; omega
                              obtain ⟨yy, hyy2⟩ : ∃ yy, y2 ++ placesL 0 (S.take k) = yy := ⟨_, rfl⟩
                              rw [hyy2] at hyy hB
                              have HYY := Lib.hid hyy2
                              obtain ⟨xf, hxf⟩ : ∃ xf, farL (S.take k) = xf := ⟨_, rfl⟩
                              rw [hxf] at hlf hB
                              have HXF := Lib.hid hxf
                              generalize nfar (S.take k) = nf at *
                              have hm1 : yy.length + 4 ≤ maxLen := by unfold maxLen; omega
                              have hm2 : (yy.length + 4) * 1 ≤ 140737488355328 := by omega
                              have hi := HI0.out
                              have hz0 := HZ0.out
                              have hz1 := HZ1.out
                              have hz2 := HZ2.out
                              have HAT := Lib.hid hox.2.2
                              have HB := Lib.hid hB
                              have HO := Lib.hid hO
                              clear hx hxm hcell hg hB hO hln hyy hyy2 hox hxf hT
                              by_cases hfar : x.at_ < 2147483648
                              · rw [if_pos hfar] at hPV hFV
                                have HPV := Lib.hid hPV
                                have HFV := Lib.hid hFV
                                have g1 : decide (2147483648 ≤ x.at_) = false := decide_eq_false (by omega)
                                have w1 : IntKind.u32.wrap x.at_ = x.at_ := IntWalk.u32_in _ (by have := HAT.out; omega)
                                have HW := Lib.hid (fun w => word_any x.at_ w HAT.out.1 (by omega))
                                have HBE : Hid (be4 x.at_ = beI x.at_) := Lib.hid (beI_small _ HAT.out.1 (by omega)).symm
                                clear hPV hFV hlf hnf
                                go_wp2_with fail
                                refine (HW.out _).mono ?_
                                rintro e w5 ⟨A5, c5, rfl, ho5, hb5⟩
                                rw [HBE.out] at ho5 ⊢
                                have l5 : (beI x.at_).length = 4 := rfl
                                have hB5 := HB.out.below hb5
                                have HO5 := Lib.hid (HO.out.chg (Chg.of_below (S := fun _ => False) hb5) (fun _ _ h => h))
                                have hs5 := Src.ints (P := Try.prog) (c := c5) ho5.ints
                                rw [l5] at hs5 ⊢
                                have hg5 := hB5.get 0 rfl
                                have hsz5 := hB5.low.size
                                have HB5 := Lib.hid hB5
                                clear ho5 hB5 hb5 l5 HW
                                go_wp2_with (at_builtin; refine wpList_append_S rfl (.tmp 171) (.tmp 173) 24 24 rfl i0 _ 1 (.slice 5) Try.underlying24 Try.underlying24 (fun _ h => by cases h) hi hz0 hz1 hz2 rfl rfl rfl hg5 hs5 hm1 hm2 hsz5 ?_; intro A9 c9 w9 ho9 hg9 hw9)
                                go_roundw
                                case rel =>
                                  have hB9 := HB5.out.app_S 0 rfl rfl ho9 hg9 hw9
                                  refine ⟨k + 1, _, _, by go_num, rfl, rfl, by omega, ?_, HB5.out.keptRow 0 rfl hg9 HO5.out (by decide)⟩
                                  rw [HNX.out, HNF.out, HPV.out, HFV.out, ← List.append_assoc, HYY.out, HXF.out, List.append_nil]
                                  exact hB9
                                case measure => simp [intOf]; omega
                              · rw [if_neg hfar] at hPV hFV
                                have HPV := Lib.hid hPV
                                have HFV := Lib.hid hFV
                                have g1 : decide (2147483648 ≤ x.at_) = true := decide_eq_true (by omega)
                                obtain ⟨Af, cf, rfl⟩ := (HB.out.get 1 rfl).shape
                                obtain ⟨wv, hwv⟩ : ∃ wv, IntKind.u32.wrap x.at_ = wv := ⟨_, rfl⟩
                                have s6 : IntKind.i64.wrap ((xf.length : Int) / 8) = (nf : Int) := by rw [IntWalk.i64_in _ (by omega)]; omega
                                have s7 : IntKind.u32.wrap (nf : Int) = (nf : Int) := IntWalk.u32_in _ (by omega)
                                have s8 : bits .or .u32 2147483648 (nf : Int) = 2147483648 + (nf : Int) := u32_or31 nf (by omega)
                                have HLG := Lib.hid (fun w => long_any x.at_ w HAT.out.1 HAT.out.2)
                                have hm3 : xf.length + 8 ≤ maxLen := by unfold maxLen; omega
                                have hm4 : (xf.length + 8) * 1 ≤ 140737488355328 := by omega
                                have HW := Lib.hid (fun w => word_any (2147483648 + (nf : Int)) w (by omega) (by omega))
                                have HBE : Hid (be4 (2147483648 + (nf : Int)) = beI (2147483648 + (nf : Int))) := Lib.hid (beI_small _ (by omega) (by omega)).symm
                                clear hPV hFV hlf hnf
                                go_wp2_with fail
                                refine (HLG.out _).mono ?_
                                rintro e w3 ⟨A3, c3', rfl, hI3, hb3⟩
                                have hB3 := HB.out.below hb3
                                have HO3 := Lib.hid (HO.out.chg (Chg.of_below (S := fun _ => False) hb3) (fun _ _ h => h))
                                have hs3 := Src.ints (P := Try.prog) (c := c3') hI3
                                have hg3 := hB3.get 1 rfl
                                have hsz3 := hB3.low.size
                                have HB3 := Lib.hid hB3
                                have l3 : (beI (x.at_ / 4294967296) ++ beI x.at_).length = 8 := rfl
                                rw [l3] at hs3
                                clear hI3 hB3 hb3 HLG s6 s7 s8 g1 l3
                                go_upto_region 41 with (at_builtin; refine wpList_append_S rfl (.tmp 163) (.tmp 169) 24 24 rfl i0 _ 1 (.slice 5) Try.underlying24 Try.underlying24 (fun _ h => by cases h) hi hz0 hz1 hz2 rfl rfl rfl hg3 hs3 hm3 hm4 hsz3 ?_; intro A9 c9 w9 ho9 hg9 hw9)
                                have hBf := HB3.out.app_S 1 rfl rfl ho9 hg9 hw9
                                have HO := Lib.hid (HB3.out.keptRow 1 rfl hg9 HO3.out (by decide))
                                have HB := Lib.hid hBf
                                clear hBf HO3 HB3 hs3 hg3 hsz3 hm3 hm4 ho9 hg9 hw9
                                go_wp2_with fail
                                refine (HW.out _).mono ?_
                                rintro e w5 ⟨A5, c5, rfl, ho5, hb5⟩
                                rw [HBE.out] at ho5 ⊢
                                have l5 : (beI (2147483648 + (nf : Int))).length = 4 := rfl
                                have hB5 := HB.out.below hb5
                                have HO5 := Lib.hid (HO.out.chg (Chg.of_below (S := fun _ => False) hb5) (fun _ _ h => h))
                                have hs5 := Src.ints (P := Try.prog) (c := c5) ho5.ints
                                rw [l5] at hs5 ⊢
                                have hg5 := hB5.get 0 rfl
                                have hsz5 := hB5.low.size
                                have HB5 := Lib.hid hB5
                                clear ho5 hB5 hb5 l5 HW
                                go_wp2_with (at_builtin; refine wpList_append_S rfl (.tmp 171) (.tmp 173) 24 24 rfl i0 _ 1 (.slice 5) Try.underlying24 Try.underlying24 (fun _ h => by cases h) hi hz0 hz1 hz2 rfl rfl rfl hg5 hs5 hm1 hm2 hsz5 ?_; intro A8 c8 w8 ho8 hg8 hw8)
                                go_roundw
                                case rel =>
                                  have hB9 := HB5.out.app_S 0 rfl rfl ho8 hg8 hw8
                                  refine ⟨k + 1, _, _, by go_num, rfl, rfl, by omega, ?_, HB5.out.keptRow 0 rfl hg8 HO5.out (by decide)⟩
                                  rw [HNX.out, HNF.out, HPV.out, HFV.out, ← List.append_assoc, HYY.out, HXF.out]
                                  exact hB9
                                case measure => simp [intOf]; omega
                            · obtain rfl : N = k := by omega
                              have d1 : decide ((N : Int) < (N : Int)) = false := decide_eq_false (by omega)
                              have d1' : decide (N < N) = false := decide_eq_false (by omega)
                              have hTS : S.take N = S := List.take_of_length_le (by rw [HSL.out]; exact Nat.le_refl _)
                              rw [hTS] at hB
                              have hlp := placesL_len S 0
                              have hlf := farL_len S
                              have hnf := nfar_le S
                              rw [HSL.out] at hlp hnf
                              have hly : (y2 ++ placesL 0 S).length = 1032 + 28 * N := by rw [List.length_append, HLY2.out, hlp]; omega
                              have hP20 : (unV (bytesOf p)).length = 20 := by
                                have := HPH.out
                                simp only [hashB, Bool.and_eq_true, decide_eq_true_eq] at this
                                exact this.2
                              have HUP := Lib.hid (fun w => unhexR_any p w HP.out)
                              have HPB : Hid (Bytes (unV (bytesOf p))) := Lib.hid (unV_ok _)
                              have HBD : Hid (bodyL S (unV (bytesOf p)) = y2 ++ placesL 0 S ++ farL S ++ unV (bytesOf p)) := Lib.hid (by rw [HBY.out, HX0.out, HY1.out, HY2.out])
                              have HBU : Hid (buildL S (unV (bytesOf p)) = bodyL S (unV (bytesOf p)) ++ shaAll (bodyL S (unV (bytesOf p)))) := Lib.hid rfl
                              have HBO := Lib.hid (bodyL_ok S _ HPB.out)
                              generalize hPE : unV (bytesOf p) = P at *
                              have HPE := Lib.hid hPE
                              clear hPE
                              generalize y2 ++ placesL 0 S = y3 at *
                              generalize farL S = xf at *
                              generalize bodyL S P = bl at *
                              obtain ⟨Af, cf, rfl⟩ := (hB.get 1 rfl).shape
                              have hm1 : y3.length + xf.length ≤ maxLen := by unfold maxLen; omega
                              have hm2 : (y3.length + xf.length) * 1 ≤ 140737488355328 := by omega
                              have hs5 := Src.ints (P := Try.prog) (c := cf) (hB.get 1 rfl).ints
                              have hg5 := hB.get 0 rfl
                              have hsz5 := hB.low.size
                              have hi := HI0.out
                              have hz0 := HZ0.out
                              have hz1 := HZ1.out
                              have hz2 := HZ2.out
                              have HL3 : Hid (y3.length + xf.length ≤ 200000) := Lib.hid (by omega)
                              have HP20 := Lib.hid hP20
                              have HB := Lib.hid hB
                              clear hB hO hTS hlp hlf hnf hly hP20 HBY HX0 HY1 HY2 HLY2 HLY HLN HNA HBL
                              go_upto_region 43 with (at_builtin; refine wpList_append_S rfl (.tmp 175) (.tmp 176) 24 24 rfl i0 _ 1 (.slice 5) Try.underlying24 Try.underlying24 (fun _ h => by cases h) hi hz0 hz1 hz2 rfl rfl rfl hg5 hs5 hm1 hm2 hsz5 ?_; intro A9 c9 w9 ho9 hg9 hw9)
                              have hB9 := HB.out.app_S 0 rfl rfl ho9 hg9 hw9
                              have hyl : y3.length + xf.length = (y3 ++ xf).length := List.length_append.symm
                              rw [hyl]
                              rw [hyl] at hB9
                              obtain ⟨y4, hy4⟩ : ∃ y4, y3 ++ xf = y4 := ⟨_, rfl⟩
                              have HY4 := Lib.hid hy4
                              have HL4 : Hid (y4.length ≤ 200000) := Lib.hid (by rw [← hy4, List.length_append]; exact HL3.out)
                              have HB9 : Hid (Bufs W w9 [(.slice A9 y4.length c9, y4), (.slice Af xf.length cf, xf)]) := Lib.hid (by rw [← hy4]; exact hB9)
                              rw [hy4]
                              clear hB9 hyl hy4 ho9 hg9 hw9 hs5 hg5 hsz5 hm1 hm2 HB
                              go_upto_region 44 with (go_at_call 35; refine (HUP.out _).mono ?_; rintro e w5 ⟨Ap, cp, rfl, hIp, hb5⟩)
                              rw [HPE.out] at hIp ⊢
                              have hB5 := HB9.out.below hb5
                              have hs5 := Src.ints (P := Try.prog) (c := cp) hIp
                              have hg5 := hB5.get 0 rfl
                              have hsz5 := hB5.low.size
                              have HB5 := Lib.hid hB5
                              rw [HP20.out] at hs5 ⊢
                              have hm1 : y4.length + 20 ≤ maxLen := by have := HL4.out; unfold maxLen; omega
                              have hm2 : (y4.length + 20) * 1 ≤ 140737488355328 := by have := HL4.out; omega
                              clear hIp hB5 hb5 HB9 HUP
                              go_upto_region 45 with (at_builtin; refine wpList_append_S rfl (.tmp 183) (.tmp 184) 24 24 rfl i0 _ 1 (.slice 5) Try.underlying24 Try.underlying24 (fun _ h => by cases h) hi hz0 hz1 hz2 rfl rfl rfl hg5 hs5 hm1 hm2 hsz5 ?_; intro A8 c8 w8 ho8 hg8 hw8)
                              have hB8 := HB5.out.app_S 0 rfl HP20.out ho8 hg8 hw8
                              have hbl : y4 ++ P = bl := by rw [HBD.out, HY4.out]
                              have hyl : y4.length + 20 = bl.length := by rw [← hbl, List.length_append, HP20.out]
                              rw [hyl]
                              have HB8 : Hid (Bufs W w8 [(.slice A8 bl.length c8, bl), (.slice Af xf.length cf, xf)]) := Lib.hid (by rw [← hyl, ← hbl]; exact hB8)
                              have HLB : Hid (bl.length ≤ 200020) := Lib.hid (by rw [← hyl]; have := HL4.out; omega)
                              clear hB8 hbl hyl ho8 hg8 hw8 hs5 hg5 hsz5 hm1 hm2 HB5
                              have hcv := run_str_ints (P := Try.prog) (w := w8) 24 9 5 Try.underlying24 Try.underlying5 Try.underlying9 A8 c8 bl (HB8.out.get 0 rfl).ints
                              have HSH := Lib.hid (refSum_any bl w8 HBO.out (by have := HLB.out; omega))
                              obtain ⟨SS, hSS⟩ : ∃ SS, strOfNums bl = SS := ⟨_, rfl⟩
                              rw [hSS] at hcv HSH
                              clear hSS
                              go_wp2_with fail
                              refine HSH.out.mono ?_
                              rintro e w5 ⟨A5, c5, rfl, ho5, hb5⟩
                              have hs5 := Src.ints (P := Try.prog) (c := c5) ho5.ints
                              rw [shaAll_len] at hs5 ⊢
                              have hB5 := HB8.out.below hb5
                              have hg5 := hB5.get 0 rfl
                              have hsz5 := hB5.low.size
                              have HB5 := Lib.hid hB5
                              have hm1 : bl.length + 20 ≤ maxLen := by have := HLB.out; unfold maxLen; omega
                              have hm2 : (bl.length + 20) * 1 ≤ 140737488355328 := by have := HLB.out; omega
                              clear ho5 hb5 hB5 HSH hcv HB8
                              go_wp2_with (at_builtin; refine wpList_append_S rfl (.tmp 186) (.tmp 189) 24 24 rfl i0 _ 1 (.slice 5) Try.underlying24 Try.underlying24 (fun _ h => by cases h) hi hz0 hz1 hz2 rfl rfl rfl hg5 hs5 hm1 hm2 hsz5 ?_; intro A9 c9 w9 ho9 hg9 hw9)
                              have hB9 := HB5.out.app_S 0 rfl (shaAll_len bl) ho9 hg9 hw9
                              refine (HQ.out _ _).2 ⟨hB9.low, (fun h => absurd HGO.out h), fun _ => ⟨A9, c9, ?_, ?_⟩⟩
                              · rw [HBU.out, List.length_append, shaAll_len]; rfl
                              · rw [HBU.out]
                                have h := (hB9.get 0 rfl)
                                rw [show (bl ++ shaAll bl).length = bl.length + 20 by rw [List.length_append, shaAll_len]] at h
                                exact h.ints
end Go.Proofs.Ytndjebddgnmpfaa
