/- idx.parse walked. -/
import Derived.Test.YtndjebddgnmpfaaIdxC
namespace Go.Proofs.Ytndjebddgnmpfaa
open Go.RowKit
set_option linter.unusedVariables false
set_option linter.unusedSimpArgs false

theorem idL_len {b : List Int} {i n : Nat} (h : 1072 + 28 * n ≤ b.length) (hi : i < n) : (idL b i).length = 20 := by
  unfold idL
  rw [List.length_take, List.length_drop]
  omega
theorem idL_ok {b : List Int} (hb : Bytes b) (i : Nat) : Bytes (idL b i) := (hb.drop _).take _
theorem fan_bd {b : List Int} (hb : Bytes b) (i : Nat) : 0 ≤ fan b i ∧ fan b i < 4294967296 := n4_bd hb _
theorem cntN_cast {b : List Int} (hb : Bytes b) : ((cntN b : Nat) : Int) = fan b 255 := by
  have := fan_bd hb 255
  unfold cntN
  omega
theorem head_iff (b : List Int) : headB b = true ↔ b.take 8 = magicL ∧ fansB b = true ∧ fan b 255 ≤ 4096 ∧ 1072 + 28 * cntN b ≤ b.length := by
  unfold headB
  simp
def ParseP (b : List Int) (w : World) (e : Ending) (w' : World) : Prop :=
  ∃ v : Value, e = .returned (.tuple #[v, .bool (accB b)]) ∧ (accB b = true → ∃ A cc, v = .slice A (cntN b) cc ∧ ObsAt w' A (entsL b)) ∧ Below w.heap.size w w'
theorem ParseP.no {b : List Int} {w w' : World} {v : Value} (h : accB b = false) (hb : Below w.heap.size w w') : ParseP b w (.returned (.tuple #[v, .bool false])) w' :=
  ⟨v, by rw [h], (fun h' => by rw [h] at h'; cases h'), hb⟩
theorem head_no {b : List Int} (h : headB b = false) : accB b = false := by unfold accB; rw [h]; rfl
theorem fan_stored2 {w : World} {g k k' : Nat} {b : List Int} (h : Cel w g 58 256 (fun j => if 0 ≤ j ∧ j < 0 + (fanA b k).size then (fanA b k).getD (j - 0) undef else fanF b k' j)) : Cel w g 58 256 (fanF b k) :=
  h.congr fun i hi => by
    rw [fanA_size, if_pos ⟨by omega, by omega⟩, Nat.sub_zero, Array.getD_eq_getD_getElem?, fanA_at b k i hi]
    rfl
def entAt (b : List Int) (n i : Nat) (v : Int) : Ent := ⟨hexL (idL b i), v, crcA b n i⟩
theorem badO_eval {b : List Int} {i : Nat} {x y z : Bool} (hx : (decide (0 < i) && !ltL (idL b (i - 1)) (idL b i)) = x) (hy : decide (fan b (id0 b i) ≤ (i : Int)) = y) (hz : (decide (0 < id0 b i) && decide ((i : Int) < fan b (id0 b i - 1))) = z) : badO b i = (x || y || z) := by
  unfold badO
  rw [hx, hy, hz]
theorem badO_x {b : List Int} {i : Nat} (hx : (decide (0 < i) && !ltL (idL b (i - 1)) (idL b i)) = true) : badO b i = true := by
  unfold badO
  rw [hx]
  rfl
theorem badO_y {b : List Int} {i : Nat} (hy : decide (fan b (id0 b i) ≤ (i : Int)) = true) : badO b i = true := by
  unfold badO
  rw [hy]
  cases (decide (0 < i) && !ltL (idL b (i - 1)) (idL b i)) <;> rfl
theorem acc_no {b : List Int} {n i : Nat} (h : okToB b n (i + 1) = false) (hi : i < n) (hn : cntN b = n) : accB b = false := by
  unfold accB
  rw [hn, okToB_false h hi]
  cases headB b <;> rfl
theorem acc_badO {b : List Int} {n i : Nat} (h : badO b i = true) (hi : i < n) (hn : cntN b = n) : accB b = false := acc_no (by rw [okToB_succ, h]; cases okToB b n i <;> rfl) hi hn
theorem acc_badF {b : List Int} {n i : Nat} (h : badF b n i = true) (hi : i < n) (hn : cntN b = n) : accB b = false := acc_no (by rw [okToB_succ, h]; cases okToB b n i <;> cases badO b i <;> rfl) hi hn
theorem ok_next {b : List Int} {n i : Nat} (h : okToB b n i = true) (h1 : badO b i = false) (h2 : badF b n i = false) : okToB b n (i + 1) = true := by rw [okToB_succ, h, h1, h2]; rfl
/-- An entry that lies near. -/
theorem near_ {b : List Int} {n i : Nat} (h : ¬ 2147483648 ≤ atV b n i) : badF b n i = false ∧ farN b n (i + 1) = farN b n i ∧ entV b n i = entAt b n i (atV b n i) := by
  refine ⟨by unfold badF; rw [decide_eq_false h]; rfl, by rw [farN, if_neg h, Nat.add_zero], ?_⟩
  unfold entV entAt locV
  rw [if_neg h]
theorem far_ {b : List Int} {n i : Nat} (h : 2147483648 ≤ atV b n i) : farN b n (i + 1) = farN b n i + 1 ∧ entV b n i = entAt b n i (bigV b n (farN b n i)) := by
  refine ⟨by rw [farN, if_pos h], ?_⟩
  unfold entV entAt locV
  rw [if_pos h]
theorem badF_far {b : List Int} {n i : Nat} (h : 2147483648 ≤ atV b n i) : badF b n i = (decide (atV b n i ≠ 2147483648 + farN b n i) || (decide (bigV b n (farN b n i) < 2147483648) || decide (4611686018427387904 < bigV b n (farN b n i)))) := by
  unfold badF
  rw [decide_eq_true h]
  rfl
theorem acc_short {b : List Int} {n i : Nat} (h : 2147483648 ≤ atV b n i) (hi : i < n) (hn : cntN b = n) (hl : b.length < 1032 + 28 * n + 8 * farN b n i + 8 + 40) : accB b = false := by
  have h1 := (far_ h).1
  have h2 := farN_mono b n (i := i + 1) (j := n) hi
  have : wholeB b = false := by
    unfold wholeB
    rw [hn]
    exact decide_eq_false (by omega)
  unfold accB
  rw [this]
  cases headB b <;> cases okToB b (cntN b) (cntN b) <;> rfl
/-- What holds while a place is written anew beside calls that only read. -/
def IAt (w0 : World) (ob : Nat) (v : Int) : List Value → World → Prop
  | [], w => Below w0.heap.size w0 w
  | _ :: _, w => ∃ w9, Below w0.heap.size w0 w9 ∧ w = w9.setCell ⟨ob, 3, none⟩ (.int .i64 v)
theorem entF_at (b : List Int) (n i : Nat) (u v : Int) (c : Nat) (hc : c < 5) : (if c = 3 then Value.int .i64 v else entF (entAt b n i u) c) = entF (entAt b n i v) c := by
  rcases c with _ | _ | _ | _ | _ | c <;> first | rfl | omega
theorem big_ge {b : List Int} (hb : Bytes b) (n f : Nat) (h : 128 ≤ b.getD (1032 + 28 * n + 8 * f) 0) : 4611686018427387904 < bigV b n f := by
  have h1 := n4_bd hb (1032 + 28 * n + 8 * f + 4)
  have key : ∀ j, 0 ≤ b.getD j 0 ∧ b.getD j 0 < 256 := fun j => by
    by_cases hj : j < b.length
    · exact hb.at_ j hj
    · rw [List.getD_eq_getElem?_getD, List.getElem?_eq_none (by omega)]; simp
  have h2 := key (1032 + 28 * n + 8 * f + 1)
  have h3 := key (1032 + 28 * n + 8 * f + 2)
  have h4 := key (1032 + 28 * n + 8 * f + 3)
  have h5 : n4 b (1032 + 28 * n + 8 * f) = b.getD (1032 + 28 * n + 8 * f) 0 * 16777216 + b.getD (1032 + 28 * n + 8 * f + 1) 0 * 65536 + b.getD (1032 + 28 * n + 8 * f + 2) 0 * 256 + b.getD (1032 + 28 * n + 8 * f + 3) 0 := rfl
  unfold bigV
  omega
theorem hi_lt {b : List Int} (hb : Bytes b) (p : Nat) (h : b.getD p 0 < 128) (hp : p < b.length) : n4 b p < 2147483648 := by
  have key : ∀ j, 0 ≤ b.getD j 0 ∧ b.getD j 0 < 256 := fun j => by
    by_cases hj : j < b.length
    · exact hb.at_ j hj
    · rw [List.getD_eq_getElem?_getD, List.getElem?_eq_none (by omega)]; simp
  have h2 := key (p + 1)
  have h3 := key (p + 2)
  have h4 := key (p + 3)
  unfold n4
  omega
set_option maxRecDepth 100000 in
set_option maxHeartbeats 16000000 in
theorem parse_any (blk off N c : Nat) (b : List Int) (w : World) (hI : Ints .u8 w (some ⟨blk, off, none⟩) b) (hN : b.length = N) (hb : Bytes b) (hl : 1072 ≤ N) (hc : N ≤ c) (hcm : c ≤ 9223372036854775807) (hsz : N ≤ 140737488355000) :
    Calls Try.prog 38 #[.slice (some ⟨blk, off, none⟩) N c] w (ParseP b w) := by
  have HF := Lib.hid (fans_any blk off N c b w hI hN hb hl hc hcm)
  have HI := Lib.hid hI
  have HN := Lib.hid hN
  have HB := Lib.hid hb
  clear hI hN hb
  go_enter Try.func38, Try.ntmps38
  go_wp2_with fail
  refine HF.out.mono ?_
  rintro e w1 ⟨k, rfl, hk, hb1⟩
  have HK := Lib.hid hk
  have HB1 := Lib.hid hb1
  clear hk hb1
  have hC0 := fan_new b w1
  have z1 := fan_info b k
  go_upto_region 3 with (refine wpList_store_part (vs := fanA b k) (off := 0) rfl (.tmp 4) (.tmp 16) rfl rfl rfl hC0 z1 (by rw [fanA_size]; exact Nat.le_refl _) (fanA_one b k) ?_; intro w2 hC2 hg2 hs2; have hC3 := fan_stored2 hC2; have c255 := hC3.cell 255 (by decide))
  have hB2 : Below w.heap.size w w2 := (HB1.out.alloc HB1.out.size (.cells Try.zeroCells58 58)).grown hg2 (by have := HB1.out.size; simp; omega) (fun k h => by injection h with h; rw [← h]; exact HB1.out.size)
  obtain ⟨gc, hgc⟩ : ∃ gc, w1.heap.size = gc := ⟨_, rfl⟩
  rw [hgc] at hC3 ⊢
  have HC := Lib.hid hC3
  have HB2 := Lib.hid hB2
  have hgl : w.heap.size ≤ gc := by rw [← hgc]; exact HB1.out.size
  clear hC0 hC2 hC3 hB2 hg2 hs2 z1 hgc HF HB1 c255
  have HBD := Lib.hid (fan_bd HB.out 255)
  obtain ⟨nv, hnv⟩ : ∃ nv : Int, fanF b k 255 = .int .i64 nv ∧ (fansB b = true → nv = fan b 255) := by
    unfold fanF
    by_cases c : 255 < k
    · rw [if_pos c]; exact ⟨_, rfl, fun _ => rfl⟩
    · rw [if_neg c]; exact ⟨0, rfl, fun h => by have := HK.out h; omega⟩
  obtain ⟨hnv, hnf⟩ := hnv
  rw [hnv]
  have HNF := Lib.hid hnf
  have hr : (convert 24 9 (.slice (some ⟨blk, off, none⟩) 8 c)).run Try.prog w2 = .ok (.string (strOfNums (b.take 8))) w2 := by
    have h8 : (b.take 8).length = 8 := by rw [List.length_take, HN.out]; omega
    have := run_str_ints (P := Try.prog) (w := w2) 24 9 5 Try.underlying24 Try.underlying5 Try.underlying9 (some ⟨blk, off, none⟩) c (b.take 8) ((HI.out.below HB2.out).take 8)
    rw [h8] at this
    exact this
  clear hnf hnv
  go_cut [5, 6, 35] (fun v5 v6 v wx => v = .bool (!headB b) ∧ (headB b = true → v6 = .int .i64 (cntN b)) ∧ wx = w2)
  case first => as_aux_lemma =>
    by_cases hm : b.take 8 = magicL
    · rw [hm] at hr
      have hS : strOfNums magicL = ⟨#[255, 116, 79, 99, 0, 0, 0, 2]⟩ := by kernel_rfl
      rw [hS] at hr
      cases hok : (fansB b && decide (fan b 255 ≤ 4096))
      · have HH : Hid (headB b = false) := by
          show _ = _
          cases h : headB b
          · rfl
          · obtain ⟨_, h2, h3, _⟩ := (head_iff b).1 h
            rw [h2, decide_eq_true h3] at hok
            cases hok
        clear hm
        go_wp2
        go_meet
        exact ⟨by rw [HH.out]; rfl, (fun h => by rw [HH.out] at h; cases h), rfl⟩
      · rw [Bool.and_eq_true, decide_eq_true_eq] at hok
        obtain ⟨hok1, hok2⟩ := hok
        obtain rfl : nv = fan b 255 := HNF.out hok1
        have hcn := cntN_cast HB.out
        rw [← hcn] at hok2 ⊢
        obtain ⟨n, hn⟩ : ∃ n, cntN b = n := ⟨_, rfl⟩
        have HNN := Lib.hid hn
        rw [hn] at hok2 ⊢
        have s1 : IntKind.i64.wrap (28 * (n : Int)) = 28 * (n : Int) := IntWalk.i64_in _ (by omega)
        have s2 : IntKind.i64.wrap (1072 + 28 * (n : Int)) = 1072 + 28 * (n : Int) := IntWalk.i64_in _ (by omega)
        have HH : Hid (headB b = decide (1072 + 28 * n ≤ N)) := by
          show _ = _
          rw [Bool.eq_iff_iff, head_iff, decide_eq_true_eq, hn, HN.out, ← hcn, hn]
          exact ⟨fun h => h.2.2.2, fun h => ⟨hm, hok1, hok2, h⟩⟩
        by_cases hle : 1072 + 28 * n ≤ N
        · have d1 : decide ((N : Int) < 1072 + 28 * (n : Int)) = false := decide_eq_false (by omega)
          rw [decide_eq_true hle] at HH
          clear hm hn hcn hok1
          go_wp2
          go_meet
          exact ⟨by rw [HH.out]; rfl, (fun _ => by rw [HNN.out]), rfl⟩
        · have d1 : decide ((N : Int) < 1072 + 28 * (n : Int)) = true := decide_eq_true (by omega)
          rw [decide_eq_false hle] at HH
          clear hm hn hcn hok1
          go_wp2
          go_meet
          exact ⟨by rw [HH.out]; rfl, (fun _ => by rw [HNN.out]), rfl⟩
    · have HH : Hid (headB b = false) := by
        show _ = _
        cases h : headB b
        · rfl
        · exact absurd ((head_iff b).1 h).1 hm
      have hne : strOfNums (b.take 8) ≠ ⟨#[255, 116, 79, 99, 0, 0, 0, 2]⟩ := fun e => hm (by
        have h1 := bytesOf_str (b.take 8) (HB.out.take 8)
        rw [e] at h1
        exact h1.symm)
      generalize strOfNums (b.take 8) = S at *
      have hne1 : ¬ S.toList = [255, 116, 79, 99, 0, 0, 0, 2] := fun e => hne (WideShapes.bytes_inj (by
        rw [ByteArray.toList_eq] at e
        exact e))
      clear hm hne
      go_wp2
      go_meet
      exact ⟨by rw [HH.out]; rfl, (fun h => by rw [HH.out] at h; cases h), rfl⟩
  case rest =>
    obtain ⟨rfl, hv6, hw⟩ := hcut
    obtain rfl : w2 = wc := hw.symm
    cases hh : headB b
    · have HA := Lib.hid (head_no hh)
      clear hh hv6 hr
      go_wp2
      go_ret2
      exact ParseP.no HA.out HB2.out
    · have hv7 := hv6 hh
      subst hv7
      obtain ⟨h1, h2, h3, h4⟩ := (head_iff b).1 hh
      obtain rfl : k = 256 := HK.out h2
      have hcn := cntN_cast HB.out
      obtain ⟨n, hn⟩ : ∃ n, cntN b = n := ⟨_, rfl⟩
      rw [hn] at hcn h4 ⊢
      have hn4 : n ≤ 4096 := by omega
      rw [HN.out] at h4
      have HH := Lib.hid hh
      have HNN := Lib.hid hn
      have HUP := Lib.hid h2
      clear hv6 hr hh h1 h2 h3 hcn hn
      have hE : ∀ j, locV b n j = locV b n j := fun _ => rfl
      clear hE
      obtain ⟨w3, hrun, hC3, hg3⟩ := make_objs w2 (entV b n) n hn4
      have hB3 : Below w.heap.size w w3 := HB2.out.grown hg3 HB2.out.size (by simp)
      have hCf3 : Cel w3 gc 58 256 (fanF b 256) := HC.out.same (hg3.block gc HC.out.blk (by simp))
      have hgco : gc ≠ w2.heap.size := by have := HC.out.blk; omega
      have HCF3 := Lib.hid hCf3
      have HC3 := Lib.hid hC3
      have HB3 := Lib.hid hB3
      have hgw : w.heap.size ≤ w2.heap.size := HB2.out.size
      clear hB3 hCf3 hC3 hg3
      go_wp2
      clear hrun
      generalize w2.heap.size = go at *
      go_loopw [8, 40] (fun fv iv wr => ∃ i : Nat, iv = .int .i64 i ∧ fv = .int .i64 (farN b n i) ∧ i ≤ n ∧ okToB b n i = true ∧ Cel wr gc 58 256 (fanF b 256) ∧ Cel wr go 30 (n * 5) (outF (entV b n) i) ∧ Below w.heap.size w wr) (fun _ iv _ => n - (intOf iv).toNat)
      case atStart => exact ⟨0, rfl, rfl, Nat.zero_le _, rfl, HCF3.out, HC3.out, HB3.out⟩
      case round =>
        clear HCF3 HC3 HB3 HC HB2
        obtain ⟨i, rfl, rfl, hin, hok, hCf, hCo, hBl⟩ := hrel
        have HOK := Lib.hid hok
        have HCF := Lib.hid hCf
        have HCO := Lib.hid hCo
        have HBL := Lib.hid hBl
        have hf0 := farN_le b n i
        obtain ⟨f, hf⟩ : ∃ f, farN b n i = f := ⟨_, rfl⟩
        rw [hf] at hf0 ⊢
        have HFN := Lib.hid hf
        clear hok hCf hCo hBl hf
        by_cases hlt : i < n
        · have d1 : decide ((i : Int) < (n : Int)) = true := decide_eq_true (by omega)
          have d1' : decide (i < n) = true := decide_eq_true hlt
          obtain ⟨p1, hp1⟩ : ∃ p1, 1032 + 20 * i = p1 := ⟨_, rfl⟩
          obtain ⟨p3, hp3⟩ : ∃ p3, 1032 + 20 * n + 4 * i = p3 := ⟨_, rfl⟩
          obtain ⟨p4, hp4⟩ : ∃ p4, 1032 + 24 * n + 4 * i = p4 := ⟨_, rfl⟩
          have hq1 : p1 + 20 ≤ N ∧ p3 + 4 ≤ N ∧ p4 + 4 ≤ N := by omega
          have s1 : IntKind.i64.wrap (20 * (i : Int)) = 20 * (i : Int) := IntWalk.i64_in _ (by omega)
          have s2 : IntKind.i64.wrap (1032 + 20 * (i : Int)) = (p1 : Int) := by rw [IntWalk.i64_in _ (by omega)]; omega
          have s3 : IntKind.i64.wrap ((p1 : Int) + 20) = ((p1 + 20 : Nat) : Int) := by rw [IntWalk.i64_in _ (by omega)]; omega
          have s4 : IntKind.i64.wrap (20 * (n : Int)) = 20 * (n : Int) := IntWalk.i64_in _ (by omega)
          have s5 : IntKind.i64.wrap (1032 + 20 * (n : Int)) = 1032 + 20 * (n : Int) := IntWalk.i64_in _ (by omega)
          have s6 : IntKind.i64.wrap (4 * (i : Int)) = 4 * (i : Int) := IntWalk.i64_in _ (by omega)
          have s7 : IntKind.i64.wrap (1032 + 20 * (n : Int) + 4 * (i : Int)) = (p3 : Int) := by rw [IntWalk.i64_in _ (by omega)]; omega
          have s8 : IntKind.i64.wrap (24 * (n : Int)) = 24 * (n : Int) := IntWalk.i64_in _ (by omega)
          have s9 : IntKind.i64.wrap (1032 + 24 * (n : Int)) = 1032 + 24 * (n : Int) := IntWalk.i64_in _ (by omega)
          have s10 : IntKind.i64.wrap (1032 + 24 * (n : Int) + 4 * (i : Int)) = (p4 : Int) := by rw [IntWalk.i64_in _ (by omega)]; omega
          have c1 : ¬ c = p1 := by omega
          have c3 : ¬ c = p3 := by omega
          have c4 : ¬ c = p4 := by omega
          have t1 : p1 + 20 - p1 = 20 := by omega
          have HP1 := Lib.hid hp1
          have HP3 := Lib.hid hp3
          have HP4 := Lib.hid hp4
          clear hp1 hp3 hp4
          go_upto_region 11 with (fail)
          rw [t1]
          go_cut [11] (fun v wx => ∃ ob, v = .pointer (some ⟨ob, 0, none⟩) ∧ Cel wx ob 30 5 (entF (entAt b n i (atV b n i))) ∧ wr.heap.size ≤ ob ∧ Below wr.heap.size wr wx)
          case first => as_aux_lemma =>
            have HIDL : Hid ((idL b i).length = 20) := idL_len (n := n) (by rw [HN.out]; exact h4) hlt
            have HX1 := Lib.hid (fun W (hW : Below wr.heap.size wr W) => hex_any (some ⟨blk, off + p1, none⟩) 20 (c - p1) (idL b i) W (by have := ((HI.out.below (HBL.out.trans (hW.mono HBL.out.size))).drop p1).take 20; rw [← HP1.out] at this ⊢; exact this) HIDL.out (idL_ok HB.out i) (by decide))
            have HX2 := Lib.hid (fun W (hW : Below wr.heap.size wr W) => inumber_any (some ⟨blk, off + p3, none⟩) (N - p3) (c - p3) (b.drop p3) W ((HI.out.below (HBL.out.trans (hW.mono HBL.out.size))).drop p3) (by rw [List.length_drop, HN.out]) (by omega) (HB.out.drop p3))
            have HX3 := Lib.hid (fun W (hW : Below wr.heap.size wr W) => inumber_any (some ⟨blk, off + p4, none⟩) (N - p4) (c - p4) (b.drop p4) W ((HI.out.below (HBL.out.trans (hW.mono HBL.out.size))).drop p4) (by rw [List.length_drop, HN.out]) (by omega) (HB.out.drop p4))
            have e3 : n4 (b.drop p3) 0 = crcA b n i := by rw [n4_drop, ← HP3.out]; rfl
            have e4 : n4 (b.drop p4) 0 = atV b n i := by rw [n4_drop, ← HP4.out]; rfl
            rw [e3] at HX2
            rw [e4] at HX3
            have k3 : IntKind.u32.wrap (crcA b n i) = crcA b n i := by have := n4_bd HB.out (1032 + 20 * n + 4 * i); unfold crcA; rw [IntKind.wrap_u32']; omega
            have k4 : p3 ≤ N := by omega
            have k5 : p4 ≤ N := by omega
            clear e3 e4
            go_wp2
            refine wp_region_ph (by kernel_rfl) [22, 23] [.span 0 1, .span 0 1, .span 0 1, .span 0 1, .span 0 1, .span 0 1, .span 0 1, .span 0 1, .span 0 1, .span 0 1, .span 0 1, .span 0 1, .span 0 1, .span 0 1, .span 0 1, .span 0 1, .span 0 1, .span 0 1, .span 0 1, .span 0 1, .span 0 1, .span 0 1, .phase 0, .phase 1] [fun z9 => z9 = .slice (some ⟨blk, off + p1, none⟩) 20 (c - p1), fun z9 => z9 = .string (strOfNums (hexL (idL b i))), fun z9 => z9 = .slice (some ⟨blk, off, none⟩) N c, fun z9 => z9 = .int .i64 (n : Int), fun z9 => z9 = .int .i64 (20 * (n : Int) : Int), fun z9 => z9 = .int .i64 (1032 + 20 * (n : Int) : Int), fun z9 => z9 = .int .i64 (i : Int), fun z9 => z9 = .int .i64 (4 * (i : Int) : Int), fun z9 => z9 = .int .i64 (p3 : Int), fun z9 => z9 = .slice (some ⟨blk, off + p3, none⟩) (N - p3) (c - p3), fun z9 => z9 = .int .i64 (crcA b n i), fun z9 => z9 = .int .u32 (crcA b n i), fun z9 => z9 = .slice (some ⟨blk, off, none⟩) N c, fun z9 => z9 = .int .i64 (n : Int), fun z9 => z9 = .int .i64 (24 * (n : Int) : Int), fun z9 => z9 = .int .i64 (1032 + 24 * (n : Int) : Int), fun z9 => z9 = .int .i64 (i : Int), fun z9 => z9 = .int .i64 (4 * (i : Int) : Int), fun z9 => z9 = .int .i64 (p4 : Int), fun z9 => z9 = .slice (some ⟨blk, off + p4, none⟩) (N - p4) (c - p4), fun z9 => z9 = .int .i64 (atV b n i), fun z9 => z9 = .agg #[.int .i64 0, .slice none 0 0, .string (strOfNums (hexL (idL b i))), .int .i64 (atV b n i), .int .u32 (crcA b n i)], fun _ => True, fun _ => True] (IObj wr (entAt b n i (atV b n i))) (by kernel_rfl) (by kernel_rfl) (by kernel_rfl) (by kernel_rfl) (by kernel_rfl) (by kernel_rfl) rfl rfl ((Below.refl _ _).drew) ?steps ?done
            case steps =>
              refine ⟨?_, ?_, ?_, ?_, ?_, ?_, ?_, ?_, ?_, ?_, ?_, ?_, ?_, ?_, ?_, ?_, ?_, ?_, ?_, ?_, ?_, ?_, ?_, ?_, trivial⟩
              · intro us au w1 k0 hlo hhi ha hd hst hI
                have q10 := slot_far (t := 10) (v := .slice (some ⟨blk, off + p1, none⟩) 20 (c - p1)) ha (by kernel_rfl) (by kernel_rfl)
                have p10 := slot_norm q10
                clear ha hd hst
                exact StepI.pure (v := .slice (some ⟨blk, off + p1, none⟩) 20 (c - p1)) rfl rfl (by go_simp) ⟨rfl, hI⟩
              · intro us au w1 k1 hlo hhi ha hd hst hI
                have e0 := hd 0 _ (by kernel_rfl) rfl
                have q52 := slot_at (t := 52) 0 ha (by kernel_rfl) (by kernel_rfl) (by kernel_rfl) e0
                have p52 := slot_norm q52
                clear ha hd hst
                refine StepI.call (f := 39) (args := #[.slice (some ⟨blk, off + p1, none⟩) 20 (c - p1)]) rfl rfl (by go_simp) ?_
                refine (HX1.out w1 hI.low).mono ?_
                rintro e w5 ⟨rfl, hb5⟩
                exact ⟨_, rfl, rfl, hI.mono hb5⟩
              · intro us au w1 k2 hlo hhi ha hd hst hI
                have q0 := slot_far (t := 0) (v := .slice (some ⟨blk, off, none⟩) N c) ha (by kernel_rfl) (by kernel_rfl)
                have p0 := slot_norm q0
                clear ha hd hst
                exact StepI.pure (v := .slice (some ⟨blk, off, none⟩) N c) rfl rfl (by go_simp) ⟨rfl, hI⟩
              · intro us au w1 k3 hlo hhi ha hd hst hI
                have q6 := slot_far (t := 6) (v := .int .i64 (n : Int)) ha (by kernel_rfl) (by kernel_rfl)
                have p6 := slot_norm q6
                clear ha hd hst
                exact StepI.pure (v := .int .i64 (n : Int)) rfl rfl (by go_simp) ⟨rfl, hI⟩
              · intro us au w1 k4 hlo hhi ha hd hst hI
                have e3 := hd 3 _ (by kernel_rfl) rfl
                have q55 := slot_at (t := 55) 3 ha (by kernel_rfl) (by kernel_rfl) (by kernel_rfl) e3
                have p55 := slot_norm q55
                clear ha hd hst
                exact StepI.pure (v := .int .i64 (20 * (n : Int) : Int)) rfl rfl (by go_simp) ⟨rfl, hI⟩
              · intro us au w1 k5 hlo hhi ha hd hst hI
                have e4 := hd 4 _ (by kernel_rfl) rfl
                have q56 := slot_at (t := 56) 4 ha (by kernel_rfl) (by kernel_rfl) (by kernel_rfl) e4
                have p56 := slot_norm q56
                clear ha hd hst
                exact StepI.pure (v := .int .i64 (1032 + 20 * (n : Int) : Int)) rfl rfl (by go_simp) ⟨rfl, hI⟩
              · intro us au w1 k6 hlo hhi ha hd hst hI
                have q9 := slot_far (t := 9) (v := .int .i64 (i : Int)) ha (by kernel_rfl) (by kernel_rfl)
                have p9 := slot_norm q9
                clear ha hd hst
                exact StepI.pure (v := .int .i64 (i : Int)) rfl rfl (by go_simp) ⟨rfl, hI⟩
              · intro us au w1 k7 hlo hhi ha hd hst hI
                have e6 := hd 6 _ (by kernel_rfl) rfl
                have q58 := slot_at (t := 58) 6 ha (by kernel_rfl) (by kernel_rfl) (by kernel_rfl) e6
                have p58 := slot_norm q58
                clear ha hd hst
                exact StepI.pure (v := .int .i64 (4 * (i : Int) : Int)) rfl rfl (by go_simp) ⟨rfl, hI⟩
              · intro us au w1 k8 hlo hhi ha hd hst hI
                have e5 := hd 5 _ (by kernel_rfl) rfl
                have e7 := hd 7 _ (by kernel_rfl) rfl
                have q57 := slot_at (t := 57) 5 ha (by kernel_rfl) (by kernel_rfl) (by kernel_rfl) e5
                have p57 := slot_norm q57
                have q59 := slot_at (t := 59) 7 ha (by kernel_rfl) (by kernel_rfl) (by kernel_rfl) e7
                have p59 := slot_norm q59
                clear ha hd hst
                exact StepI.pure (v := .int .i64 (p3 : Int)) rfl rfl (by go_simp) ⟨rfl, hI⟩
              · intro us au w1 k9 hlo hhi ha hd hst hI
                have e2 := hd 2 _ (by kernel_rfl) rfl
                have e8 := hd 8 _ (by kernel_rfl) rfl
                have q54 := slot_at (t := 54) 2 ha (by kernel_rfl) (by kernel_rfl) (by kernel_rfl) e2
                have p54 := slot_norm q54
                have q60 := slot_at (t := 60) 8 ha (by kernel_rfl) (by kernel_rfl) (by kernel_rfl) e8
                have p60 := slot_norm q60
                clear ha hd hst
                exact StepI.pure (v := .slice (some ⟨blk, off + p3, none⟩) (N - p3) (c - p3)) rfl rfl (by go_simp) ⟨rfl, hI⟩
              · intro us au w1 k10 hlo hhi ha hd hst hI
                have e9 := hd 9 _ (by kernel_rfl) rfl
                have q61 := slot_at (t := 61) 9 ha (by kernel_rfl) (by kernel_rfl) (by kernel_rfl) e9
                have p61 := slot_norm q61
                clear ha hd hst
                refine StepI.call (f := 51) (args := #[.slice (some ⟨blk, off + p3, none⟩) (N - p3) (c - p3)]) rfl rfl (by go_simp) ?_
                refine (HX2.out w1 hI.low).mono ?_
                rintro e w5 ⟨rfl, n5, rfl⟩
                exact ⟨_, rfl, rfl, hI.mono (Below.drewN (Below.refl _ _) n5)⟩
              · intro us au w1 k11 hlo hhi ha hd hst hI
                have e10 := hd 10 _ (by kernel_rfl) rfl
                have q62 := slot_at (t := 62) 10 ha (by kernel_rfl) (by kernel_rfl) (by kernel_rfl) e10
                have p62 := slot_norm q62
                clear ha hd hst
                exact StepI.pure (v := .int .u32 (crcA b n i)) rfl rfl (by go_simp) ⟨rfl, hI⟩
              · intro us au w1 k12 hlo hhi ha hd hst hI
                have q0 := slot_far (t := 0) (v := .slice (some ⟨blk, off, none⟩) N c) ha (by kernel_rfl) (by kernel_rfl)
                have p0 := slot_norm q0
                clear ha hd hst
                exact StepI.pure (v := .slice (some ⟨blk, off, none⟩) N c) rfl rfl (by go_simp) ⟨rfl, hI⟩
              · intro us au w1 k13 hlo hhi ha hd hst hI
                have q6 := slot_far (t := 6) (v := .int .i64 (n : Int)) ha (by kernel_rfl) (by kernel_rfl)
                have p6 := slot_norm q6
                clear ha hd hst
                exact StepI.pure (v := .int .i64 (n : Int)) rfl rfl (by go_simp) ⟨rfl, hI⟩
              · intro us au w1 k14 hlo hhi ha hd hst hI
                have e13 := hd 13 _ (by kernel_rfl) rfl
                have q65 := slot_at (t := 65) 13 ha (by kernel_rfl) (by kernel_rfl) (by kernel_rfl) e13
                have p65 := slot_norm q65
                clear ha hd hst
                exact StepI.pure (v := .int .i64 (24 * (n : Int) : Int)) rfl rfl (by go_simp) ⟨rfl, hI⟩
              · intro us au w1 k15 hlo hhi ha hd hst hI
                have e14 := hd 14 _ (by kernel_rfl) rfl
                have q66 := slot_at (t := 66) 14 ha (by kernel_rfl) (by kernel_rfl) (by kernel_rfl) e14
                have p66 := slot_norm q66
                clear ha hd hst
                exact StepI.pure (v := .int .i64 (1032 + 24 * (n : Int) : Int)) rfl rfl (by go_simp) ⟨rfl, hI⟩
              · intro us au w1 k16 hlo hhi ha hd hst hI
                have q9 := slot_far (t := 9) (v := .int .i64 (i : Int)) ha (by kernel_rfl) (by kernel_rfl)
                have p9 := slot_norm q9
                clear ha hd hst
                exact StepI.pure (v := .int .i64 (i : Int)) rfl rfl (by go_simp) ⟨rfl, hI⟩
              · intro us au w1 k17 hlo hhi ha hd hst hI
                have e16 := hd 16 _ (by kernel_rfl) rfl
                have q68 := slot_at (t := 68) 16 ha (by kernel_rfl) (by kernel_rfl) (by kernel_rfl) e16
                have p68 := slot_norm q68
                clear ha hd hst
                exact StepI.pure (v := .int .i64 (4 * (i : Int) : Int)) rfl rfl (by go_simp) ⟨rfl, hI⟩
              · intro us au w1 k18 hlo hhi ha hd hst hI
                have e15 := hd 15 _ (by kernel_rfl) rfl
                have e17 := hd 17 _ (by kernel_rfl) rfl
                have q67 := slot_at (t := 67) 15 ha (by kernel_rfl) (by kernel_rfl) (by kernel_rfl) e15
                have p67 := slot_norm q67
                have q69 := slot_at (t := 69) 17 ha (by kernel_rfl) (by kernel_rfl) (by kernel_rfl) e17
                have p69 := slot_norm q69
                clear ha hd hst
                exact StepI.pure (v := .int .i64 (p4 : Int)) rfl rfl (by go_simp) ⟨rfl, hI⟩
              · intro us au w1 k19 hlo hhi ha hd hst hI
                have e12 := hd 12 _ (by kernel_rfl) rfl
                have e18 := hd 18 _ (by kernel_rfl) rfl
                have q64 := slot_at (t := 64) 12 ha (by kernel_rfl) (by kernel_rfl) (by kernel_rfl) e12
                have p64 := slot_norm q64
                have q70 := slot_at (t := 70) 18 ha (by kernel_rfl) (by kernel_rfl) (by kernel_rfl) e18
                have p70 := slot_norm q70
                clear ha hd hst
                exact StepI.pure (v := .slice (some ⟨blk, off + p4, none⟩) (N - p4) (c - p4)) rfl rfl (by go_simp) ⟨rfl, hI⟩
              · intro us au w1 k20 hlo hhi ha hd hst hI
                have e19 := hd 19 _ (by kernel_rfl) rfl
                have q71 := slot_at (t := 71) 19 ha (by kernel_rfl) (by kernel_rfl) (by kernel_rfl) e19
                have p71 := slot_norm q71
                clear ha hd hst
                refine StepI.call (f := 51) (args := #[.slice (some ⟨blk, off + p4, none⟩) (N - p4) (c - p4)]) rfl rfl (by go_simp) ?_
                refine (HX3.out w1 hI.low).mono ?_
                rintro e w5 ⟨rfl, n5, rfl⟩
                exact ⟨_, rfl, rfl, hI.mono (Below.drewN (Below.refl _ _) n5)⟩
              · intro us au w1 k21 hlo hhi ha hd hst hI
                have e1 := hd 1 _ (by kernel_rfl) rfl
                have e11 := hd 11 _ (by kernel_rfl) rfl
                have e20 := hd 20 _ (by kernel_rfl) rfl
                have q53 := slot_at (t := 53) 1 ha (by kernel_rfl) (by kernel_rfl) (by kernel_rfl) e1
                have p53 := slot_norm q53
                have q63 := slot_at (t := 63) 11 ha (by kernel_rfl) (by kernel_rfl) (by kernel_rfl) e11
                have p63 := slot_norm q63
                have q72 := slot_at (t := 72) 20 ha (by kernel_rfl) (by kernel_rfl) (by kernel_rfl) e20
                have p72 := slot_norm q72
                clear ha hd hst
                exact StepI.pure (v := .agg #[.int .i64 0, .slice none 0 0, .string (strOfNums (hexL (idL b i))), .int .i64 (atV b n i), .int .u32 (crcA b n i)]) rfl rfl (by go_simp) ⟨rfl, hI⟩
              · intro us au w1 ha hd hst hI
                clear ha hd hst
                exact StepI.runs (v := .pointer (some ⟨w1.heap.size, 0, none⟩)) (w' := w1.alloc (.cells #[.int .i64 0, .slice none 0 0, .string ⟨#[]⟩, .int .i64 0, .int .u32 0] 30)) rfl rfl (by go_simp) ⟨trivial, IObj.new hI⟩
              · intro us au w1 ha hd hst hI
                obtain ⟨_⟩ := hd 22 _ (by kernel_rfl) rfl
                have e21 := hd 21 _ (by kernel_rfl) rfl
                have q11 := slot_at (t := 11) 22 ha (by kernel_rfl) (by kernel_rfl) (by kernel_rfl) (Eq.refl (us 22))
                have p11 := slot_norm q11
                have q73 := slot_at (t := 73) 21 ha (by kernel_rfl) (by kernel_rfl) (by kernel_rfl) e21
                have p73 := slot_norm q73
                clear ha hd hst
                obtain ⟨hb9, g9, hv9, hg9, hc9⟩ := hI
                rw [hv9] at p11
                have k0 := hc9.cell 0 (by decide)
                have k1 := hc9.cell 1 (by decide)
                have k2 := hc9.cell 2 (by decide)
                have k3 := hc9.cell 3 (by decide)
                have k4 := hc9.cell 4 (by decide)
                have f0 := hc9.frozen 0
                have f1 := hc9.frozen 1
                have f2 := hc9.frozen 2
                have f3 := hc9.frozen 3
                have f4 := hc9.frozen 4
                exact StepI.stored (w' := putEnt w1 g9 (entAt b n i (atV b n i))) rfl rfl (by unfold putEnt; go_simp; rfl) ⟨trivial, IObj.put hb9 hv9 hg9 hc9⟩
            case done =>
              intro us w1 hI hd
              obtain ⟨hb9, g9, hv9, hg9, hc9⟩ := hI
              clear hd HX1 HX2 HX3 k3 k4 k5 HIDL
              simp only [putAll]
              go_simp
              go_wp2
              go_meet
              exact ⟨g9, rfl, hc9, hg9, hb9⟩
          case rest =>
            obtain ⟨ob, rfl, hCb, hob, hB5⟩ := hcut
            generalize wc = w5 at *
            have HCB := Lib.hid hCb
            have HCF5 := Lib.hid (HCF.out.below hB5 HCF.out.blk)
            have HCO5 := Lib.hid (HCO.out.below hB5 HCO.out.blk)
            have HBL5 := Lib.hid (HBL.out.trans (hB5.mono HBL.out.size))
            have hgo_ob : go ≠ ob := by have := HCO.out.blk; omega
            have HGCOB : Hid (gc ≠ ob) := by show _ ≠ _; have := HCF.out.blk; omega
            have HWOB : Hid (w.heap.size ≤ ob) := Nat.le_trans HBL.out.size hob
            clear hCb hB5 HCF HCO HBL s4 s5 s6 s7 s8 s9 s10
            have HOB := Lib.hid hob
            clear hob
            go_upto_region 12 with (fail)
            go_cut [111] (fun v wx => v = .bool (badO b i) ∧ ∃ m, wx = w5.drewN m)
            case first => as_aux_lemma =>
              obtain ⟨bI, oI, hAI, hbI, hcI⟩ := (HI.out.below HBL5.out) (by rw [HN.out]; omega)
              injection hAI with hAI
              injection hAI with e1 e2 _
              subst e1; subst e2
              have kx : w5.cell? ⟨blk, off + p1, none⟩ = some (.int .u8 (b.getD p1 0)) := hcI p1 (by rw [HN.out]; omega)
              have hx0 := HB.out.at_ p1 (by rw [HN.out]; omega)
              have HID : Hid (id0 b i = (b.getD p1 0).toNat) := by show _ = _; unfold id0; rw [HP1.out]
              generalize b.getD p1 0 = x0 at *
              obtain ⟨q, rfl⟩ : ∃ q : Nat, x0 = q := ⟨x0.toNat, by omega⟩
              have HID0 : Hid (id0 b i = q) := HID.out.trans (Int.toNat_natCast q)
              have hq6 : q < 256 := by omega
              have kf1 : w5.cell? ⟨gc, q, none⟩ = some (.int .i64 (fan b q)) := (HCF5.out.cell q hq6).trans (by unfold fanF; rw [if_pos hq6])
              have ks : w5.cell? ⟨ob, 2, none⟩ = some (.string (strOfNums (hexL (idL b i)))) := HCB.out.cell 2 (by decide)
              clear HID hcI hbI hx0
              obtain ⟨F1, hF1⟩ : ∃ F1, fan b q = F1 := ⟨_, rfl⟩
              rw [hF1] at kf1
              have HF1 := Lib.hid hF1
              clear hF1
              by_cases hi0 : i = 0
              · have q1 : decide ((0 : Int) < (i : Int)) = false := decide_eq_false (by omega)
                have q1' : decide (0 < i) = false := decide_eq_false (by omega)
                have HX : Hid ((decide (0 < i) && !ltL (idL b (i - 1)) (idL b i)) = false) := by show _ = _; rw [q1']; rfl
                generalize strOfNums (hexL (idL b i)) = SC at ks
                clear hi0
                by_cases hy : F1 ≤ (i : Int)
                · have q2 : decide (F1 ≤ (i : Int)) = true := decide_eq_true hy
                  have HBO := Lib.hid (badO_y (b := b) (i := i) (by rw [HID0.out, HF1.out]; exact q2))
                  clear hy
                  go_wp2
                  go_quiet (fail)
                  go_wp2
                  go_meet
                  exact ⟨by rw [HBO.out]; first | done | rfl, _, rfl⟩
                · have q2 : decide (F1 ≤ (i : Int)) = false := decide_eq_false hy
                  clear hy
                  by_cases hq0 : q = 0
                  · have q3 : decide ((0 : Int) < (q : Int)) = false := decide_eq_false (by omega)
                    have q3' : decide (0 < q) = false := decide_eq_false (by omega)
                    have HBO := Lib.hid (badO_eval (b := b) (i := i) (x := false) (y := false) (z := false) HX.out (by rw [HID0.out, HF1.out]; exact q2) (by rw [HID0.out, q3']; first | done | rfl))
                    clear hq0
                    go_wp2
                    go_quiet (fail)
                    go_wp2
                    go_meet
                    exact ⟨by rw [HBO.out]; first | done | rfl, _, rfl⟩
                  · obtain ⟨r, hr⟩ : ∃ r : Nat, q = r + 1 := ⟨q - 1, by omega⟩
                    have q3 : decide ((0 : Int) < (q : Int)) = true := decide_eq_true (by omega)
                    have q3' : decide (0 < q) = true := decide_eq_true (by omega)
                    have s11 : IntKind.u8.wrap ((q : Int) - 1) = (r : Int) := by rw [IntKind.wrap_u8']; omega
                    have hr6 : r < 256 := by omega
                    have kf2 : w5.cell? ⟨gc, r, none⟩ = some (.int .i64 (fan b r)) := (HCF5.out.cell r hr6).trans (by unfold fanF; rw [if_pos hr6])
                    have HR1 : Hid (q - 1 = r) := by show _ = _; omega
                    clear hr
                    obtain ⟨F2, hF2⟩ : ∃ F2, fan b r = F2 := ⟨_, rfl⟩
                    rw [hF2] at kf2
                    have HF2 := Lib.hid hF2
                    clear hF2
                    by_cases hz : (i : Int) < F2
                    · have q4 : decide ((i : Int) < F2) = true := decide_eq_true hz
                      have HBO := Lib.hid (badO_eval (b := b) (i := i) (x := false) (y := false) (z := true) HX.out (by rw [HID0.out, HF1.out]; exact q2) (by rw [HID0.out, q3', HR1.out, HF2.out, q4]; first | done | rfl))
                      clear hz
                      go_wp2
                      go_quiet (fail)
                      go_wp2
                      go_meet
                      exact ⟨by rw [HBO.out]; first | done | rfl, _, rfl⟩
                    · have q4 : decide ((i : Int) < F2) = false := decide_eq_false hz
                      have HBO := Lib.hid (badO_eval (b := b) (i := i) (x := false) (y := false) (z := false) HX.out (by rw [HID0.out, HF1.out]; exact q2) (by rw [HID0.out, q3', HR1.out, HF2.out, q4]; first | done | rfl))
                      clear hz
                      go_wp2
                      go_quiet (fail)
                      go_wp2
                      go_meet
                      exact ⟨by rw [HBO.out]; first | done | rfl, _, rfl⟩
              · obtain ⟨j, hj⟩ : ∃ j : Nat, i = j + 1 := ⟨i - 1, by omega⟩
                have q1 : decide ((0 : Int) < (i : Int)) = true := decide_eq_true (by omega)
                have q1' : decide (0 < i) = true := decide_eq_true (by omega)
                have s12 : IntKind.i64.wrap ((i : Int) - 1) = (j : Int) := by rw [IntWalk.i64_in _ (by omega)]; omega
                have hjn : j < n := by omega
                have ko : w5.cell? ⟨go, j * 5 + 2, none⟩ = some (.string (strOfNums (hexL (idL b j)))) := (HCO5.out.cell (j * 5 + 2) (by omega)).trans (congrArg some (outF_cell _ i j 2 (by omega) (by decide)))
                have hl1 : (idL b i).length = 20 := idL_len (n := n) (by rw [HN.out]; exact h4) hlt
                have hl2 : (idL b j).length = 20 := idL_len (n := n) (by rw [HN.out]; exact h4) hjn
                have hT := ltL_tot (idL b j) (idL b i)
                have hL := (str_less _ _ (hexL_ok (idL_ok HB.out i)) (hexL_ok (idL_ok HB.out j))).trans (hex_less (idL b i) (idL b j) (by rw [hl1, hl2]) (idL_ok HB.out i) (idL_ok HB.out j))
                have hQ := str_eq _ _ (hexL_ok (idL_ok HB.out i)) (hexL_ok (idL_ok HB.out j))
                have hji : i - 1 = j := by omega
                by_cases hc : ltL (idL b i) (idL b j) = true
                · rw [hc] at hL hT
                  have HBO := Lib.hid (badO_x (b := b) (i := i) (by rw [q1', hji, hT]; rfl))
                  generalize strOfNums (hexL (idL b i)) = SC at *
                  generalize strOfNums (hexL (idL b j)) = SP at *
                  clear hi0 hj hT hl1 hl2 hQ hji hc
                  go_wp2
                  go_quiet (fail)
                  go_wp2
                  go_meet
                  exact ⟨by rw [HBO.out]; first | done | rfl, _, rfl⟩
                · rw [Bool.not_eq_true] at hc
                  rw [hc] at hL hT
                  by_cases he : idL b i = idL b j
                  · rw [decide_eq_true he] at hT
                    have HBO := Lib.hid (badO_x (b := b) (i := i) (by rw [q1', hji, hT]; rfl))
                    rw [he] at ks hL
                    generalize strOfNums (hexL (idL b j)) = SP at *
                    clear hi0 hj hT hl1 hl2 hQ hji hc he
                    go_wp2
                    go_quiet (fail)
                    go_wp2
                    go_meet
                    exact ⟨by rw [HBO.out]; first | done | rfl, _, rfl⟩
                  · rw [decide_eq_false he] at hT
                    have HX : Hid ((decide (0 < i) && !ltL (idL b (i - 1)) (idL b i)) = false) := by show _ = _; rw [q1', hji, hT]; rfl
                    rw [decide_eq_false (fun e => he (hex_inj (idL_ok HB.out i) (idL_ok HB.out j) e))] at hQ
                    generalize strOfNums (hexL (idL b i)) = SC at *
                    generalize strOfNums (hexL (idL b j)) = SP at *
                    clear hi0 hj hT hl1 hl2 hji hc he
                    by_cases hy : F1 ≤ (i : Int)
                    · have q2 : decide (F1 ≤ (i : Int)) = true := decide_eq_true hy
                      have HBO := Lib.hid (badO_y (b := b) (i := i) (by rw [HID0.out, HF1.out]; exact q2))
                      clear hy
                      go_wp2
                      go_quiet (fail)
                      go_wp2
                      go_meet
                      exact ⟨by rw [HBO.out]; first | done | rfl, _, rfl⟩
                    · have q2 : decide (F1 ≤ (i : Int)) = false := decide_eq_false hy
                      clear hy
                      by_cases hq0 : q = 0
                      · have q3 : decide ((0 : Int) < (q : Int)) = false := decide_eq_false (by omega)
                        have q3' : decide (0 < q) = false := decide_eq_false (by omega)
                        have HBO := Lib.hid (badO_eval (b := b) (i := i) (x := false) (y := false) (z := false) HX.out (by rw [HID0.out, HF1.out]; exact q2) (by rw [HID0.out, q3']; first | done | rfl))
                        clear hq0
                        go_wp2
                        go_quiet (fail)
                        go_wp2
                        go_meet
                        exact ⟨by rw [HBO.out]; first | done | rfl, _, rfl⟩
                      · obtain ⟨r, hr⟩ : ∃ r : Nat, q = r + 1 := ⟨q - 1, by omega⟩
                        have q3 : decide ((0 : Int) < (q : Int)) = true := decide_eq_true (by omega)
                        have q3' : decide (0 < q) = true := decide_eq_true (by omega)
                        have s11 : IntKind.u8.wrap ((q : Int) - 1) = (r : Int) := by rw [IntKind.wrap_u8']; omega
                        have hr6 : r < 256 := by omega
                        have kf2 : w5.cell? ⟨gc, r, none⟩ = some (.int .i64 (fan b r)) := (HCF5.out.cell r hr6).trans (by unfold fanF; rw [if_pos hr6])
                        have HR1 : Hid (q - 1 = r) := by show _ = _; omega
                        clear hr
                        obtain ⟨F2, hF2⟩ : ∃ F2, fan b r = F2 := ⟨_, rfl⟩
                        rw [hF2] at kf2
                        have HF2 := Lib.hid hF2
                        clear hF2
                        by_cases hz : (i : Int) < F2
                        · have q4 : decide ((i : Int) < F2) = true := decide_eq_true hz
                          have HBO := Lib.hid (badO_eval (b := b) (i := i) (x := false) (y := false) (z := true) HX.out (by rw [HID0.out, HF1.out]; exact q2) (by rw [HID0.out, q3', HR1.out, HF2.out, q4]; first | done | rfl))
                          clear hz
                          go_wp2
                          go_quiet (fail)
                          go_wp2
                          go_meet
                          exact ⟨by rw [HBO.out]; first | done | rfl, _, rfl⟩
                        · have q4 : decide ((i : Int) < F2) = false := decide_eq_false hz
                          have HBO := Lib.hid (badO_eval (b := b) (i := i) (x := false) (y := false) (z := false) HX.out (by rw [HID0.out, HF1.out]; exact q2) (by rw [HID0.out, q3', HR1.out, HF2.out, q4]; first | done | rfl))
                          clear hz
                          go_wp2
                          go_quiet (fail)
                          go_wp2
                          go_meet
                          exact ⟨by rw [HBO.out]; first | done | rfl, _, rfl⟩
            case rest =>
              obtain ⟨rfl, m5, rfl⟩ := hcut
              have HCF6 := Lib.hid (HCF5.out.drewN m5)
              have HCO6 := Lib.hid (HCO5.out.drewN m5)
              have HCB6 := Lib.hid (HCB.out.drewN m5)
              have HBL6 := Lib.hid (Below.drewN HBL5.out m5)
              clear HCF5 HCO5 HCB HBL5
              generalize w5.drewN m5 = w6 at *
              cases hbo : badO b i
              · by_cases hA : 2147483648 ≤ atV b n i
                · skip
                  obtain ⟨g2, g3⟩ := far_ hA
                  have hfb := badF_far hA
                  rw [HFN.out] at g2 g3 hfb
                  have d2 : decide (2147483648 ≤ atV b n i) = true := decide_eq_true hA
                  have k3 : w6.cell? ⟨ob, 3, none⟩ = some (.int .i64 (atV b n i)) := HCB6.out.cell 3 (by decide)
                  obtain ⟨p5, hp5⟩ : ∃ p5, 1032 + 28 * n + 8 * f = p5 := ⟨_, rfl⟩
                  have s13 : IntKind.i64.wrap (28 * (n : Int)) = 28 * (n : Int) := IntWalk.i64_in _ (by omega)
                  have s14 : IntKind.i64.wrap (1032 + 28 * (n : Int)) = 1032 + 28 * (n : Int) := IntWalk.i64_in _ (by omega)
                  have s15 : IntKind.i64.wrap (8 * (f : Int)) = 8 * (f : Int) := IntWalk.i64_in _ (by omega)
                  have s16 : IntKind.i64.wrap (1032 + 28 * (n : Int) + 8 * (f : Int)) = (p5 : Int) := by rw [IntWalk.i64_in _ (by omega)]; omega
                  have s17 : IntKind.i64.wrap ((p5 : Int) + 8) = ((p5 + 8 : Nat) : Int) := by rw [IntWalk.i64_in _ (by omega)]; omega
                  have s18 : IntKind.i64.wrap ((N : Int) - 40) = ((N - 40 : Nat) : Int) := by rw [IntWalk.i64_in _ (by omega)]; omega
                  have s19 : bits .or .i64 2147483648 (f : Int) = 2147483648 + (f : Int) := i64_or_add 1 (f : Int) 31 (by omega) (by omega) (by omega) (by omega)
                  have s21 : IntKind.i64.wrap ((f : Int) + 1) = ((f + 1 : Nat) : Int) := by rw [IntWalk.i64_in _ (by omega)]; omega
                  have hshort : N < p5 + 8 + 40 → accB b = false := fun h => acc_short hA hlt HNN.out (by rw [HFN.out, HN.out]; omega)
                  have HSH := Lib.hid hshort
                  have hgo_ob' := hgo_ob
                  have hgc_ob : gc ≠ ob := HGCOB.out
                  have hwob : w.heap.size ≤ ob := HWOB.out
                  have HP5 := Lib.hid hp5
                  have hxg := fun h => big_ge HB.out n f h
                  rw [hp5] at hxg
                  have HXG := Lib.hid hxg
                  obtain ⟨AT, hAT⟩ : ∃ AT, atV b n i = AT := ⟨_, rfl⟩
                  rw [hAT] at k3 d2 hfb HCB6 hA
                  clear hshort hp5 hxg hAT hA
                  by_cases e1 : AT = 2147483648 + (f : Int)
                  · subst e1
                    have hneq : decide ((2147483648 + (f : Int)) ≠ 2147483648 + (f : Int)) = false := decide_eq_false (fun h => h rfl)
                    by_cases e2 : N - 40 < p5 + 8
                    · have t2 : decide (((N - 40 : Nat) : Int) < (p5 : Int) + 8) = true := decide_eq_true (by omega)
                      have HA := Lib.hid (HSH.out (by omega))
                      clear hfb e2 g2 g3 hbo
                      go_wp2
                      go_ret2
                      exact ParseP.no HA.out HBL6.out
                    · have t2 : decide (((N - 40 : Nat) : Int) < (p5 : Int) + 8) = false := decide_eq_false (by omega)
                      obtain ⟨bI, oI, hAI, hbI, hcI⟩ := (HI.out.below HBL6.out) (by rw [HN.out]; omega)
                      injection hAI with hAI
                      injection hAI with z1 z2 _
                      subst z1; subst z2
                      have k5 : w6.cell? ⟨blk, off + p5, none⟩ = some (.int .u8 (b.getD p5 0)) := hcI p5 (by rw [HN.out]; omega)
                      have hp5N : p5 < N := by omega
                      clear hcI hbI
                      obtain ⟨x5, hx5⟩ : ∃ x5, b.getD p5 0 = x5 := ⟨_, rfl⟩
                      rw [hx5] at k5 HXG
                      have HX5 := Lib.hid hx5
                      clear hx5
                      by_cases e3 : 128 ≤ x5
                      · have q8 : decide (128 ≤ x5) = true := decide_eq_true e3
                        have hbg := HXG.out e3
                        have HA := Lib.hid (acc_badF (b := b) (by rw [hfb, decide_eq_true hbg]; cases (decide ((2147483648 + (f : Int)) ≠ 2147483648 + (f : Int))) <;> cases (decide (bigV b n f < 2147483648)) <;> rfl) hlt HNN.out)
                        clear hfb hbg e2 e3 g2 g3 hbo
                        go_wp2
                        go_ret2
                        exact ParseP.no HA.out HBL6.out
                      · skip
                        -- the place is read
                        have e3' : b.getD p5 0 < 128 := by rw [HX5.out]; omega
                        have q8 : decide (128 ≤ x5) = false := decide_eq_false e3
                        have hhi := hi_lt HB.out p5 e3' (by rw [HN.out]; omega)
                        have hhi0 := n4_bd HB.out p5
                        have hlo0 := n4_bd HB.out (p5 + 4)
                        have hbig : n4 b p5 * 4294967296 + n4 b (p5 + 4) = bigV b n f := by rw [← HP5.out]; rfl
                        obtain ⟨HIV, hHI⟩ : ∃ v, n4 b p5 = v := ⟨_, rfl⟩
                        obtain ⟨LOV, hLO⟩ : ∃ v, n4 b (p5 + 4) = v := ⟨_, rfl⟩
                        obtain ⟨BIG, hBIG⟩ : ∃ v, bigV b n f = v := ⟨_, rfl⟩
                        rw [hHI, hLO, hBIG] at hbig
                        rw [hHI] at hhi hhi0
                        rw [hLO] at hlo0
                        rw [hBIG] at hfb g3
                        obtain ⟨p6, hp6⟩ : ∃ p6, p5 + 4 = p6 := ⟨_, rfl⟩
                        rw [hp6] at hLO
                        have HY1 := Lib.hid (fun W (hW : Below w6.heap.size w6 W) => inumber_any (some ⟨blk, off + p5, none⟩) (N - p5) (c - p5) (b.drop p5) W ((HI.out.below (HBL6.out.trans (hW.mono HBL6.out.size))).drop p5) (by rw [List.length_drop, HN.out]) (by omega) (HB.out.drop p5))
                        have HY2 := Lib.hid (fun W (hW : Below w6.heap.size w6 W) => inumber_any (some ⟨blk, off + p6, none⟩) (N - p6) (c - p6) (b.drop p6) W ((HI.out.below (HBL6.out.trans (hW.mono HBL6.out.size))).drop p6) (by rw [List.length_drop, HN.out]) (by omega) (HB.out.drop p6))
                        rw [n4_drop, hHI] at HY1
                        rw [n4_drop, hLO] at HY2
                        have s30 : IntKind.i64.wrap (HIV * 4294967296) = HIV * 4294967296 := IntWalk.i64_in _ (by omega)
                        have s31 : bits .or .i64 (HIV * 4294967296) LOV = BIG := by rw [← hbig]; exact i64_or_add HIV LOV 32 hhi0.1 hlo0.1 (by omega) (by omega)
                        have s32 : IntKind.i64.wrap ((p5 : Int) + 4) = (p6 : Int) := by rw [IntWalk.i64_in _ (by omega)]; omega
                        have c5 : ¬ c = p5 := by omega
                        have c6 : ¬ c = p6 := by omega
                        have l5 : p5 ≤ N := by omega
                        have l6 : p6 ≤ N := by omega
                        clear hHI hLO hBIG hbig hhi hhi0 hlo0 e3 e3'
                        go_upto_region 21 with (fail)
                        go_cut [] (fun wx => IAt w6 ob BIG [undef] wx)
                        case first => as_aux_lemma =>
                          refine wp_region_ph (by kernel_rfl) [12] [.span 0 0, .span 0 0, .span 0 0, .span 0 0, .span 0 0, .span 0 0, .span 0 0, .span 0 0, .span 0 0, .span 0 0, .span 0 0, .span 0 0, .phase 0] [fun z9 => z9 = .slice (some ⟨blk, off, none⟩) N c, fun z9 => z9 = .int .i64 (p5 : Int), fun z9 => z9 = .slice (some ⟨blk, off + p5, none⟩) (N - p5) (c - p5), fun z9 => z9 = .int .i64 HIV, fun z9 => z9 = .int .i64 (HIV * 4294967296), fun z9 => z9 = .slice (some ⟨blk, off, none⟩) N c, fun z9 => z9 = .int .i64 (p5 : Int), fun z9 => z9 = .int .i64 (p6 : Int), fun z9 => z9 = .slice (some ⟨blk, off + p6, none⟩) (N - p6) (c - p6), fun z9 => z9 = .int .i64 LOV, fun z9 => z9 = .int .i64 BIG, fun z9 => z9 = .pointer (some ⟨ob, 3, none⟩), fun _ => True] (IAt w6 ob BIG) (by kernel_rfl) (by kernel_rfl) (by kernel_rfl) (by kernel_rfl) (by kernel_rfl) (by kernel_rfl) rfl rfl ((Below.refl _ _).drew) ?steps ?done
                          case steps =>
                            refine ⟨?_, ?_, ?_, ?_, ?_, ?_, ?_, ?_, ?_, ?_, ?_, ?_, ?_, trivial⟩
                            · intro us au w1 k0 hlo hhi ha hd hst hI
                              obtain rfl : k0 = 0 := by omega
                              have q0 := slot_far (t := 0) (v := .slice (some ⟨blk, off, none⟩) N c) ha (by kernel_rfl) (by kernel_rfl)
                              have p0 := slot_norm q0
                              clear ha hd hst
                              exact StepI.pure (v := .slice (some ⟨blk, off, none⟩) N c) rfl rfl (by go_simp) ⟨rfl, hI⟩
                            · intro us au w1 k1 hlo hhi ha hd hst hI
                              obtain rfl : k1 = 0 := by omega
                              have q12 := slot_far (t := 12) (v := .int .i64 (p5 : Int)) ha (by kernel_rfl) (by kernel_rfl)
                              have p12 := slot_norm q12
                              clear ha hd hst
                              exact StepI.pure (v := .int .i64 (p5 : Int)) rfl rfl (by go_simp) ⟨rfl, hI⟩
                            · intro us au w1 k2 hlo hhi ha hd hst hI
                              obtain rfl : k2 = 0 := by omega
                              have e0 := hd 0 _ (by kernel_rfl) rfl
                              have e1 := hd 1 _ (by kernel_rfl) rfl
                              have q141 := slot_at (t := 141) 0 ha (by kernel_rfl) (by kernel_rfl) (by kernel_rfl) e0
                              have p141 := slot_norm q141
                              have q142 := slot_at (t := 142) 1 ha (by kernel_rfl) (by kernel_rfl) (by kernel_rfl) e1
                              have p142 := slot_norm q142
                              clear ha hd hst
                              exact StepI.pure (v := .slice (some ⟨blk, off + p5, none⟩) (N - p5) (c - p5)) rfl rfl (by go_simp) ⟨rfl, hI⟩
                            · intro us au w1 k3 hlo hhi ha hd hst hI
                              obtain rfl : k3 = 0 := by omega
                              have e2 := hd 2 _ (by kernel_rfl) rfl
                              have q143 := slot_at (t := 143) 2 ha (by kernel_rfl) (by kernel_rfl) (by kernel_rfl) e2
                              have p143 := slot_norm q143
                              clear ha hd hst
                              refine StepI.call (f := 51) (args := #[.slice (some ⟨blk, off + p5, none⟩) (N - p5) (c - p5)]) rfl rfl (by go_simp) ?_
                              refine (HY1.out w1 hI).mono ?_
                              rintro e w5 ⟨rfl, n5, rfl⟩
                              exact ⟨_, rfl, rfl, Below.drewN hI n5⟩
                            · intro us au w1 k4 hlo hhi ha hd hst hI
                              obtain rfl : k4 = 0 := by omega
                              have e3 := hd 3 _ (by kernel_rfl) rfl
                              have q144 := slot_at (t := 144) 3 ha (by kernel_rfl) (by kernel_rfl) (by kernel_rfl) e3
                              have p144 := slot_norm q144
                              clear ha hd hst
                              exact StepI.pure (v := .int .i64 (HIV * 4294967296)) rfl rfl (by go_simp) ⟨rfl, hI⟩
                            · intro us au w1 k5 hlo hhi ha hd hst hI
                              obtain rfl : k5 = 0 := by omega
                              have q0 := slot_far (t := 0) (v := .slice (some ⟨blk, off, none⟩) N c) ha (by kernel_rfl) (by kernel_rfl)
                              have p0 := slot_norm q0
                              clear ha hd hst
                              exact StepI.pure (v := .slice (some ⟨blk, off, none⟩) N c) rfl rfl (by go_simp) ⟨rfl, hI⟩
                            · intro us au w1 k6 hlo hhi ha hd hst hI
                              obtain rfl : k6 = 0 := by omega
                              have q12 := slot_far (t := 12) (v := .int .i64 (p5 : Int)) ha (by kernel_rfl) (by kernel_rfl)
                              have p12 := slot_norm q12
                              clear ha hd hst
                              exact StepI.pure (v := .int .i64 (p5 : Int)) rfl rfl (by go_simp) ⟨rfl, hI⟩
                            · intro us au w1 k7 hlo hhi ha hd hst hI
                              obtain rfl : k7 = 0 := by omega
                              have e6 := hd 6 _ (by kernel_rfl) rfl
                              have q147 := slot_at (t := 147) 6 ha (by kernel_rfl) (by kernel_rfl) (by kernel_rfl) e6
                              have p147 := slot_norm q147
                              clear ha hd hst
                              exact StepI.pure (v := .int .i64 (p6 : Int)) rfl rfl (by go_simp) ⟨rfl, hI⟩
                            · intro us au w1 k8 hlo hhi ha hd hst hI
                              obtain rfl : k8 = 0 := by omega
                              have e5 := hd 5 _ (by kernel_rfl) rfl
                              have e7 := hd 7 _ (by kernel_rfl) rfl
                              have q146 := slot_at (t := 146) 5 ha (by kernel_rfl) (by kernel_rfl) (by kernel_rfl) e5
                              have p146 := slot_norm q146
                              have q148 := slot_at (t := 148) 7 ha (by kernel_rfl) (by kernel_rfl) (by kernel_rfl) e7
                              have p148 := slot_norm q148
                              clear ha hd hst
                              exact StepI.pure (v := .slice (some ⟨blk, off + p6, none⟩) (N - p6) (c - p6)) rfl rfl (by go_simp) ⟨rfl, hI⟩
                            · intro us au w1 k9 hlo hhi ha hd hst hI
                              obtain rfl : k9 = 0 := by omega
                              have e8 := hd 8 _ (by kernel_rfl) rfl
                              have q149 := slot_at (t := 149) 8 ha (by kernel_rfl) (by kernel_rfl) (by kernel_rfl) e8
                              have p149 := slot_norm q149
                              clear ha hd hst
                              refine StepI.call (f := 51) (args := #[.slice (some ⟨blk, off + p6, none⟩) (N - p6) (c - p6)]) rfl rfl (by go_simp) ?_
                              refine (HY2.out w1 hI).mono ?_
                              rintro e w5 ⟨rfl, n5, rfl⟩
                              exact ⟨_, rfl, rfl, Below.drewN hI n5⟩
                            · intro us au w1 k10 hlo hhi ha hd hst hI
                              obtain rfl : k10 = 0 := by omega
                              have e4 := hd 4 _ (by kernel_rfl) rfl
                              have e9 := hd 9 _ (by kernel_rfl) rfl
                              have q145 := slot_at (t := 145) 4 ha (by kernel_rfl) (by kernel_rfl) (by kernel_rfl) e4
                              have p145 := slot_norm q145
                              have q150 := slot_at (t := 150) 9 ha (by kernel_rfl) (by kernel_rfl) (by kernel_rfl) e9
                              have p150 := slot_norm q150
                              clear ha hd hst
                              exact StepI.pure (v := .int .i64 BIG) rfl rfl (by go_simp) ⟨rfl, hI⟩
                            · intro us au w1 k11 hlo hhi ha hd hst hI
                              obtain rfl : k11 = 0 := by omega
                              have q11 := slot_far (t := 11) (v := .pointer (some ⟨ob, 0, none⟩)) ha (by kernel_rfl) (by kernel_rfl)
                              have p11 := slot_norm q11
                              clear ha hd hst
                              exact StepI.pure (v := .pointer (some ⟨ob, 3, none⟩)) rfl rfl (by go_simp) ⟨rfl, hI⟩
                            · intro us au w1 ha hd hst hI
                              have e11 := hd 11 _ (by kernel_rfl) rfl
                              have e10 := hd 10 _ (by kernel_rfl) rfl
                              have q152 := slot_at (t := 152) 11 ha (by kernel_rfl) (by kernel_rfl) (by kernel_rfl) e11
                              have p152 := slot_norm q152
                              have q151 := slot_at (t := 151) 10 ha (by kernel_rfl) (by kernel_rfl) (by kernel_rfl) e10
                              have p151 := slot_norm q151
                              clear ha hd hst
                              have hc9 := HCB6.out.below hI HCB6.out.blk
                              have k9 := hc9.cell 3 (by decide)
                              have f9 := hc9.frozen 3
                              exact StepI.stored (w' := w1.setCell ⟨ob, 3, none⟩ (.int .i64 BIG)) rfl rfl (by go_simp) ⟨trivial, w1, hI, rfl⟩
                          case done =>
                            intro us w1 hI hd
                            clear hd HY1 HY2
                            simp only [putAll]
                            go_simp
                            go_wp2
                            go_meet
                            exact hI
                        case rest =>
                          obtain ⟨w9, hb9, hw9⟩ := hcut
                          have HCB8 : Hid (Cel wc ob 30 5 (entF (entAt b n i BIG))) := by
                            show Cel _ _ _ _ _
                            rw [hw9]
                            exact ((HCB6.out.below hb9 HCB6.out.blk).set 3 (.int .i64 BIG)).congr fun j hj => entF_at b n i (2147483648 + (f : Int)) BIG j hj
                          have HCF8 : Hid (Cel wc gc 58 256 (fanF b 256)) := by
                            show Cel _ _ _ _ _
                            rw [hw9]
                            exact (HCF6.out.below hb9 HCF6.out.blk).setFar (a := ⟨ob, 3, none⟩) (by exact hgc_ob) _
                          have HCO8 : Hid (Cel wc go 30 (n * 5) (outF (entV b n) i)) := by
                            show Cel _ _ _ _ _
                            rw [hw9]
                            exact (HCO6.out.below hb9 HCO6.out.blk).setFar (a := ⟨ob, 3, none⟩) (by exact hgo_ob) _
                          have HBL8 : Hid (Below w.heap.size w wc) := by
                            show Below _ _ _
                            rw [hw9]
                            exact (HBL6.out.trans (hb9.mono HBL6.out.size)).setCell (by exact hwob) _
                          clear hb9 hw9 HCB6 HCF6 HCO6 HBL6 HY1 HY2 s30 s31 s32 c5 c6 l5 l6
                          generalize wc = w8 at *
                          have k8 : w8.cell? ⟨ob, 3, none⟩ = some (.int .i64 BIG) := HCB8.out.cell 3 (by decide)
                          by_cases e5 : BIG < 2147483648
                          · have q9 : decide (BIG < 2147483648) = true := decide_eq_true e5
                            have HA := Lib.hid (acc_badF (b := b) (by rw [hfb, q9]; cases (decide ((2147483648 + (f : Int)) ≠ 2147483648 + (f : Int))) <;> rfl) hlt HNN.out)
                            clear hfb e5 g2 g3 hbo
                            go_wp2
                            go_ret2
                            exact ParseP.no HA.out HBL8.out
                          · have q9 : decide (BIG < 2147483648) = false := decide_eq_false e5
                            by_cases e6 : 4611686018427387904 < BIG
                            · have q10 : decide (4611686018427387904 < BIG) = true := decide_eq_true e6
                              have HA := Lib.hid (acc_badF (b := b) (by rw [hfb, q10, q9]; cases (decide ((2147483648 + (f : Int)) ≠ 2147483648 + (f : Int))) <;> rfl) hlt HNN.out)
                              clear hfb e5 e6 g2 g3 hbo
                              go_wp2
                              go_ret2
                              exact ParseP.no HA.out HBL8.out
                            · have q10 : decide (4611686018427387904 < BIG) = false := decide_eq_false e6
                              have g1 : badF b n i = false := by rw [hfb, q9, q10, hneq]; rfl
                              clear hfb e5 e6
                              have g3' := g3
                              have hCB := HCB8.out
                              have hCO := HCO8.out
                              have HCF := HCF8
                              have HBL := HBL8
                              have s20 : IntKind.i64.wrap ((i : Int) + 1) = ((i + 1 : Nat) : Int) := by rw [IntWalk.i64_in _ (by omega)]; omega
                              have HNX := Lib.hid (ok_next HOK.out hbo g1)
                              have hi5 : i * 5 + 5 ≤ n * 5 := by omega
                              have HG3 := Lib.hid g3
                              have HFX : Hid (f + 1 = farN b n (i + 1)) := by show _ = _; rw [g2]; first | done | exact HFN.out.symm
                              clear g1 g2 g3 g3' hbo
                              obtain ⟨X, hX⟩ : ∃ X, entAt b n i BIG = X := ⟨_, rfl⟩
                              rw [hX] at hCB HG3
                              go_wp2_with (first
                                | (refine wpList_load_part (vs := entA X) (off := 0) rfl (.tmp 11) rfl rfl hCB Try.underlying30 rfl (size_obj _) (Nat.le_refl 5) (fun j hj => by rw [Nat.zero_add]; exact entA_at _ j hj) ?_)
                                | (refine wpList_store_part (vs := entA X) (off := i * 5) rfl (.tmp 164) (.tmp 163) rfl rfl rfl hCO (size_obj _) hi5 (entA_one _) ?_; intro w9 hC9 hg9 hs9; have HC9 := Lib.hid hC9; clear hC9))
                              have HCO9 : Hid (Cel w9 go 30 (n * 5) (outF (entV b n) (i + 1))) := Lib.hid (HC9.out.congr fun j hj => by rw [← HG3.out]; exact outF_put _ i j)
                              have HCF9 := Lib.hid (HCF.out.same (hg9.block gc HCF.out.blk (by rintro ⟨⟩; exact hgco rfl)))
                              have HB9 := Lib.hid (HBL.out.grown hg9 HBL.out.size (fun k h => by injection h with h; rw [← h]; exact hgw))
                              clear hg9 hs9 HC9 hCB hCO HCF HBL
                              go_roundw
                              case rel => exact ⟨i + 1, rfl, by rw [← HFX.out]; first | done | rfl | simp, by omega, HNX.out, HCF9.out, HCO9.out, HB9.out⟩
                              case measure => simp [intOf]; omega
                  · have t1 := e1
                    have hneq : decide (AT ≠ 2147483648 + (f : Int)) = true := decide_eq_true e1
                    have HA := Lib.hid (acc_badF (b := b) (by rw [hfb, hneq]; rfl) hlt HNN.out)
                    clear hfb e1 g2 g3 hbo
                    go_wp2
                    go_ret2
                    exact ParseP.no HA.out HBL6.out
                · skip
                  obtain ⟨g1, g2, g3⟩ := near_ hA
                  have d2 : decide (2147483648 ≤ atV b n i) = false := decide_eq_false hA
                  have k3 : w6.cell? ⟨ob, 3, none⟩ = some (.int .i64 (atV b n i)) := HCB6.out.cell 3 (by decide)
                  clear hA
                  have g3' := g3
                  have hCB := HCB6.out
                  have hCO := HCO6.out
                  have HCF := HCF6
                  have HBL := HBL6
                  have s20 : IntKind.i64.wrap ((i : Int) + 1) = ((i + 1 : Nat) : Int) := by rw [IntWalk.i64_in _ (by omega)]; omega
                  have HNX := Lib.hid (ok_next HOK.out hbo g1)
                  have hi5 : i * 5 + 5 ≤ n * 5 := by omega
                  have HG3 := Lib.hid g3
                  have HFX : Hid (f = farN b n (i + 1)) := by show _ = _; rw [g2]; first | done | exact HFN.out.symm
                  clear g1 g2 g3 g3' hbo
                  obtain ⟨X, hX⟩ : ∃ X, entAt b n i (atV b n i) = X := ⟨_, rfl⟩
                  rw [hX] at hCB HG3
                  go_wp2_with (first
                    | (refine wpList_load_part (vs := entA X) (off := 0) rfl (.tmp 11) rfl rfl hCB Try.underlying30 rfl (size_obj _) (Nat.le_refl 5) (fun j hj => by rw [Nat.zero_add]; exact entA_at _ j hj) ?_)
                    | (refine wpList_store_part (vs := entA X) (off := i * 5) rfl (.tmp 164) (.tmp 163) rfl rfl rfl hCO (size_obj _) hi5 (entA_one _) ?_; intro w9 hC9 hg9 hs9; have HC9 := Lib.hid hC9; clear hC9))
                  have HCO9 : Hid (Cel w9 go 30 (n * 5) (outF (entV b n) (i + 1))) := Lib.hid (HC9.out.congr fun j hj => by rw [← HG3.out]; exact outF_put _ i j)
                  have HCF9 := Lib.hid (HCF.out.same (hg9.block gc HCF.out.blk (by rintro ⟨⟩; exact hgco rfl)))
                  have HB9 := Lib.hid (HBL.out.grown hg9 HBL.out.size (fun k h => by injection h with h; rw [← h]; exact hgw))
                  clear hg9 hs9 HC9 hCB hCO HCF HBL
                  go_roundw
                  case rel => exact ⟨i + 1, rfl, by rw [← HFX.out]; first | done | rfl | simp, by omega, HNX.out, HCF9.out, HCO9.out, HB9.out⟩
                  case measure => simp [intOf]; omega
              · have HA := Lib.hid (acc_badO hbo hlt HNN.out)
                clear hbo
                go_wp2
                go_ret2
                exact ParseP.no HA.out HBL6.out
        · have hi : i = n := by omega
          subst hi
          have d1 : decide ((i : Int) < (i : Int)) = false := decide_eq_false (by omega)
          have d1' : decide (i < i) = false := decide_eq_false (by omega)
          have s13 : IntKind.i64.wrap (28 * (i : Int)) = 28 * (i : Int) := IntWalk.i64_in _ (by omega)
          have s14 : IntKind.i64.wrap (1072 + 28 * (i : Int)) = 1072 + 28 * (i : Int) := IntWalk.i64_in _ (by omega)
          have s15 : IntKind.i64.wrap (8 * (f : Int)) = 8 * (f : Int) := IntWalk.i64_in _ (by omega)
          have s16 : IntKind.i64.wrap (1072 + 28 * (i : Int) + 8 * (f : Int)) = 1072 + 28 * (i : Int) + 8 * (f : Int) := IntWalk.i64_in _ (by omega)
          have hacc : accB b = decide (N = 1072 + 28 * i + 8 * f) := by
            unfold accB wholeB
            rw [HH.out, HNN.out, HOK.out, HFN.out, HN.out]
            rfl
          have HOBS := Lib.hid (objs_at HCO.out)
          have HENT : Hid (entsL b = (List.range i).map (entV b i)) := by show _ = _; unfold entsL; rw [HNN.out]
          by_cases hw : N = 1072 + 28 * i + 8 * f
          · have t1 : ((N : Int) == 1072 + 28 * (i : Int) + 8 * (f : Int)) = true := by rw [beq_iff_eq]; omega
            rw [decide_eq_true hw] at hacc
            have HAC := Lib.hid hacc
            clear hacc hw HCO hlt
            go_wp2
            go_ret2
            exact ⟨.slice (some ⟨go, 0, none⟩) i i, by rw [HAC.out]; rfl, fun _ => ⟨_, _, by rw [HNN.out], by rw [HENT.out]; exact HOBS.out⟩, HBL.out⟩
          · have t1 : ((N : Int) == 1072 + 28 * (i : Int) + 8 * (f : Int)) = false := by rw [beq_eq_false_iff_ne]; omega
            rw [decide_eq_false hw] at hacc
            have HAC := Lib.hid hacc
            clear hacc hw HCO hlt
            go_wp2
            go_ret2
            exact ParseP.no HAC.out HBL.out
end Go.Proofs.Ytndjebddgnmpfaa
