/- The document's Person tells what the program's does. (Printed by genoby.py.) -/
import Derived.Test.YtihanglnjghcfaaGreatDoorGCt6
import Derived.Test.YtihanglnjghcfaaGreatDoorGCt5
import Derived.Test.YtihanglnjghcfaaGreatDoorGCt4
import Derived.Lib.RuneCount
import Derived.Test.YtihanglnjghcfaaGreatDoorGCt3
namespace Go.Proofs.YtihanglnjghcfaaGreatDoor
open Go.RowKit
set_option linter.unusedVariables false
set_option linter.unusedSimpArgs false

theorem time_none (z : ByteArray) (h : 32 ∉ (z.extract 1 z.size).data.toList) : timeB z = false := by
 cases ht : timeB z
 · rfl
 · exfalso
   unfold timeB at ht
   simp only [Bool.and_eq_true, decide_eq_true_eq, beq_iff_eq] at ht
   obtain ⟨⟨⟨⟨⟨⟨t1, t2⟩, t3⟩, t4⟩, t5⟩, t6⟩, t7⟩ := ht
   have hm := getO_toList (z.extract 1 z.size) (z.size - 7) (by rw [ByteArray.size_extract]; omega)
   rw [get_ext z _ _ _ (by omega) (by omega), show 1 + (z.size - 7) = z.size - 6 by omega, t4] at hm
   exact h (List.mem_of_getElem? hm)
theorem time_short (z : ByteArray) (h : ¬ 1 ≤ z.size) : timeB z = false := by
 unfold timeB; rw [decide_eq_false (by omega)]; rfl
theorem time_blank (z : ByteArray) (h : (z.get! 0 == 32) = false) : timeB z = false := by
 unfold timeB; rw [h]; simp
theorem ext_ext (z : ByteArray) (a b : Nat) (hb : b ≤ z.size - 1) (h1 : 1 ≤ z.size) : (z.extract 1 z.size).extract a b = z.extract (a + 1) (b + 1) := by
 apply ByteArray.ext
 apply Array.toList_inj.1
 rw [ext_list', ext_list', ext_list', List.drop_take, List.drop_drop, List.take_take, Nat.add_comm 1 a]
 congr 1
 omega
theorem upto60 (s : ByteArray) (w : World) (hs : s.size ≤ 140737488355328) : Calls Tryz.prog 66 #[.string s, .int .u8 60] w (UptoPost s 60 w) := upto_any s 60 w hs
theorem upto62 (s : ByteArray) (w : World) (hs : s.size ≤ 140737488355328) : Calls Tryz.prog 66 #[.string s, .int .u8 62] w (UptoPost s 62 w) := upto_any s 62 w hs
theorem upto32 (s : ByteArray) (w : World) (hs : s.size ≤ 140737488355328) : Calls Tryz.prog 66 #[.string s, .int .u8 32] w (UptoPost s 32 w) := upto_any s 32 w hs
theorem persB_no (s : ByteArray) (h : 60 ∉ s.data.toList) : persB s = false := by
 unfold persB; rw [indexByte_not h]; rfl
theorem persB_at (s : ByteArray) (i : Nat) (h : s.data.toList[i]? = some 60) (hf : ∀ j, j < i → s.data.toList[j]? ≠ some 60) : persB s = (decide (1 ≤ i) && (s.get! (i - 1) == 32) && textB (s.extract 0 (i - 1)).data.toList && mailB (s.extract (i + 1) s.size)) := by
 unfold persB; rw [indexByte_at h hf]
theorem mailB_no (s : ByteArray) (h : 62 ∉ s.data.toList) : mailB s = false := by
 unfold mailB; rw [indexByte_not h]; rfl
theorem mailB_at (s : ByteArray) (i : Nat) (h : s.data.toList[i]? = some 62) (hf : ∀ j, j < i → s.data.toList[j]? ≠ some 62) : mailB s = (textB (s.extract 0 i).data.toList && timeB (s.extract (i + 1) s.size)) := by
 unfold mailB; rw [indexByte_at h hf]
theorem name_at (s : ByteArray) (k : Nat) (hk : k + 1 ≤ s.size) (hb : s.get! k = 32) (hf : ∀ j, j < k + 1 → s.data.toList[j]? ≠ some 60) : withoutB (s.extract 0 (k + 1)).data.toList [62, 10, 0] = textB (s.extract 0 k).data.toList := by
 have e : (s.extract 0 (k + 1)).data.toList = (s.extract 0 k).data.toList ++ [32] := by
  rw [ext_list', ext_list', List.drop_zero, Nat.sub_zero, Nat.sub_zero, List.take_add_one, getO_toList s k (by omega), hb]; rfl
 rw [e]
 refine name_same _ (fun hm => ?_)
 rw [ext_list', List.drop_zero, Nat.sub_zero] at hm
 obtain ⟨j, hj, he⟩ := List.mem_iff_getElem.1 hm
 rw [List.length_take] at hj
 refine hf j (by omega) ?_
 rw [List.getElem_take] at he
 rw [List.getElem?_eq_getElem (by omega), he]
theorem mail_at (y : ByteArray) (j : Nat) (hf : ∀ i, i < j → y.data.toList[i]? ≠ some 62) : withoutB (y.extract 0 j).data.toList [60, 10, 0] = textB (y.extract 0 j).data.toList := by
 refine mail_same _ (fun hm => ?_)
 rw [ext_list', List.drop_zero, Nat.sub_zero] at hm
 obtain ⟨i, hi, he⟩ := List.mem_iff_getElem.1 hm
 rw [List.length_take] at hi
 refine hf i (by omega) ?_
 rw [List.getElem_take] at he
 rw [List.getElem?_eq_getElem (by omega), he]
theorem drop1_all (q : ByteArray) (h5 : q.size = 5) (h : ∀ j, 1 ≤ j → j < 5 → isDig (q.get! j) = true) : (q.data.toList.drop 1).all isDig = true := by
 rw [List.all_eq_true]
 intro c hc
 obtain ⟨j, hj, e⟩ := List.mem_iff_getElem.1 hc
 rw [List.length_drop, ← Lib.size_eq, h5] at hj
 have hg := getO_toList q (j + 1) (by omega)
 have hd : (q.data.toList.drop 1)[j]? = some (q.get! (j + 1)) := by rw [List.getElem?_drop, Nat.add_comm 1 j]; exact hg
 rw [List.getElem?_eq_getElem (by rw [List.length_drop, ← Lib.size_eq]; omega), e] at hd
 rw [Option.some.inj hd]
 exact h (j + 1) (by omega) (by omega)
theorem drop1_not (q : ByteArray) (h5 : q.size = 5) (j : Nat) (h1 : 1 ≤ j) (hj : j < 5) (h : isDig (q.get! j) = false) : (q.data.toList.drop 1).all isDig = false := by
 have hg := getO_toList q j (by omega)
 refine all_hit (i := j - 1) (c := q.get! j) ?_ h
 rw [List.getElem?_drop, show 1 + (j - 1) = j by omega]; exact hg
set_option maxRecDepth 1000000 in
set_option maxHeartbeats 4000000 in
theorem personR_any (s : ByteArray) (w : World) (hs : s.size ≤ 140737488355000) : Calls Tryz.prog 73 #[.string s] w (PersPost (persB s) w) := by
 generalize hR : persB s = R
 have HR := Lib.hid hR
 clear hR
 have HW1 := Lib.hid (fun (s : ByteArray) w hs => without_any s ⟨#[62, 10, 0]⟩ w hs (by decide))
 have HW2 := Lib.hid (fun (s : ByteArray) w hs => without_any s ⟨#[60, 10, 0]⟩ w hs (by decide))
 go_enter Tryz.func73, Tryz.ntmps73
 go_wp2_with fail
 refine (upto60 s w (by omega)).mono ?_
 rintro e w1 ⟨hb1, h⟩
 have HB1 := Lib.hid hb1
 clear hb1
 rcases h with ⟨hno, rfl⟩ | ⟨i, hi, hx, hf, rfl⟩
 · have HS := Lib.hid (HR.out.symm.trans (persB_no s hno))
   clear hno
   go_wp2
   go_ret
   exact ⟨by rw [HS.out]; rfl, HB1.out⟩
 · have HP := Lib.hid (HR.out.symm.trans (persB_at s i hx hf))
   have HF := Lib.hid hf
   clear hx hf
   obtain ⟨y, hy⟩ : ∃ y, s.extract (i + 1) s.size = y := ⟨_, rfl⟩
   have hys : y.size ≤ 140737488355000 := by rw [← hy, ByteArray.size_extract]; omega
   rw [hy] at HP
   rw [hy]
   clear hy
   rcases i with _ | k
   · have HS : Hid (R = false) := Lib.hid (by rw [HP.out]; rfl)
     obtain ⟨nm, hnm⟩ : ∃ nm, s.extract 0 0 = nm := ⟨_, rfl⟩
     have hz : nm.size = 0 := by rw [← hnm, ByteArray.size_extract]; omega
     rw [hnm]
     clear HP HF hnm
     have m0 : ((nm.size : Int) == 0) = true := by rw [beq_iff_eq]; omega
     go_wp2
     go_ret
     exact ⟨by rw [HS.out]; rfl, HB1.out⟩
   · have hp := HP.out
     rw [decide_eq_true (by omega), Bool.true_and, Nat.add_sub_cancel] at hp
     obtain ⟨nm, hnm⟩ : ∃ nm, s.extract 0 (k + 1) = nm := ⟨_, rfl⟩
     have hz : nm.size = k + 1 := by rw [← hnm, ByteArray.size_extract]; omega
     have hg : nm.get! k = s.get! k := by rw [← hnm, get_ext s _ _ k (by omega) (by omega), Nat.zero_add]
     have hkn : k < nm.size := by omega
     have m0 : ((nm.size : Int) == 0) = false := by rw [beq_eq_false_iff_ne]; omega
     have m1 : (((k : Int) + 1) == 0) = false := by rw [beq_eq_false_iff_ne]; omega
     have q := byte_is nm k hkn 32
     rw [show (((32 : UInt8).toNat : Nat) : Int) = 32 from rfl] at q
     have q : (((nm[k]'hkn).toNat : Int) != 32) = !(nm.get! k == 32) := by rw [← q]; rfl
     rw [hg] at q
     clear HP
     have hns : nm.size ≤ 140737488355000 := by omega
     cases hb : (s.get! k == 32)
     · rw [hb] at q hp
       simp only [Bool.false_and] at hp
       have HS := Lib.hid hp
       rw [hnm]
       clear hp hb HF hnm hg
       go_wp2
       go_ret
       exact ⟨by rw [HS.out]; rfl, HB1.out⟩
     · rw [hb] at q hp
       simp only [Bool.true_and] at hp
       have hw1 := HW1.out nm w1 (by omega)
       rw [← hnm, name_at s k (by omega) (by simpa using hb) HF.out, hnm] at hw1
       rw [hnm]
       clear hb HF hnm hg HW1
       cases ht : textB (s.extract 0 k).data.toList
       · rw [ht] at hw1 hp
         simp only [Bool.false_and] at hp
         have HS := Lib.hid hp
         clear hp ht
         go_wp2_with (refine hw1.mono ?_; rintro e w2 ⟨rfl, hb2⟩)
         go_ret
         exact ⟨by rw [HS.out]; rfl, HB1.out.trans (hb2.mono HB1.out.size)⟩
       · rw [ht] at hw1 hp
         simp only [Bool.true_and] at hp
         have HP := Lib.hid hp
         clear hp ht
         go_wp2_with fail
         refine hw1.mono ?_
         rintro e w2 ⟨rfl, hb2⟩
         have HB2 := Lib.hid (HB1.out.trans (hb2.mono HB1.out.size))
         clear hb2 hw1
         go_wp2_with fail
         refine (upto62 y w2 (by omega)).mono ?_
         rintro e w3 ⟨hb3, h⟩
         have HB3 := Lib.hid (HB2.out.trans (hb3.mono HB2.out.size))
         clear hb3
         rcases h with ⟨hno, rfl⟩ | ⟨j, hj, hx, hf, rfl⟩
         · have HS := Lib.hid (HP.out.trans (mailB_no y hno))
           clear hno
           go_wp2
           go_ret
           exact ⟨by rw [HS.out]; rfl, HB3.out⟩
         · have HP2 := Lib.hid (HP.out.trans (mailB_at y j hx hf))
           have HT := Lib.hid (mail_at y j hf)
           clear hx hf HP
           obtain ⟨z, hzz⟩ : ∃ z, y.extract (j + 1) y.size = z := ⟨_, rfl⟩
           obtain ⟨ml, hml⟩ : ∃ ml, y.extract 0 j = ml := ⟨_, rfl⟩
           have hzs : z.size ≤ 140737488355000 := by rw [← hzz, ByteArray.size_extract]; omega
           have hms : ml.size ≤ 140737488355000 := by rw [← hml, ByteArray.size_extract]; omega
           rw [hzz, hml] at HP2
           rw [hml] at HT
           rw [hzz, hml]
           clear hzz hml
           have hw2 := HW2.out ml w3 (by omega)
           rw [HT.out] at hw2
           clear HT HW2
           have hp := HP2.out
           cases ht : textB ml.data.toList
           · rw [ht] at hw2 hp
             simp only [Bool.false_and] at hp
             have HS := Lib.hid hp
             clear hp ht HP2
             go_wp2_with (refine hw2.mono ?_; rintro e w4 ⟨rfl, hb4⟩)
             go_ret
             exact ⟨by rw [HS.out]; rfl, HB3.out.trans (hb4.mono HB3.out.size)⟩
           · rw [ht] at hw2 hp
             simp only [Bool.true_and] at hp
             have HP := Lib.hid hp
             clear hp ht HP2
             by_cases hz1 : 1 ≤ z.size
             · have n1 : decide ((z.size : Int) < 1) = false := decide_eq_false (by omega)
               have hz0 : 0 < z.size := by omega
               have q := byte_is z 0 hz0 32
               rw [show (((32 : UInt8).toNat : Nat) : Int) = 32 from rfl] at q
               have q : (((z[0]'hz0).toNat : Int) != 32) = !(z.get! 0 == 32) := by rw [← q]; rfl
               cases hb : (z.get! 0 == 32)
               · rw [hb] at q
                 have HS := Lib.hid (HP.out.trans (time_blank z hb))
                 clear hb
                 go_wp2_with (refine hw2.mono ?_; rintro e w4 ⟨rfl, hb4⟩)
                 go_ret
                 exact ⟨by rw [HS.out]; rfl, HB3.out.trans (hb4.mono HB3.out.size)⟩
               · rw [hb] at q
                 have HZ0 : Hid (z.get! 0 = 32) := Lib.hid (by simpa using hb)
                 clear hb
                 obtain ⟨x, hxx⟩ : ∃ x, z.extract 1 z.size = x := ⟨_, rfl⟩
                 have HX := Lib.hid hxx
                 have hxs : x.size = z.size - 1 := by rw [← hxx, ByteArray.size_extract]; omega
                 go_wp2_with fail
                 refine hw2.mono ?_
                 rintro e w4 ⟨rfl, hb4⟩
                 have HB4 := Lib.hid (HB3.out.trans (hb4.mono HB3.out.size))
                 clear hb4 hw2
                 go_wp2_with fail
                 refine (upto32 x w4 (by omega)).mono ?_
                 rintro e w5 ⟨hb5, h⟩
                 have HB5 := Lib.hid (HB4.out.trans (hb5.mono HB4.out.size))
                 clear hb5
                 rcases h with ⟨hno, rfl⟩ | ⟨p, hpl, hx, hf, rfl⟩
                 · have HS := Lib.hid (HP.out.trans (time_none z (by rw [HX.out]; exact hno)))
                   clear hno hxx hxs
                   go_wp2
                   go_ret
                   exact ⟨by rw [HS.out]; rfl, HB5.out⟩
                 · have hgx : ∀ j, j < x.size → x.get! j = z.get! (j + 1) := fun j hj => by rw [← HX.out, get_ext z _ _ j (by omega) (by omega), Nat.add_comm 1 j]
                   have ht := time_same z p HZ0.out (by omega) (by
                    have h := getO_toList x p hpl
                    rw [hx] at h
                    rw [← hgx p hpl]; exact (Option.some.inj h).symm) (fun j hj hh => hf j hj (by rw [getO_toList x j (by omega), hgx j (by omega), hh]))
                   have e1 : x.extract 0 p = z.extract 1 (p + 1) := by rw [← HX.out, ext_ext z 0 p (by omega) (by omega)]
                   have e2 : x.extract (p + 1) x.size = z.extract (p + 2) z.size := by rw [← HX.out, ext_ext z (p + 1) _ (by rw [HX.out]; omega) (by omega), HX.out, hxs, show z.size - 1 + 1 = z.size by omega]
                   rw [← e1, ← e2] at ht
                   have HP2 := Lib.hid (HP.out.trans ht)
                   clear hgx ht e1 e2 hx hf HP hxx
                   obtain ⟨tm, htm⟩ : ∃ tm, x.extract 0 p = tm := ⟨_, rfl⟩
                   obtain ⟨zn, hzn⟩ : ∃ zn, x.extract (p + 1) x.size = zn := ⟨_, rfl⟩
                   have hts : tm.size ≤ 140737488355000 := by rw [← htm, ByteArray.size_extract]; omega
                   have hzz : zn.size ≤ 140737488355000 := by rw [← hzn, ByteArray.size_extract]; omega
                   rw [htm, hzn] at HP2
                   rw [htm, hzn]
                   clear htm hzn hxs hpl
                   have hnum := number_any tm w5 (by omega)
                   have hp := HP2.out
                   cases hb : numB tm
                   · rw [hb] at hnum hp
                     simp only [Bool.false_and] at hp
                     have HS := Lib.hid hp
                     clear hp hb HP2
                     go_wp2_with (refine hnum.mono ?_; rintro e w6 ⟨rfl, rfl⟩)
                     go_ret
                     exact ⟨by rw [HS.out]; rfl, HB5.out⟩
                   · rw [hb] at hnum hp
                     simp only [Bool.true_and] at hp
                     have HP := Lib.hid hp
                     clear hp hb HP2
                     by_cases h5 : zn.size = 5
                     · have H5 := Lib.hid h5
                       have n5 : ((zn.size : Int) != 5) = false := by
                        have : ((zn.size : Int) == 5) = true := by rw [beq_iff_eq]; omega
                        show (!((zn.size : Int) == 5)) = false
                        rw [this]; rfl
                       have hz0' : 0 < zn.size := by omega
                       have r3 : (((zn[0]'hz0').toNat : Int) != 43) = !(zn.get! 0 == 43) := by rw [← byte_is zn 0 hz0' 43]; rfl
                       have r4 : (((zn[0]'hz0').toNat : Int) != 45) = !(zn.get! 0 == 45) := by rw [← byte_is zn 0 hz0' 45]; rfl
                       have hp := HP.out
                       unfold zoneB at hp
                       rw [decide_eq_true h5, Bool.true_and] at hp
                       clear HP
                       cases c3 : (zn.get! 0 == 43)
                       · rw [c3] at r3 hp
                         simp only [Bool.false_or] at hp
                         cases c4 : (zn.get! 0 == 45)
                         · rw [c4] at r4 hp
                           simp only [Bool.false_and] at hp
                           have HS := Lib.hid hp
                           clear hp c3 c4
                           go_wp2_with (refine hnum.mono ?_; rintro e w6 ⟨rfl, rfl⟩)
                           go_ret
                           exact ⟨by rw [HS.out]; rfl, HB5.out⟩
                         · rw [c4] at r4 hp
                           simp only [Bool.true_and] at hp
                           have HPZ := Lib.hid hp
                           clear hp c3 c4
                           go_wp2_with (refine hnum.mono ?_; rintro e w6 ⟨rfl, rfl⟩)
                           clear hnum
                           go_loopw [9] (fun v wr => ∃ i : Nat, v = .int .i64 (i : Int) ∧ 1 ≤ i ∧ i ≤ 5 ∧ Below w.heap.size w wr ∧ ∀ j, 1 ≤ j → j < i → isDig (zn.get! j) = true) (fun v _ => 5 - (intOf v).toNat)
                           case atStart => exact ⟨1, rfl, by omega, by omega, HB5.out, fun j h1 h2 => by omega⟩
                           case round =>
                            obtain ⟨i, rfl, hi1, hi, hB, hno⟩ := hrel
                            have HN := Lib.hid hno
                            have HBW := Lib.hid hB
                            clear hno hB
                            by_cases hlt : i < 5
                            · have d0 : decide ((i : Int) < 5) = true := decide_eq_true (by omega)
                              have hiz : i < zn.size := by omega
                              have hge := get_eq zn i hiz
                              by_cases c1 : (zn[i]'hiz).toNat < 48
                              · have q1 : decide ((((zn[i]'hiz).toNat : Nat) : Int) < 48) = true := decide_eq_true (by omega)
                                have HS := Lib.hid (HPZ.out.trans (drop1_not zn H5.out i hi1 hlt (by rw [← hge]; unfold isDig; rw [decide_eq_false (by omega)]; rfl)))
                                clear c1 hge
                                go_wp2
                                go_ret
                                exact ⟨by rw [HS.out]; rfl, HBW.out⟩
                              · have q1 : decide ((((zn[i]'hiz).toNat : Nat) : Int) < 48) = false := decide_eq_false (by omega)
                                by_cases c2 : 57 < (zn[i]'hiz).toNat
                                · have q2 : decide ((57 : Int) < (((zn[i]'hiz).toNat : Nat) : Int)) = true := decide_eq_true (by omega)
                                  have HS := Lib.hid (HPZ.out.trans (drop1_not zn H5.out i hi1 hlt (by rw [← hge]; unfold isDig; rw [show decide ((zn[i]'hiz).toNat ≤ 57) = false from decide_eq_false (by omega), Bool.and_false])))
                                  clear c1 c2 hge
                                  go_wp2
                                  go_ret
                                  exact ⟨by rw [HS.out]; rfl, HBW.out⟩
                                · have q2 : decide ((57 : Int) < (((zn[i]'hiz).toNat : Nat) : Int)) = false := decide_eq_false (by omega)
                                  have HS : Hid (∀ j, 1 ≤ j → j < i + 1 → isDig (zn.get! j) = true) := Lib.hid (fun j h1 h2 => by
                                   by_cases e : j = i
                                   · rw [e, ← hge]
                                     unfold isDig
                                     rw [decide_eq_true (by omega), decide_eq_true (by omega)]; rfl
                                   · exact HN.out j h1 (by omega))
                                  clear c1 c2 hge
                                  go_wp2
                                  go_roundw
                                  case rel => exact ⟨i + 1, by go_num, by omega, by omega, HBW.out, HS.out⟩
                                  case measure => simp [intOf]; omega
                            · obtain rfl : i = 5 := by omega
                              have d0 : decide (((5 : Nat) : Int) < 5) = false := by decide
                              have HS := Lib.hid (HPZ.out.trans (drop1_all zn H5.out HN.out))
                              go_wp2
                              go_ret
                              exact ⟨by rw [HS.out]; rfl, HBW.out⟩
                       · rw [c3] at r3 hp
                         simp only [Bool.true_or, Bool.true_and] at hp
                         have HPZ := Lib.hid hp
                         clear hp c3 r4
                         go_wp2_with (refine hnum.mono ?_; rintro e w6 ⟨rfl, rfl⟩)
                         clear hnum
                         go_loopw [9] (fun v wr => ∃ i : Nat, v = .int .i64 (i : Int) ∧ 1 ≤ i ∧ i ≤ 5 ∧ Below w.heap.size w wr ∧ ∀ j, 1 ≤ j → j < i → isDig (zn.get! j) = true) (fun v _ => 5 - (intOf v).toNat)
                         case atStart => exact ⟨1, rfl, by omega, by omega, HB5.out, fun j h1 h2 => by omega⟩
                         case round =>
                          obtain ⟨i, rfl, hi1, hi, hB, hno⟩ := hrel
                          have HN := Lib.hid hno
                          have HBW := Lib.hid hB
                          clear hno hB
                          by_cases hlt : i < 5
                          · have d0 : decide ((i : Int) < 5) = true := decide_eq_true (by omega)
                            have hiz : i < zn.size := by omega
                            have hge := get_eq zn i hiz
                            by_cases c1 : (zn[i]'hiz).toNat < 48
                            · have q1 : decide ((((zn[i]'hiz).toNat : Nat) : Int) < 48) = true := decide_eq_true (by omega)
                              have HS := Lib.hid (HPZ.out.trans (drop1_not zn H5.out i hi1 hlt (by rw [← hge]; unfold isDig; rw [decide_eq_false (by omega)]; rfl)))
                              clear c1 hge
                              go_wp2
                              go_ret
                              exact ⟨by rw [HS.out]; rfl, HBW.out⟩
                            · have q1 : decide ((((zn[i]'hiz).toNat : Nat) : Int) < 48) = false := decide_eq_false (by omega)
                              by_cases c2 : 57 < (zn[i]'hiz).toNat
                              · have q2 : decide ((57 : Int) < (((zn[i]'hiz).toNat : Nat) : Int)) = true := decide_eq_true (by omega)
                                have HS := Lib.hid (HPZ.out.trans (drop1_not zn H5.out i hi1 hlt (by rw [← hge]; unfold isDig; rw [show decide ((zn[i]'hiz).toNat ≤ 57) = false from decide_eq_false (by omega), Bool.and_false])))
                                clear c1 c2 hge
                                go_wp2
                                go_ret
                                exact ⟨by rw [HS.out]; rfl, HBW.out⟩
                              · have q2 : decide ((57 : Int) < (((zn[i]'hiz).toNat : Nat) : Int)) = false := decide_eq_false (by omega)
                                have HS : Hid (∀ j, 1 ≤ j → j < i + 1 → isDig (zn.get! j) = true) := Lib.hid (fun j h1 h2 => by
                                 by_cases e : j = i
                                 · rw [e, ← hge]
                                   unfold isDig
                                   rw [decide_eq_true (by omega), decide_eq_true (by omega)]; rfl
                                 · exact HN.out j h1 (by omega))
                                clear c1 c2 hge
                                go_wp2
                                go_roundw
                                case rel => exact ⟨i + 1, by go_num, by omega, by omega, HBW.out, HS.out⟩
                                case measure => simp [intOf]; omega
                          · obtain rfl : i = 5 := by omega
                            have d0 : decide (((5 : Nat) : Int) < 5) = false := by decide
                            have HS := Lib.hid (HPZ.out.trans (drop1_all zn H5.out HN.out))
                            go_wp2
                            go_ret
                            exact ⟨by rw [HS.out]; rfl, HBW.out⟩
                     · have n5 : ((zn.size : Int) != 5) = true := by
                        have : ((zn.size : Int) == 5) = false := by rw [beq_eq_false_iff_ne]; omega
                        show (!((zn.size : Int) == 5)) = true
                        rw [this]; rfl
                       have HS : Hid (R = false) := Lib.hid (by rw [HP.out]; unfold zoneB; rw [decide_eq_false h5]; rfl)
                       clear HP
                       go_wp2_with (refine hnum.mono ?_; rintro e w6 ⟨rfl, rfl⟩)
                       go_ret
                       exact ⟨by rw [HS.out]; rfl, HB5.out⟩
             · have n1 : decide ((z.size : Int) < 1) = true := decide_eq_true (by omega)
               have HS := Lib.hid (HP.out.trans (time_short z hz1))
               go_wp2_with (refine hw2.mono ?_; rintro e w4 ⟨rfl, hb4⟩)
               go_ret
               exact ⟨by rw [HS.out]; rfl, HB3.out.trans (hb4.mono HB3.out.size)⟩
end Go.Proofs.YtihanglnjghcfaaGreatDoor
namespace Go.Proofs.YtihanglnjghcfaaGreatDoor
open Go.RowKit
set_option linter.unusedVariables false
set_option linter.unusedSimpArgs false

section
variable (s : ByteArray)
theorem anyq_skip (q : UInt8 → Bool) : ∀ (k : Nat) (l : List UInt8), (∀ j c, j < k → l[j]? = some c → q c = false) → l.any q = (l.drop k).any q
 | 0, _, _ => rfl
 | k + 1, [], _ => rfl
 | k + 1, c :: l, h => by
  rw [List.any_cons, h 0 c (by omega) rfl, Bool.false_or, List.drop_succ_cons]
  exact anyq_skip q k l (fun j c hj hc => h (j + 1) c (by omega) (by simpa using hc))
/-- What a loop over the runes of a text comes to that looks for runes below 128. -/
theorem any_step (q : Nat → Bool) (hq : ∀ n, 128 ≤ n → q n = false) (pos : Nat) (h : pos < s.size) :
 (s.data.toList.drop pos).any (fun b => q b.toNat) = (q (Utf8.decode s pos).1 || (s.data.toList.drop (pos + (Utf8.decode s pos).2)).any (fun b => q b.toNat)) := by
 by_cases ha : (s.get! pos).toNat < 128
 · have hl : pos < s.data.toList.length := by rw [← Lib.size_eq]; exact h
   have hg := get_toList s pos h
   have hd : Utf8.decode s pos = ((s.get! pos).toNat, 1) := by
    rw [Lib.decode_at]; unfold Lib.decodeN; rw [if_pos ha]
   rw [hd, List.drop_eq_getElem_cons hl, List.any_cons, (List.getElem?_eq_some_iff.1 hg).2]
 · have hd := decodeN_high (s.size - pos) (s.get! pos).toNat (s.get! (pos + 1)).toNat (s.get! (pos + 2)).toNat (s.get! (pos + 3)).toNat (by omega) (by omega)
   rw [← Lib.decode_at] at hd
   rw [hq _ hd.1, Bool.false_or]
   generalize (Utf8.decode s pos).2 = m at hd ⊢
   rw [anyq_skip (fun b => q b.toNat) m]
   · rw [List.drop_drop]
   · intro j c hj hc
     rw [List.getElem?_drop] at hc
     have hlt : pos + j < s.size := by rw [Lib.size_eq]; exact (List.getElem?_eq_some_iff.1 hc).1
     rw [get_toList s (pos + j) hlt] at hc
     injection hc with hc
     subst hc
     apply hq
     have : j = 0 ∨ j = 1 ∨ j = 2 ∨ j = 3 := by omega
     rcases this with rfl | rfl | rfl | rfl
     · show 128 ≤ (s.get! pos).toNat
       omega
     · exact hd.2.2.2.1 (by omega)
     · exact hd.2.2.2.2.1 (by omega)
     · exact hd.2.2.2.2.2 (by omega)
theorem decode_in (pos : Nat) (h : pos < s.size) : pos + (Utf8.decode s pos).2 ≤ s.size := by
 by_cases ha : (s.get! pos).toNat < 128
 · have hd : Utf8.decode s pos = ((s.get! pos).toNat, 1) := by
    rw [Lib.decode_at]; unfold Lib.decodeN; rw [if_pos ha]
   rw [hd]; show pos + 1 ≤ _; omega
 · have hd := decodeN_high (s.size - pos) (s.get! pos).toNat (s.get! (pos + 1)).toNat (s.get! (pos + 2)).toNat (s.get! (pos + 3)).toNat (by omega) (by omega)
   rw [← Lib.decode_at] at hd
   omega
end
def labQ (n : Nat) : Bool := decide (n < 32) || n == 127
theorem labQ_high (n : Nat) (h : 128 ≤ n) : labQ n = false := by unfold labQ; simp; omega
/-- May a tag have the name? -/
def labelB (s : ByteArray) : Bool := !(s.data.toList.any fun b => labQ b.toNat) && (Lib.validD s.data.toList && decide (1 ≤ Lib.runeCount s) && decide (Lib.runeCount s ≤ 100))
theorem valid_any (s : ByteArray) (w : World) (hE : EnvO w) (hs : s.size ≤ 140737488351300) : Calls Tryz.prog 123 #[.string s] w fun e w' => e = .returned (.bool (Lib.validD s.data.toList)) ∧ Below w.heap.size w w' :=
 Any.utf8_ValidString Tryz.lays196 s w (by omega) hE.tabs
set_option maxRecDepth 100000 in
set_option maxHeartbeats 2000000 in
theorem label_any (s : ByteArray) (w : World) (hE : EnvO w) (hs : s.size ≤ 140737488351300) : Calls Tryz.prog 116 #[.string s] w fun e w' => e = .returned (.bool (labelB s)) ∧ Below w.heap.size w w' := by
 have HE := Lib.hid hE
 have HS := Lib.hid hs
 have HL : Hid (labelB s = (!(s.data.toList.any fun b => labQ b.toNat) && (Lib.validD s.data.toList && decide (1 ≤ Lib.runeCount s) && decide (Lib.runeCount s ≤ 100)))) := Lib.hid rfl
 clear hE
 go_enter Tryz.func116, Tryz.ntmps116
 go_wp2
 go_loopw [4] (fun _ w' => ∃ pos : Nat, w' = w.iter s pos ∧ ((s.data.toList.drop pos).any fun b => labQ b.toNat) = (s.data.toList.any fun b => labQ b.toNat)) (fun _ w' => s.size - w'.iterPos w.heap.size)
 case atStart => exact ⟨0, rfl, by rw [List.drop_zero]⟩
 case round =>
  obtain ⟨pos, rfl, hv⟩ := hrel
  have HV := Lib.hid hv
  clear hv
  by_cases hp : pos < s.size
  · have hnx : ∀ ty, (Instr.next (.pointer (some ⟨w.heap.size, 0, none⟩)) true ty).run Tryz.prog (w.iter s pos) = _ := fun ty => run_next_any w s pos ty hp
    have hwd := Lib.decode_width_pos s pos hp
    have hst := any_step s labQ labQ_high pos hp
    rw [HV.out] at hst
    by_cases h1 : (Utf8.decode s pos).1 < 32
    · have q1 : decide (((Utf8.decode s pos).1 : Int) < 32) = true := decide_eq_true (by omega)
      have HA : Hid (labelB s = false) := Lib.hid (by rw [HL.out, hst]; simp [labQ, h1])
      clear hst h1
      go_wp2
      go_ret
      rw [HA.out]
      exact ⟨rfl, (Below.refl _ _).alloc (Nat.le_refl _) _⟩
    · have q1 : decide (((Utf8.decode s pos).1 : Int) < 32) = false := decide_eq_false (by omega)
      by_cases h2 : (Utf8.decode s pos).1 = 127
      · have q2 : (((Utf8.decode s pos).1 : Int) == 127) = true := by rw [h2]; rfl
        have HA : Hid (labelB s = false) := Lib.hid (by rw [HL.out, hst]; simp [labQ, h2])
        clear hst h1 h2
        go_wp2
        go_ret
        rw [HA.out]
        exact ⟨rfl, (Below.refl _ _).alloc (Nat.le_refl _) _⟩
      · have q2 : (((Utf8.decode s pos).1 : Int) == 127) = false := by rw [beq_eq_false_iff_ne]; omega
        have HA : Hid (((s.data.toList.drop (pos + (Utf8.decode s pos).2)).any fun b => labQ b.toNat) = (s.data.toList.any fun b => labQ b.toNat)) := Lib.hid (by rw [hst]; simp [labQ, h1, h2])
        clear hst h1 h2
        go_wp2
        go_roundw
        case rel => exact ⟨pos + (Utf8.decode s pos).2, rfl, HA.out⟩
        case measure => simp; omega
  · have hnx : ∀ ty, (Instr.next (.pointer (some ⟨w.heap.size, 0, none⟩)) true ty).run Tryz.prog (w.iter s pos) = _ := fun ty => run_next_end w s pos ty hp
    have HA : Hid (labelB s = (Lib.validD s.data.toList && decide (1 ≤ Lib.runeCount s) && decide (Lib.runeCount s ≤ 100))) := Lib.hid (by
     rw [HL.out, ← HV.out, List.drop_eq_nil_of_le (by rw [← Lib.size_eq]; omega)]; rfl)
    have hl0 : Below w.heap.size w (w.iter s pos) := (Below.refl _ _).alloc (Nat.le_refl _) _
    have HL0 := Lib.hid hl0
    have HRC := Lib.hid (fun w => Tryz.utf8_RuneCountInString s w (by have := HS.out; omega))
    clear hl0 HV HL
    generalize Lib.runeCount s = rc at *
    generalize w.iter s pos = w0 at *
    go_wp2_with fail
    refine (HRC.out _).mono ?_
    rintro e w1 ⟨rfl, p1, rfl⟩
    have hl1 : Below w0.heap.size w0 (w0.iter s p1) := (Below.refl _ _).alloc (Nat.le_refl _) _
    have HL1 := Lib.hid (HL0.out.trans (hl1.mono HL0.out.size))
    generalize w0.iter s p1 = w1 at *
    have hv := valid_any s w1 (HE.out.below HL1.out) HS.out
    generalize Lib.validD s.data.toList = vd at *
    clear hl1 HL0
    cases vd
    · go_wp2_with (go_at_call 123; refine hv.mono ?_; rintro e w2 ⟨rfl, hb2⟩; have HB2 := Lib.hid hb2; clear hb2)
      go_ret
      rw [HA.out]
      exact ⟨rfl, HL1.out.trans (HB2.out.mono HL1.out.size)⟩
    · by_cases h1 : 1 ≤ rc
      · have d1 : decide ((rc : Int) ≥ 1) = true := decide_eq_true (by omega)
        have d1' : decide ((1 : Int) ≤ (rc : Int)) = true := decide_eq_true (by omega)
        by_cases h2 : rc ≤ 100
        · have d2 : decide ((rc : Int) ≤ 100) = true := decide_eq_true (by omega)
          rw [decide_eq_true h1, decide_eq_true h2] at HA
          clear h1 h2
          go_wp2_with (go_at_call 123; refine hv.mono ?_; rintro e w2 ⟨rfl, hb2⟩; have HB2 := Lib.hid hb2; clear hb2)
          go_ret
          rw [HA.out]
          exact ⟨rfl, HL1.out.trans (HB2.out.mono HL1.out.size)⟩
        · have d2 : decide ((rc : Int) ≤ 100) = false := decide_eq_false (by omega)
          rw [decide_eq_true h1, decide_eq_false h2] at HA
          clear h1 h2
          go_wp2_with (go_at_call 123; refine hv.mono ?_; rintro e w2 ⟨rfl, hb2⟩; have HB2 := Lib.hid hb2; clear hb2)
          go_ret
          rw [HA.out]
          exact ⟨rfl, HL1.out.trans (HB2.out.mono HL1.out.size)⟩
      · have d1 : decide ((rc : Int) ≥ 1) = false := decide_eq_false (by omega)
        have d1' : decide ((1 : Int) ≤ (rc : Int)) = false := decide_eq_false (by omega)
        rw [decide_eq_false h1] at HA
        clear h1
        go_wp2_with (go_at_call 123; refine hv.mono ?_; rintro e w2 ⟨rfl, hb2⟩; have HB2 := Lib.hid hb2; clear hb2)
        go_ret
        rw [HA.out]
        exact ⟨rfl, HL1.out.trans (HB2.out.mono HL1.out.size)⟩
set_option maxRecDepth 100000 in
set_option maxHeartbeats 2000000 in
theorem tagName_any (s : ByteArray) (w : World) (hs : s.size ≤ 140737488351300) : Calls Tryz.prog 76 #[.string s] w fun e w' => e = .returned (.bool (labelB s)) ∧ Below w.heap.size w w' := by
 have HS := Lib.hid hs
 have HL : Hid (labelB s = (!(s.data.toList.any fun b => labQ b.toNat) && (Lib.validD s.data.toList && decide (1 ≤ Lib.runeCount s) && decide (Lib.runeCount s ≤ 100)))) := Lib.hid rfl
 go_enter Tryz.func76, Tryz.ntmps76
 go_wp2
 go_loopw [3, 5] (fun vn _ w' => ∃ pos n : Nat, vn = .int .i64 n ∧ w' = w.iter s pos ∧ ((s.data.toList.drop pos).any fun b => labQ b.toNat) = (s.data.toList.any fun b => labQ b.toNat) ∧ pos ≤ s.size ∧ n ≤ pos ∧ ∃ f, s.size - pos ≤ f ∧ Lib.runeCount s = n + Lib.runeCountFrom s f pos) (fun _ _ w' => s.size - w'.iterPos w.heap.size)
 case atStart => exact ⟨0, 0, rfl, rfl, by rw [List.drop_zero], Nat.zero_le _, Nat.le_refl _, s.size, Nat.le_refl _, by unfold Lib.runeCount; omega⟩
 case round =>
  obtain ⟨pos, n, rfl, rfl, hv, hps, hnp, f, hf, hrc⟩ := hrel
  have HV := Lib.hid hv
  clear hv
  by_cases hp : pos < s.size
  · have hnx : ∀ ty, (Instr.next (.pointer (some ⟨w.heap.size, 0, none⟩)) true ty).run Tryz.prog (w.iter s pos) = _ := fun ty => run_next_any w s pos ty hp
    have hwd := Lib.decode_width_pos s pos hp
    have hwe : pos + (Utf8.decode s pos).2 ≤ s.size := decode_in s pos hp
    have hst := any_step s labQ labQ_high pos hp
    rw [HV.out] at hst
    obtain ⟨f', rfl⟩ : ∃ f', f = f' + 1 := ⟨f - 1, by omega⟩
    have HRC : Hid (Lib.runeCount s = (n + 1) + Lib.runeCountFrom s f' (pos + (Utf8.decode s pos).2)) := Lib.hid (by
     rw [hrc]; show n + Lib.runeCountFrom s (f' + 1) pos = _
     rw [Lib.runeCountFrom, if_pos hp]; omega)
    clear hrc
    by_cases h1 : (Utf8.decode s pos).1 < 32
    · have q1 : decide (((Utf8.decode s pos).1 : Int) < 32) = true := decide_eq_true (by omega)
      have HA : Hid (labelB s = false) := Lib.hid (by rw [HL.out, hst]; simp [labQ, h1])
      clear hst h1
      go_wp2
      go_ret
      rw [HA.out]
      exact ⟨rfl, (Below.refl _ _).alloc (Nat.le_refl _) _⟩
    · have q1 : decide (((Utf8.decode s pos).1 : Int) < 32) = false := decide_eq_false (by omega)
      by_cases h2 : (Utf8.decode s pos).1 = 127
      · have q2 : (((Utf8.decode s pos).1 : Int) == 127) = true := by rw [h2]; rfl
        have HA : Hid (labelB s = false) := Lib.hid (by rw [HL.out, hst]; simp [labQ, h2])
        clear hst h1 h2
        go_wp2
        go_ret
        rw [HA.out]
        exact ⟨rfl, (Below.refl _ _).alloc (Nat.le_refl _) _⟩
      · have q2 : (((Utf8.decode s pos).1 : Int) == 127) = false := by rw [beq_eq_false_iff_ne]; omega
        have HA : Hid (((s.data.toList.drop (pos + (Utf8.decode s pos).2)).any fun b => labQ b.toNat) = (s.data.toList.any fun b => labQ b.toNat)) := Lib.hid (by rw [hst]; simp [labQ, h1, h2])
        have HM : Hid (pos + (Utf8.decode s pos).2 ≤ s.size ∧ n + 1 ≤ pos + (Utf8.decode s pos).2 ∧ s.size - (pos + (Utf8.decode s pos).2) ≤ f') := Lib.hid (by omega)
        have hsz := HS.out
        clear hst h1 h2 hf hwe
        go_wp2
        go_roundw
        case rel => exact ⟨pos + (Utf8.decode s pos).2, n + 1, rfl, rfl, HA.out, HM.out.1, HM.out.2.1, f', HM.out.2.2, HRC.out⟩
        case measure => simp; omega
  · have hnx : ∀ ty, (Instr.next (.pointer (some ⟨w.heap.size, 0, none⟩)) true ty).run Tryz.prog (w.iter s pos) = _ := fun ty => run_next_end w s pos ty hp
    have HA : Hid (labelB s = (Lib.validD s.data.toList && decide (1 ≤ n) && decide (n ≤ 100))) := Lib.hid (by
     have e : Lib.runeCount s = n := by rw [hrc, Lib.runeCountFrom_end s f pos hp]; rfl
     rw [HL.out, ← HV.out, List.drop_eq_nil_of_le (by rw [← Lib.size_eq]; omega), e]; rfl)
    have hl0 : Below w.heap.size w (w.iter s pos) := (Below.refl _ _).alloc (Nat.le_refl _) _
    have HL0 := Lib.hid hl0
    have hv := utf8_any s (w.iter s pos) (by have := HS.out; omega)
    clear hl0 HV HL hrc hf
    generalize w.iter s pos = w1 at *
    generalize Lib.validD s.data.toList = vd at *
    by_cases h1 : 1 ≤ n
    · have d1 : decide ((n : Int) ≥ 1) = true := decide_eq_true (by omega)
      have d1' : decide ((1 : Int) ≤ (n : Int)) = true := decide_eq_true (by omega)
      by_cases h2 : n ≤ 100
      · have d2 : decide ((n : Int) ≤ 100) = true := decide_eq_true (by omega)
        rw [decide_eq_true h1, decide_eq_true h2] at HA
        clear h1 h2
        go_wp2_with (go_at_call 91; refine hv.mono ?_; rintro e w2 ⟨rfl, hb2⟩; have HB2 := Lib.hid hb2; clear hb2)
        go_ret
        rw [HA.out, Bool.and_true, Bool.and_true]
        exact ⟨rfl, HL0.out.trans (HB2.out.mono HL0.out.size)⟩
      · have d2 : decide ((n : Int) ≤ 100) = false := decide_eq_false (by omega)
        rw [decide_eq_true h1, decide_eq_false h2] at HA
        clear h1 h2
        go_wp2
        go_ret
        rw [HA.out, Bool.and_false]
        exact ⟨rfl, HL0.out⟩
    · have d1 : decide ((n : Int) ≥ 1) = false := decide_eq_false (by omega)
      have d1' : decide ((1 : Int) ≤ (n : Int)) = false := decide_eq_false (by omega)
      rw [decide_eq_false h1] at HA
      clear h1
      go_wp2
      go_ret
      rw [HA.out, Bool.and_false, Bool.false_and]
      exact ⟨rfl, HL0.out⟩
end Go.Proofs.YtihanglnjghcfaaGreatDoor
namespace Go.Proofs.YtihanglnjghcfaaGreatDoor
open Go.RowKit
set_option linter.unusedVariables false
set_option linter.unusedSimpArgs false

theorem hasPrefix_iff (l p : List UInt8) : Lib.hasPrefix l p = true ↔ l.take p.length = p := by
 unfold Lib.hasPrefix
 rw [List.isPrefixOf_iff_prefix, List.prefix_iff_eq_take]
 exact eq_comm
theorem fieldL_some {nm l x r : List UInt8} (h : fieldL nm l = some (x, r)) : x.length + r.length + nm.length + 2 = l.length := by
 unfold fieldL at h
 split at h
 · next hp =>
   have hl : nm.length + 1 ≤ l.length := by
    have := congrArg List.length ((hasPrefix_iff _ _).1 hp)
    rw [List.length_take, List.length_append] at this
    simp at this
    omega
   rw [show Lib.trimPrefix l (nm ++ [32]) = l.drop (nm.length + 1) by unfold Lib.trimPrefix; rw [if_pos hp]; simp] at h
   rcases idx_cases 10 (l.drop (nm.length + 1)) with ⟨hi, _⟩ | ⟨i, hi, hil, _, _⟩
   · rw [hi] at h; simp at h
   · rw [hi] at h
     rw [if_neg (by omega)] at h
     simp only [Int.toNat_natCast] at h
     injection h with h
     injection h with h1 h2
     subst h1; subst h2
     rw [List.length_drop] at hil
     simp only [List.length_take, List.length_drop]
     omega
 · exact absurd h (by simp)
/-- The document's way: the line first, then how it begins. -/
theorem fieldL_line (nm l : List UInt8) (hn : (10 : UInt8) ∉ nm) (i : Nat) (h : l[i]? = some 10) (hno : ∀ j, j < i → l[j]? ≠ some 10) :
 fieldL nm l = if nm.length + 1 ≤ i ∧ (l.take i).take (nm.length + 1) = nm ++ [32] then some ((l.take i).drop (nm.length + 1), l.drop (i + 1)) else none := by
 have hil : i < l.length := (List.getElem?_eq_some_iff.1 h).1
 by_cases hp : l.take (nm.length + 1) = nm ++ [32]
 · have hge : nm.length + 1 ≤ i := by
    by_cases hx : nm.length + 1 ≤ i
    · exact hx
    · have e : (l.take (nm.length + 1))[i]? = some 10 := by rw [List.getElem?_take, if_pos (by omega), h]
      rw [hp] at e
      have hm := List.mem_of_getElem? e
      rw [List.mem_append] at hm
      rcases hm with hm | hm
      · exact absurd hm hn
      · simp at hm
   have hpp : Lib.hasPrefix l (nm ++ [32]) = true := by rw [hasPrefix_iff]; simpa using hp
   have ht : Lib.trimPrefix l (nm ++ [32]) = l.drop (nm.length + 1) := by unfold Lib.trimPrefix; rw [if_pos hpp]; simp
   have hix : Lib.indexByte (l.drop (nm.length + 1)) 10 = ((i - (nm.length + 1) : Nat) : Int) := by
    apply indexByte_at
    · rw [List.getElem?_drop]; rw [show nm.length + 1 + (i - (nm.length + 1)) = i by omega]; exact h
    · intro j hj
      rw [List.getElem?_drop]
      exact hno _ (by omega)
   rw [if_pos ⟨hge, by rw [List.take_take, Nat.min_eq_left hge]; exact hp⟩]
   unfold fieldL
   rw [if_pos hpp, ht, hix, if_neg (by omega)]
   simp only [Int.toNat_natCast]
   rw [List.drop_take, List.drop_drop, show nm.length + 1 + (i - (nm.length + 1) + 1) = i + 1 by omega]
 · have hpp : ¬ Lib.hasPrefix l (nm ++ [32]) = true := by rw [hasPrefix_iff]; simpa using hp
   unfold fieldL
   rw [if_neg hpp, if_neg (fun hc => hp (by have := hc.2; rwa [List.take_take, Nat.min_eq_left hc.1] at this))]
theorem fieldL_no (nm l : List UInt8) (h : (10 : UInt8) ∉ l) : fieldL nm l = none := by
 unfold fieldL
 split
 · next hp =>
   rw [show Lib.trimPrefix l (nm ++ [32]) = l.drop (nm.length + 1) by unfold Lib.trimPrefix; rw [if_pos hp]; simp]
   rw [indexByte_not (fun hm => h (List.mem_of_mem_drop hm)), if_pos rfl]
 · rfl

def treeN : List UInt8 := [116, 114, 101, 101]
def parentN : List UInt8 := [112, 97, 114, 101, 110, 116]
def authorN : List UInt8 := [97, 117, 116, 104, 111, 114]
def committerN : List UInt8 := [99, 111, 109, 109, 105, 116, 116, 101, 114]
def objectN : List UInt8 := [111, 98, 106, 101, 99, 116]
def typeN : List UInt8 := [116, 121, 112, 101]
def tagN : List UInt8 := [116, 97, 103]
def taggerN : List UInt8 := [116, 97, 103, 103, 101, 114]
def hashU (p : List UInt8) : Bool := hashB (bytesOf (bk p))
/-- The parents. -/
def parsF : Nat → List UInt8 → List (List UInt8) → Option (List (List UInt8) × List UInt8)
 | 0, _, _ => none
 | f + 1, l, acc => match fieldL parentN l with
  | none => some (acc, l)
  | some (p, r) => if hashU p = false ∨ p ∈ acc then none else parsF f r (acc ++ [p])
structure CommitR where
 t : List UInt8
 P : List (List UInt8)
 a : List UInt8
 c : List UInt8
 m : List UInt8
/-- What stands behind a line's end: the message. -/
def msgF : List UInt8 → Option (List UInt8)
 | [] => none
 | b :: m => if b = 10 ∧ withoutB m [0] = true then some m else none
def commitF (l : List UInt8) : Option CommitR :=
 match fieldL treeN l with
 | none => none
 | some (t, l1) => if hashU t = false then none else
  match parsF (l1.length + 1) l1 [] with
  | none => none
  | some (P, l2) => match fieldL authorN l2 with
   | none => none
   | some (a, l3) => if persB (bk a) = false then none else
    match fieldL committerN l3 with
    | none => none
    | some (c, l4) => if persB (bk c) = false then none else
     match msgF l4 with
     | none => none
     | some m => some ⟨t, P, a, c, m⟩
structure TagR where
 o : List UInt8
 k : Nat
 n : List UInt8
 g : List UInt8
 m : List UInt8
def tagF (l : List UInt8) : Option TagR :=
 match fieldL objectN l with
 | none => none
 | some (o, l1) => if hashU o = false then none else
  match fieldL typeN l1 with
  | none => none
  | some (k, l2) => if kindN (bk k) = 0 then none else
   match fieldL tagN l2 with
   | none => none
   | some (n, l3) => if labelB (bk n) = false then none else
    match fieldL taggerN l3 with
    | none => none
    | some (g, l4) => if persB (bk g) = false then none else
     match msgF l4 with
     | none => none
     | some m => some ⟨o, kindN (bk k), n, g, m⟩
/-- What a line's reading leaves, both ways in one. -/
def FieldR (nm : List UInt8) (s : ByteArray) (x : ByteArray) (b : Bool) (s' : ByteArray) : Prop :=
 (b = true ∧ fieldL nm s.data.toList = some (x.data.toList, s'.data.toList)) ∨ (b = false ∧ fieldL nm s.data.toList = none ∧ s' = s)
theorem FieldR.size {nm : List UInt8} {s x s' : ByteArray} {b : Bool} (h : FieldR nm s x b s') : s'.size ≤ s.size := by
 rcases h with ⟨_, h⟩ | ⟨_, _, rfl⟩
 · have := fieldL_some h
   rw [Lib.size_eq, Lib.size_eq]; omega
 · exact Nat.le_refl _
theorem FieldR.xsize {nm : List UInt8} {s x s' : ByteArray} (h : FieldR nm s x true s') : x.size ≤ s.size ∧ s'.size < s.size := by
 rcases h with ⟨_, h⟩ | ⟨h, _⟩
 · have := fieldL_some h
   rw [Lib.size_eq, Lib.size_eq, Lib.size_eq]; omega
 · exact absurd h (by decide)
theorem field_any' (g : Nat) (s : ByteArray) (nm : List UInt8) (w : World) (hs : s.size ≤ 140737488351300) (hn : nm.length ≤ 100) (hc : Cel w g 9 1 (fun _ => .string s)) :
 Calls Tryz.prog 109 #[.pointer (some ⟨g, 0, none⟩), .string (bk nm)] w fun e w' => ∃ x b s', e = .returned (.tuple #[.string x, .bool b]) ∧ Chg (fun k => k = g) w w' ∧ Cel w' g 9 1 (fun _ => .string s') ∧ FieldR nm s x b s' := by
 refine (field_any g s nm w hs hn hc).mono ?_
 rintro e w' ⟨h1, ⟨x, r, h2, h3, h4⟩ | ⟨x, h2, h3, h4⟩⟩
 · exact ⟨bk x, true, bk r, h3, h1, h4, .inl ⟨rfl, by rw [bk_list, bk_list]; exact h2⟩⟩
 · exact ⟨x, false, s, h3, h1, h4, .inr ⟨rfl, h2, rfl⟩⟩
theorem containsZ_any (s : ByteArray) (w : World) : Calls Tryz.prog 131 #[.string s, .string ⟨#[0]⟩] w fun e w' => e = .returned (.bool (Lib.containsAny s.data.toList [0])) ∧ w' = w := by
 have H := Lib.hid (Tryz.strings_IndexAny_one s ⟨#[0]⟩ w (by decide) (by
  intro j b hb
  rcases j with _ | j
  · injection hb with hb; subst hb; decide
  · exact absurd hb (by simp)))
 change Hid (Calls Tryz.prog 147 #[.string s, .string ⟨#[0]⟩] w fun e w' => e = .returned (.int .i64 (Lib.indexAny s.data.toList [0])) ∧ w' = w) at H
 unfold Lib.containsAny
 generalize Lib.indexAny s.data.toList [0] = X at *
 go_enter Tryz.func131, Tryz.ntmps131
 go_wp2_with (go_at_call 147; refine H.out.mono ?_; rintro e w1 ⟨rfl, rfl⟩)
 go_ret
 exact ⟨rfl, rfl⟩
set_option maxRecDepth 100000 in
theorem textZ_any (s : ByteArray) (w : World) (hE : EnvO w) (hs : s.size ≤ 140737488351300) :
 Calls Tryz.prog 114 #[.string s, .string ⟨#[0]⟩] w fun e w' => e = .returned (.bool (withoutB s.data.toList [0])) ∧ Below w.heap.size w w' := by
 have hv := valid_any s w hE hs
 have HC := Lib.hid (fun w => containsZ_any s w)
 unfold withoutB
 cases h1 : Lib.validD s.data.toList
 · rw [h1] at hv
   clear h1
   go_enter Tryz.func114, Tryz.ntmps114
   go_wp2_with (go_at_call 123; refine hv.mono ?_; rintro e w1 ⟨rfl, hb1⟩)
   go_ret
   exact ⟨rfl, hb1⟩
 · rw [h1] at hv
   clear h1
   generalize Lib.containsAny s.data.toList [0] = X at *
   go_enter Tryz.func114, Tryz.ntmps114
   go_wp2_with (first
    | (go_at_call 131; have hx := hb1; refine (HC.out w1).mono ?_; rintro e w2 ⟨rfl, rfl⟩)
    | (go_at_call 123; refine hv.mono ?_; rintro e w1 ⟨rfl, hb1⟩))
   go_ret
   exact ⟨by simp, hb1⟩
end Go.Proofs.YtihanglnjghcfaaGreatDoor
namespace Go.Proofs.YtihanglnjghcfaaGreatDoor
open Go.RowKit
set_option linter.unusedVariables false
set_option linter.unusedSimpArgs false

theorem FieldR.yes {nm : List UInt8} {s x s' : ByteArray} (h : FieldR nm s x true s') : fieldL nm s.data.toList = some (x.data.toList, s'.data.toList) := by
 rcases h with ⟨_, h⟩ | ⟨h, _⟩
 · exact h
 · exact absurd h (by decide)
theorem FieldR.no {nm : List UInt8} {s x s' : ByteArray} (h : FieldR nm s x false s') : fieldL nm s.data.toList = none := by
 rcases h with ⟨h, _⟩ | ⟨_, h, _⟩
 · exact absurd h (by decide)
 · exact h
theorem commitF_pars {s x s1 : ByteArray} {b : Bool} (h0 : FieldR treeN s x b s1) (hp : parsF (s1.size + 1) s1.data.toList [] = none) : commitF s.data.toList = none := by
 unfold commitF
 cases b
 · rw [h0.no]
 · rw [h0.yes]
   show (if hashU x.data.toList = false then none else _) = none
   split
   · rfl
   · rw [← Lib.size_eq, hp]
theorem commitF_bad {s x0 s1 x1 s2 s3 x2 s4 : ByteArray} {P : List (List UInt8)} {b0 b1 b2 : Bool} (h0 : FieldR treeN s x0 b0 s1) (hp : parsF (s1.size + 1) s1.data.toList [] = some (P, s2.data.toList))
 (h1 : FieldR authorN s2 x1 b1 s3) (h2 : FieldR committerN s3 x2 b2 s4) (hb : (b0 && b1 && b2) = false) : commitF s.data.toList = none := by
 unfold commitF
 cases b0
 · rw [h0.no]
 · rw [h0.yes]
   show (if hashU x0.data.toList = false then none else _) = none
   split
   · rfl
   · rw [← Lib.size_eq, hp]
     cases b1
     · simp only [h1.no]
     · simp only [h1.yes]
       show (if persB (bk x1.data.toList) = false then none else _) = none
       split
       · rfl
       · cases b2
         · rw [h2.no]
         · exact absurd hb (by decide)
theorem commitF_all {s x0 s1 x1 s2 s3 x2 s4 : ByteArray} {P : List (List UInt8)} (h0 : FieldR treeN s x0 true s1) (hp : parsF (s1.size + 1) s1.data.toList [] = some (P, s2.data.toList))
 (h1 : FieldR authorN s2 x1 true s3) (h2 : FieldR committerN s3 x2 true s4) : commitF s.data.toList = if hashB (bytesOf x0) = false ∨ persB x1 = false ∨ persB x2 = false then none else (msgF s4.data.toList).map fun m => ⟨x0.data.toList, P, x1.data.toList, x2.data.toList, m⟩ := by
 unfold commitF
 rw [h0.yes]
 show (if hashU x0.data.toList = false then none else _) = _
 unfold hashU
 rw [bk_of]
 by_cases e0 : hashB (bytesOf x0) = false
 · rw [if_pos e0, if_pos (.inl e0)]
 · rw [if_neg e0, ← Lib.size_eq, hp]
   simp only [h1.yes]
   show (if persB (bk x1.data.toList) = false then none else _) = _
   rw [bk_of]
   by_cases e1 : persB x1 = false
   · rw [if_pos e1, if_pos (.inr (.inl e1))]
   · rw [if_neg e1, h2.yes]
     show (if persB (bk x2.data.toList) = false then none else _) = _
     rw [bk_of]
     by_cases e2 : persB x2 = false
     · rw [if_pos e2, if_pos (.inr (.inr e2))]
     · rw [if_neg e2, if_neg (by rintro (h | h | h); exact e0 h; exact e1 h; exact e2 h)]
       cases msgF s4.data.toList <;> rfl
theorem msgF_no {s : ByteArray} (h : Lib.hasPrefix s.data.toList [10] = false) : msgF s.data.toList = none := by
 unfold msgF
 split
 · rfl
 · next b m hl =>
   rw [hl] at h
   split
   · next hc =>
     rw [hc.1] at h
     exact absurd h (by simp [Lib.hasPrefix, List.isPrefixOf])
   · rfl
theorem msgF_yes {s : ByteArray} (h : Lib.hasPrefix s.data.toList [10] = true) : msgF s.data.toList = if withoutB (Lib.trimPrefix s.data.toList [10]) [0] = true then some (Lib.trimPrefix s.data.toList [10]) else none := by
 have hc := (hasPrefix_iff _ _).1 h
 unfold Lib.trimPrefix
 rw [if_pos h]
 cases hl : s.data.toList with
 | nil => rw [hl] at hc; simp at hc
 | cons b m =>
  rw [hl] at hc
  simp at hc
  subst hc
  show (if (10 : UInt8) = 10 ∧ withoutB m [0] = true then some m else none) = if withoutB m [0] = true then some m else none
  simp

theorem info_str : (Tryz.prog.info? 9).map (fun i => (i.zero, i.size, i.bytes)) = some (some (.string ⟨#[]⟩), 1, 16) := by kernel_rfl
/-- Texts as cells. -/
def strVs (P : List (List UInt8)) : List Value := P.map fun p => Value.string (bk p)
theorem strVs_one (P : List (List UInt8)) : ∀ u ∈ strVs P, u.oneCell' = true := fun u hu => by
 obtain ⟨p, _, rfl⟩ := List.mem_map.1 hu; rfl
theorem OwnS.strs {w : World} {B n c : Nat} {A : Option Addr} {P : List (List UInt8)} (h : OwnS w B 9 1 (.slice A n c) n (strVs P)) : P.length = n := by
 have := h.1; simpa [strVs] using this
theorem OwnS.strsAt {w : World} {B n c : Nat} {A : Option Addr} {P : List (List UInt8)} (h : OwnS w B 9 1 (.slice A n c) n (strVs P)) : StrsAt w A (P.map bk) := fun hl => by
 rw [List.length_map] at hl
 obtain ⟨g, off, c', hv, hb, hg, hc⟩ := h.cells (by simpa [strVs] using hl)
 injection hv with hA _ _
 refine ⟨g, off, hA, hg, fun i s hs => ?_⟩
 have hi := (List.getElem?_eq_some_iff.1 hs).1
 rw [List.length_map] at hi
 rw [hc i (by simpa [strVs] using hi)]
 rw [List.getElem?_map] at hs
 simp only [strVs, List.getElem?_map]
 cases hp : P[i]? with
 | none => rw [hp] at hs; simp at hs
 | some p => rw [hp] at hs; simp at hs; rw [← hs]; rfl
theorem mem_bk (P : List (List UInt8)) (p : List UInt8) : bk p ∈ P.map bk ↔ p ∈ P := by
 constructor
 · intro h
   obtain ⟨q, hq, e⟩ := List.mem_map.1 h
   rw [bk_inj.1 e] at hq; exact hq
 · exact fun h => List.mem_map.2 ⟨p, h, rfl⟩
theorem contains_any (A : Option Addr) (n c : Nat) (P : List (List UInt8)) (p : List UInt8) (w : World) (B : Nat) (h : OwnS w B 9 1 (.slice A n c) n (strVs P)) (hn : n ≤ 9223372036854775807) :
 Calls Tryz.prog 111 #[.slice A n c, .string (bk p)] w fun e w' => e = .returned (.bool (decide (p ∈ P))) ∧ w' = w := by
 have hl := h.strs
 have hat := h.strsAt
 by_cases h0 : n = 0
 · subst h0
   have hP : P = [] := List.eq_nil_of_length_eq_zero hl
   subst hP
   exact (Tryz.slices_Contains_string_empty A c (bk p) w).mono fun e w' h => ⟨h.1.trans (by simp), h.2⟩
 · obtain ⟨g, o, rfl, _, hc⟩ := hat (by simp; omega)
   refine (Tryz.slices_Contains_string g o n c (P.map bk) (bk p) w (by simp; omega) hn (fun j hj => ?_)).mono fun e w' h => ⟨h.1.trans ?_, h.2⟩
   · have hs : (P.map bk)[j]? = some ((P.map bk).getD j ByteArray.empty) := by
      rw [List.getD_eq_getElem?_getD, List.getElem?_eq_getElem hj]; rfl
     exact hc j _ hs
   · rw [List.take_of_length_le (by simp; omega)]
     congr 2
     rw [Bool.eq_iff_iff, Lib.containsS_iff, mem_bk, decide_eq_true_eq]
set_option maxRecDepth 100000 in
theorem clipStr_any (A : Option Addr) (n c : Nat) (w : World) (hn : n ≤ c) (hc : c ≤ 9223372036854775807) :
 Calls Tryz.prog 47 #[.slice A n c] w fun e w' => e = .returned (.slice A n n) ∧ w = w' := by
 have h0 : (n : Int) ≤ c := by omega
 go_enter Tryz.func47, Tryz.ntmps47
 go_wp2
 go_ret
 exact ⟨rfl, rfl⟩
end Go.Proofs.YtihanglnjghcfaaGreatDoor
