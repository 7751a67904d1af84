/- object.Person. -/
import Derived.Test.YtihanglnjghcfaaGreatDoorGCt5
import Derived.Lib.IndexLaws
import Derived.Lib.ValidLaws
namespace Go.Proofs.YtihanglnjghcfaaGreatDoor
open Go.RowKit
set_option linter.unusedVariables false
set_option linter.unusedSimpArgs false

def digTen : List UInt8 := [48, 49, 50, 51, 52, 53, 54, 55, 56, 57]
/-- All of a text digits? -/
def allDig (l : List UInt8) : Bool := (Lib.trimS l digTen).toArray.toList == []
/-- What stands behind the mail: a blank, the time, a blank, the zone. -/
def timeB (z : ByteArray) : Bool :=
 decide (8 ≤ z.size) && decide (z.size ≤ 19) && (z.get! 0 == 32) && (z.get! (z.size - 6) == 32) && (z.get! (z.size - 5) == 43 || z.get! (z.size - 5) == 45) &&
 allDig ((z.extract 1 (z.size - 6)).data.toList ++ (z.extract (z.size - 4) z.size).data.toList) && ((z.extract 1 (z.size - 6)).toList == [48] || !(z.get! 1 == 48))
/-- What stands behind the name. -/
def mailB (y : ByteArray) : Bool :=
 match Lib.indexByte y.data.toList 62 with
 | .ofNat j => textB (y.extract 0 j).data.toList && timeB (y.extract (j + 1) y.size)
 | .negSucc _ => false
/-- Does a text tell who and when? -/
def persB (s : ByteArray) : Bool :=
 match Lib.indexByte s.data.toList 60 with
 | .ofNat i => decide (1 ≤ i) && (s.get! (i - 1) == 32) && textB (s.extract 0 (i - 1)).data.toList && mailB (s.extract (i + 1) s.size)
 | .negSucc _ => false
def PersPost (b : Bool) (w : World) (e : Ending) (w' : World) : Prop := e = .returned (.bool b) ∧ Below w.heap.size w w'
theorem get_eq (s : ByteArray) (i : Nat) (h : i < s.size) : s[i]'h = s.get! i := by
 have h1 := getO_toList s i h
 have h2 := Lib.data_getElem? s i h
 rw [h2] at h1
 exact Option.some.inj h1
theorem byte_is (s : ByteArray) (i : Nat) (h : i < s.size) (c : UInt8) : (((s[i]'h).toNat : Int) == (c.toNat : Int)) = (s.get! i == c) := by
 rw [get_eq]
 generalize s.get! i = x
 by_cases e : x = c
 · subst e; simp
 · have : (x == c) = false := by simpa using e
   rw [this, beq_eq_false_iff_ne]
   intro hh
   exact e (UInt8.toNat_inj.1 (by omega))
set_option maxRecDepth 1000000 in
set_option maxHeartbeats 4000000 in
theorem person_any (s : ByteArray) (w : World) (hE : EnvO w) (hs : s.size ≤ 140737488355000) : Calls Tryz.prog 113 #[.string s] w (PersPost (persB s) w) := by
 have HE := Lib.hid hE
 have hi := fun w' => Tryz.strings_IndexByte s 60 w'
 have HP : Hid (persB s = (match Lib.indexByte s.data.toList 60 with
  | .ofNat i => decide (1 ≤ i) && (s.get! (i - 1) == 32) && textB (s.extract 0 (i - 1)).data.toList && mailB (s.extract (i + 1) s.size)
  | .negSucc _ => false)) := Lib.hid rfl
 rw [show (60 : Int).toNat.toUInt8 = 60 from rfl] at hi
 generalize persB s = PB at *
 cases hix : Lib.indexByte s.data.toList 60 with
 | negSucc k =>
  rw [hix] at hi HP
  have hneg : (Int.negSucc k) < 1 := by omega
  have hp := HP.out
  simp only [] at hp
  subst hp
  clear HP hix
  generalize Int.negSucc k = X at *
  go_enter Tryz.func113, Tryz.ntmps113
  go_wp2_with (go_at_call 130; refine (hi _).mono ?_; rintro e w1 ⟨rfl, rfl⟩)
  go_ret
  exact ⟨rfl, Below.refl _ _⟩
 | ofNat i =>
  have hil : i < s.size := by
   have h := (Lib.indexByte_some (o := i) hix).1
   rw [Lib.size_eq]; exact (List.getElem?_eq_some_iff.1 h).1
  rw [hix] at hi HP
  have hi : ∀ w', Calls Tryz.prog 130 #[.string s, .int .u8 60] w' fun e w'' => e = .returned (.int .i64 (i : Int)) ∧ w'' = w' := hi
  clear hix
  by_cases h1 : 1 ≤ i
  · obtain ⟨k, rfl⟩ : ∃ k, i = k + 1 := ⟨i - 1, by omega⟩
    have hk : k < s.size := by omega
    have hn1 : decide ((k : Int) + 1 < 1) = false := decide_eq_false (by omega)
    have HP : Hid (PB = ((s.get! k == 32) && textB (s.extract 0 k).data.toList && mailB (s.extract (k + 1 + 1) s.size))) := Lib.hid (by
     have h := HP.out
     simp only [] at h
     rw [h, decide_eq_true h1, Bool.true_and]
     rfl)
    have hq := byte_is s k hk 32
    rw [show (((32 : UInt8).toNat : Nat) : Int) = 32 from rfl] at hq
    have hq : (((s[k]'hk).toNat : Int) != 32) = !(s.get! k == 32) := by rw [← hq]; rfl
    cases hb : (s.get! k == 32)
    · rw [hb] at hq HP
      have hp := HP.out
      simp only [Bool.false_and] at hp
      subst hp
      clear HP hb h1
      go_enter Tryz.func113, Tryz.ntmps113
      go_wp2_with (go_at_call 130; refine (hi _).mono ?_; rintro e w1 ⟨rfl, rfl⟩)
      go_ret
      exact ⟨rfl, Below.refl _ _⟩
    · rw [hb] at hq HP
      have hp := HP.out
      simp only [Bool.true_and] at hp
      have HP := Lib.hid hp
      clear hp hb h1
      obtain ⟨t, ht⟩ : ∃ t, s.extract 0 k = t := ⟨_, rfl⟩
      have hts : t.size ≤ 140737488355000 := by rw [← ht, ByteArray.size_extract]; omega
      have hT := fun w' hE' => text_any t w' hE' (by omega)
      rw [ht] at HP
      obtain ⟨y, hy⟩ : ∃ y, s.extract (k + 1 + 1) s.size = y := ⟨_, rfl⟩
      have hys : y.size ≤ 140737488355000 := by rw [← hy, ByteArray.size_extract]; omega
      rw [hy] at HP
      have HT := Lib.hid hT
      clear hT
      cases hb : textB t.data.toList
      · rw [hb] at HP HT
        have hp := HP.out
        simp only [Bool.false_and] at hp
        subst hp
        clear HP hb
        go_enter Tryz.func113, Tryz.ntmps113
        go_wp2_with (first
         | (go_at_call 114; refine (HT.out _ HE.out).mono ?_; rintro e w2 ⟨rfl, hb2⟩)
         | (go_at_call 130; refine (hi _).mono ?_; rintro e w1 ⟨rfl, rfl⟩))
        go_ret
        exact ⟨rfl, hb2⟩
      · rw [hb] at HP HT
        have hp := HP.out
        simp only [Bool.true_and] at hp
        have HP := Lib.hid hp
        clear hp hb
        go_enter Tryz.func113, Tryz.ntmps113
        have HPM : Hid (PB = mailB y) := HP
        have hj := fun w' => Tryz.strings_IndexByte y 62 w'
        rw [show (62 : Int).toNat.toUInt8 = 62 from rfl] at hj
        have HPM := HPM.out
        unfold mailB at HPM
        have HP := Lib.hid HPM
        clear HPM
        cases hix : Lib.indexByte y.data.toList 62 with
        | negSucc m =>
         rw [hix] at hj HP
         have hneg : (Int.negSucc m) < 0 := by omega
         have hp := HP.out
         simp only [] at hp
         subst hp
         clear HP hix
         generalize Int.negSucc m = X at *
         go_wp2_with (first
          | (go_at_call 130; have hx2 := hb2; refine (hj _).mono ?_; rintro e w3 ⟨rfl, rfl⟩)
          | (go_at_call 114; refine (HT.out _ HE.out).mono ?_; rintro e w2 ⟨rfl, hb2⟩)
          | (go_at_call 130; refine (hi _).mono ?_; rintro e w1 ⟨rfl, rfl⟩))
         go_ret
         exact ⟨rfl, hb2⟩
        | ofNat j =>
         have hjl : j < y.size := by
          have h := (Lib.indexByte_some (o := j) hix).1
          rw [Lib.size_eq]; exact (List.getElem?_eq_some_iff.1 h).1
         rw [hix] at hj HP
         have hj : ∀ w', Calls Tryz.prog 130 #[.string y, .int .u8 62] w' fun e w'' => e = .returned (.int .i64 (j : Int)) ∧ w'' = w' := hj
         clear hix
         have hj0 : ¬ ((j : Int) < 0) := by omega
         obtain ⟨t2, ht2⟩ : ∃ t2, y.extract 0 j = t2 := ⟨_, rfl⟩
         have hts2 : t2.size ≤ 140737488355000 := by rw [← ht2, ByteArray.size_extract]; omega
         have HT2 := Lib.hid (fun w' hE' => text_any t2 w' hE' (by omega))
         obtain ⟨z, hz⟩ : ∃ z, y.extract (j + 1) y.size = z := ⟨_, rfl⟩
         have hzs : z.size ≤ 140737488355000 := by rw [← hz, ByteArray.size_extract]; omega
         have hp := HP.out
         simp only [] at hp
         rw [ht2, hz] at hp
         have HP := Lib.hid hp
         clear hp
         cases hb : textB t2.data.toList
         · rw [hb] at HP HT2
           have hp := HP.out
           simp only [Bool.false_and] at hp
           subst hp
           clear HP hb
           go_wp2_with (first
            | (go_at_call 114; have hx2 := hb2; refine (HT2.out _ (HE.out.below hb2)).mono ?_; rintro e w4 ⟨rfl, hb4⟩)
            | (go_at_call 130; have hx2 := hb2; refine (hj _).mono ?_; rintro e w3 ⟨rfl, rfl⟩)
            | (go_at_call 114; refine (HT.out _ HE.out).mono ?_; rintro e w2 ⟨rfl, hb2⟩)
            | (go_at_call 130; refine (hi _).mono ?_; rintro e w1 ⟨rfl, rfl⟩))
           go_ret
           exact ⟨rfl, hb2.trans (hb4.mono hb2.size)⟩
         · rw [hb] at HP HT2
           have hp := HP.out
           simp only [Bool.true_and] at hp
           have HP := Lib.hid hp
           clear hp hb
           unfold timeB at HP
           by_cases h8 : 8 ≤ z.size
           · by_cases h19 : z.size ≤ 19
             · obtain ⟨n, hn⟩ : ∃ n, z.size = n + 7 := ⟨z.size - 7, by omega⟩
               have hp := HP.out
               rw [decide_eq_true h8, decide_eq_true h19, hn, show n + 7 - 6 = n + 1 by omega, show n + 7 - 5 = n + 2 by omega, show n + 7 - 4 = n + 3 by omega] at hp
               simp only [Bool.true_and] at hp
               have hn1 : 1 ≤ n := by omega
               have hn12 : n ≤ 12 := by omega
               have m1 : decide ((n : Int) < 1) = false := decide_eq_false (by omega)
               have m2 : decide (12 < (n : Int)) = false := decide_eq_false (by omega)
               have g0 : 0 < z.size := by omega
               have g1 : n + 1 < z.size := by omega
               have g2 : n + 2 < z.size := by omega
               have q0 : (((z[0]'g0).toNat : Int) != 32) = !(z.get! 0 == 32) := by rw [← byte_is z 0 g0 32]; rfl
               have q1 : (((z[n + 1]'g1).toNat : Int) != 32) = !(z.get! (n + 1) == 32) := by rw [← byte_is z (n + 1) g1 32]; rfl
               have q2 : (((z[n + 2]'g2).toNat : Int) != 43) = !(z.get! (n + 2) == 43) := by rw [← byte_is z (n + 2) g2 43]; rfl
               have q3 : (((z[n + 2]'g2).toNat : Int) != 45) = !(z.get! (n + 2) == 45) := by rw [← byte_is z (n + 2) g2 45]; rfl
               clear h8 h19 HP
               cases c0 : (z.get! 0 == 32)
               · rw [c0] at q0 hp
                 simp only [Bool.false_and] at hp
                 subst hp
                 clear c0 q1 q2 q3
                 go_wp2_with (first
                  | (go_at_call 114; have hx2 := hb2; refine (HT2.out _ (HE.out.below hb2)).mono ?_; rintro e w4 ⟨rfl, hb4⟩)
                  | (go_at_call 130; have hx2 := hb2; refine (hj _).mono ?_; rintro e w3 ⟨rfl, rfl⟩)
                  | (go_at_call 114; refine (HT.out _ HE.out).mono ?_; rintro e w2 ⟨rfl, hb2⟩)
                  | (go_at_call 130; refine (hi _).mono ?_; rintro e w1 ⟨rfl, rfl⟩))
                 go_ret
                 exact ⟨rfl, hb2.trans (hb4.mono hb2.size)⟩
               · rw [c0] at q0 hp
                 simp only [Bool.true_and] at hp
                 clear c0
                 cases c1 : (z.get! (n + 1) == 32)
                 · rw [c1] at q1 hp
                   simp only [Bool.false_and] at hp
                   subst hp
                   clear c1 q2 q3
                   go_wp2_with (first
                    | (go_at_call 114; have hx2 := hb2; refine (HT2.out _ (HE.out.below hb2)).mono ?_; rintro e w4 ⟨rfl, hb4⟩)
                    | (go_at_call 130; have hx2 := hb2; refine (hj _).mono ?_; rintro e w3 ⟨rfl, rfl⟩)
                    | (go_at_call 114; refine (HT.out _ HE.out).mono ?_; rintro e w2 ⟨rfl, hb2⟩)
                    | (go_at_call 130; refine (hi _).mono ?_; rintro e w1 ⟨rfl, rfl⟩))
                   go_ret
                   exact ⟨rfl, hb2.trans (hb4.mono hb2.size)⟩
                 · rw [c1] at q1 hp
                   simp only [Bool.true_and] at hp
                   clear c1
                   cases c2 : (z.get! (n + 2) == 43)
                   · rw [c2] at q2 hp
                     simp only [Bool.false_or] at hp
                     clear c2
                     cases c3 : (z.get! (n + 2) == 45)
                     · rw [c3] at q3 hp
                       simp only [Bool.false_and] at hp
                       subst hp
                       clear c3
                       go_wp2_with (first
                        | (go_at_call 114; have hx2 := hb2; refine (HT2.out _ (HE.out.below hb2)).mono ?_; rintro e w4 ⟨rfl, hb4⟩)
                        | (go_at_call 130; have hx2 := hb2; refine (hj _).mono ?_; rintro e w3 ⟨rfl, rfl⟩)
                        | (go_at_call 114; refine (HT.out _ HE.out).mono ?_; rintro e w2 ⟨rfl, hb2⟩)
                        | (go_at_call 130; refine (hi _).mono ?_; rintro e w1 ⟨rfl, rfl⟩))
                       go_ret
                       exact ⟨rfl, hb2.trans (hb4.mono hb2.size)⟩
                     · rw [c3] at q3 hp
                       simp only [Bool.true_and] at hp
                       clear c3
                       obtain ⟨d, hd⟩ : ∃ d, z.extract 1 (n + 1) = d := ⟨_, rfl⟩
                       obtain ⟨q, hqq⟩ : ∃ q, z.extract (n + 3) (n + 7) = q := ⟨_, rfl⟩
                       have hds : d.size = n := by rw [← hd, ByteArray.size_extract]; omega
                       have hqs : q.size = 4 := by rw [← hqq, ByteArray.size_extract]; omega
                       obtain ⟨t5, ht5⟩ : ∃ t5 : ByteArray, (⟨(Lib.trimS (d ++ q).data.toList digTen).toArray⟩ : ByteArray) = t5 := ⟨_, rfl⟩
                       have hdq : (d ++ q).size ≤ 9223372036854775807 := by rw [ByteArray.size_append]; omega
                       have HTR : Hid (∀ w', Calls Tryz.prog 124 #[.string (d ++ q), .string ⟨#[48, 49, 50, 51, 52, 53, 54, 55, 56, 57]⟩] w' fun e w'' => e = .returned (.string t5) ∧ Below w'.heap.size w' w'') := Lib.hid (fun w' => by
                        have h := trim_any (d ++ q) w' hdq
                        rw [show ([48, 49, 50, 51, 52, 53, 54, 55, 56, 57] : List UInt8) = digTen from rfl, ht5] at h
                        exact h)
                       have hA : allDig (d.data.toList ++ q.data.toList) = t5.toList.isEmpty := by
                        rw [← ht5, Lib.toList_data]
                        unfold allDig
                        rw [show (d ++ q).data.toList = d.data.toList ++ q.data.toList by rw [ByteArray.data_append, Array.toList_append]]
                        show ((Lib.trimS (d.data.toList ++ q.data.toList) digTen).toArray.toList == []) = (Lib.trimS (d.data.toList ++ q.data.toList) digTen).toArray.toList.isEmpty
                        generalize (Lib.trimS (d.data.toList ++ q.data.toList) digTen).toArray.toList = L
                        cases L <;> rfl
                       have hd0 : 0 < d.size := by omega
                       have q5 : (((d[0]'hd0).toNat : Int) != 48) = !(z.get! 1 == 48) := by
                        rw [← byte_is z 1 (by omega) 48]
                        have e : d[0]'hd0 = z[1]'(by omega) := by
                         subst hd
                         exact ByteArray.getElem_extract hd0
                        rw [e]; rfl
                       rw [hd, hqq, hA] at hp
                       clear hA ht5 hdq
                       cases c4 : t5.toList.isEmpty
                       · rw [c4] at hp
                         simp only [Bool.false_and] at hp
                         subst hp
                         go_wp2_with (first
                          | (go_at_call 124; have hx4 := hb4; refine (HTR.out w4).mono ?_; rintro e w5 ⟨rfl, hb5⟩)
                          | (go_at_call 114; have hx2 := hb2; refine (HT2.out _ (HE.out.below hb2)).mono ?_; rintro e w4 ⟨rfl, hb4⟩)
                          | (go_at_call 130; have hx2 := hb2; refine (hj _).mono ?_; rintro e w3 ⟨rfl, rfl⟩)
                          | (go_at_call 114; refine (HT.out _ HE.out).mono ?_; rintro e w2 ⟨rfl, hb2⟩)
                          | (go_at_call 130; refine (hi _).mono ?_; rintro e w1 ⟨rfl, rfl⟩))
                         go_ret
                         exact ⟨rfl, (hb2.trans (hb4.mono hb2.size)).trans (hb5.mono (Nat.le_trans hb2.size hb4.size))⟩
                       · rw [c4] at hp
                         simp only [Bool.true_and] at hp
                         cases c5 : (d.toList == [48])
                         · rw [c5] at hp
                           simp only [Bool.false_or] at hp
                           subst hp
                           cases c6 : (z.get! 1 == 48)
                           · rw [c6] at q5
                             clear c6
                             go_wp2_with (first
                              | (go_at_call 124; have hx4 := hb4; refine (HTR.out w4).mono ?_; rintro e w5 ⟨rfl, hb5⟩)
                              | (go_at_call 114; have hx2 := hb2; refine (HT2.out _ (HE.out.below hb2)).mono ?_; rintro e w4 ⟨rfl, hb4⟩)
                              | (go_at_call 130; have hx2 := hb2; refine (hj _).mono ?_; rintro e w3 ⟨rfl, rfl⟩)
                              | (go_at_call 114; refine (HT.out _ HE.out).mono ?_; rintro e w2 ⟨rfl, hb2⟩)
                              | (go_at_call 130; refine (hi _).mono ?_; rintro e w1 ⟨rfl, rfl⟩))
                             go_ret
                             exact ⟨rfl, (hb2.trans (hb4.mono hb2.size)).trans (hb5.mono (Nat.le_trans hb2.size hb4.size))⟩
                           · rw [c6] at q5
                             clear c6
                             go_wp2_with (first
                              | (go_at_call 124; have hx4 := hb4; refine (HTR.out w4).mono ?_; rintro e w5 ⟨rfl, hb5⟩)
                              | (go_at_call 114; have hx2 := hb2; refine (HT2.out _ (HE.out.below hb2)).mono ?_; rintro e w4 ⟨rfl, hb4⟩)
                              | (go_at_call 130; have hx2 := hb2; refine (hj _).mono ?_; rintro e w3 ⟨rfl, rfl⟩)
                              | (go_at_call 114; refine (HT.out _ HE.out).mono ?_; rintro e w2 ⟨rfl, hb2⟩)
                              | (go_at_call 130; refine (hi _).mono ?_; rintro e w1 ⟨rfl, rfl⟩))
                             go_ret
                             exact ⟨rfl, (hb2.trans (hb4.mono hb2.size)).trans (hb5.mono (Nat.le_trans hb2.size hb4.size))⟩
                         · rw [c5] at hp
                           simp only [Bool.true_or] at hp
                           subst hp
                           go_wp2_with (first
                            | (go_at_call 124; have hx4 := hb4; refine (HTR.out w4).mono ?_; rintro e w5 ⟨rfl, hb5⟩)
                            | (go_at_call 114; have hx2 := hb2; refine (HT2.out _ (HE.out.below hb2)).mono ?_; rintro e w4 ⟨rfl, hb4⟩)
                            | (go_at_call 130; have hx2 := hb2; refine (hj _).mono ?_; rintro e w3 ⟨rfl, rfl⟩)
                            | (go_at_call 114; refine (HT.out _ HE.out).mono ?_; rintro e w2 ⟨rfl, hb2⟩)
                            | (go_at_call 130; refine (hi _).mono ?_; rintro e w1 ⟨rfl, rfl⟩))
                           go_ret
                           exact ⟨rfl, (hb2.trans (hb4.mono hb2.size)).trans (hb5.mono (Nat.le_trans hb2.size hb4.size))⟩
                   · rw [c2] at q2 hp
                     simp only [Bool.true_or, Bool.true_and] at hp
                     clear c2 q3
                     obtain ⟨d, hd⟩ : ∃ d, z.extract 1 (n + 1) = d := ⟨_, rfl⟩
                     obtain ⟨q, hqq⟩ : ∃ q, z.extract (n + 3) (n + 7) = q := ⟨_, rfl⟩
                     have hds : d.size = n := by rw [← hd, ByteArray.size_extract]; omega
                     have hqs : q.size = 4 := by rw [← hqq, ByteArray.size_extract]; omega
                     obtain ⟨t5, ht5⟩ : ∃ t5 : ByteArray, (⟨(Lib.trimS (d ++ q).data.toList digTen).toArray⟩ : ByteArray) = t5 := ⟨_, rfl⟩
                     have hdq : (d ++ q).size ≤ 9223372036854775807 := by rw [ByteArray.size_append]; omega
                     have HTR : Hid (∀ w', Calls Tryz.prog 124 #[.string (d ++ q), .string ⟨#[48, 49, 50, 51, 52, 53, 54, 55, 56, 57]⟩] w' fun e w'' => e = .returned (.string t5) ∧ Below w'.heap.size w' w'') := Lib.hid (fun w' => by
                      have h := trim_any (d ++ q) w' hdq
                      rw [show ([48, 49, 50, 51, 52, 53, 54, 55, 56, 57] : List UInt8) = digTen from rfl, ht5] at h
                      exact h)
                     have hA : allDig (d.data.toList ++ q.data.toList) = t5.toList.isEmpty := by
                      rw [← ht5, Lib.toList_data]
                      unfold allDig
                      rw [show (d ++ q).data.toList = d.data.toList ++ q.data.toList by rw [ByteArray.data_append, Array.toList_append]]
                      show ((Lib.trimS (d.data.toList ++ q.data.toList) digTen).toArray.toList == []) = (Lib.trimS (d.data.toList ++ q.data.toList) digTen).toArray.toList.isEmpty
                      generalize (Lib.trimS (d.data.toList ++ q.data.toList) digTen).toArray.toList = L
                      cases L <;> rfl
                     have hd0 : 0 < d.size := by omega
                     have q5 : (((d[0]'hd0).toNat : Int) != 48) = !(z.get! 1 == 48) := by
                      rw [← byte_is z 1 (by omega) 48]
                      have e : d[0]'hd0 = z[1]'(by omega) := by
                       subst hd
                       exact ByteArray.getElem_extract hd0
                      rw [e]; rfl
                     rw [hd, hqq, hA] at hp
                     clear hA ht5 hdq
                     cases c4 : t5.toList.isEmpty
                     · rw [c4] at hp
                       simp only [Bool.false_and] at hp
                       subst hp
                       go_wp2_with (first
                        | (go_at_call 124; have hx4 := hb4; refine (HTR.out w4).mono ?_; rintro e w5 ⟨rfl, hb5⟩)
                        | (go_at_call 114; have hx2 := hb2; refine (HT2.out _ (HE.out.below hb2)).mono ?_; rintro e w4 ⟨rfl, hb4⟩)
                        | (go_at_call 130; have hx2 := hb2; refine (hj _).mono ?_; rintro e w3 ⟨rfl, rfl⟩)
                        | (go_at_call 114; refine (HT.out _ HE.out).mono ?_; rintro e w2 ⟨rfl, hb2⟩)
                        | (go_at_call 130; refine (hi _).mono ?_; rintro e w1 ⟨rfl, rfl⟩))
                       go_ret
                       exact ⟨rfl, (hb2.trans (hb4.mono hb2.size)).trans (hb5.mono (Nat.le_trans hb2.size hb4.size))⟩
                     · rw [c4] at hp
                       simp only [Bool.true_and] at hp
                       cases c5 : (d.toList == [48])
                       · rw [c5] at hp
                         simp only [Bool.false_or] at hp
                         subst hp
                         cases c6 : (z.get! 1 == 48)
                         · rw [c6] at q5
                           clear c6
                           go_wp2_with (first
                            | (go_at_call 124; have hx4 := hb4; refine (HTR.out w4).mono ?_; rintro e w5 ⟨rfl, hb5⟩)
                            | (go_at_call 114; have hx2 := hb2; refine (HT2.out _ (HE.out.below hb2)).mono ?_; rintro e w4 ⟨rfl, hb4⟩)
                            | (go_at_call 130; have hx2 := hb2; refine (hj _).mono ?_; rintro e w3 ⟨rfl, rfl⟩)
                            | (go_at_call 114; refine (HT.out _ HE.out).mono ?_; rintro e w2 ⟨rfl, hb2⟩)
                            | (go_at_call 130; refine (hi _).mono ?_; rintro e w1 ⟨rfl, rfl⟩))
                           go_ret
                           exact ⟨rfl, (hb2.trans (hb4.mono hb2.size)).trans (hb5.mono (Nat.le_trans hb2.size hb4.size))⟩
                         · rw [c6] at q5
                           clear c6
                           go_wp2_with (first
                            | (go_at_call 124; have hx4 := hb4; refine (HTR.out w4).mono ?_; rintro e w5 ⟨rfl, hb5⟩)
                            | (go_at_call 114; have hx2 := hb2; refine (HT2.out _ (HE.out.below hb2)).mono ?_; rintro e w4 ⟨rfl, hb4⟩)
                            | (go_at_call 130; have hx2 := hb2; refine (hj _).mono ?_; rintro e w3 ⟨rfl, rfl⟩)
                            | (go_at_call 114; refine (HT.out _ HE.out).mono ?_; rintro e w2 ⟨rfl, hb2⟩)
                            | (go_at_call 130; refine (hi _).mono ?_; rintro e w1 ⟨rfl, rfl⟩))
                           go_ret
                           exact ⟨rfl, (hb2.trans (hb4.mono hb2.size)).trans (hb5.mono (Nat.le_trans hb2.size hb4.size))⟩
                       · rw [c5] at hp
                         simp only [Bool.true_or] at hp
                         subst hp
                         go_wp2_with (first
                          | (go_at_call 124; have hx4 := hb4; refine (HTR.out w4).mono ?_; rintro e w5 ⟨rfl, hb5⟩)
                          | (go_at_call 114; have hx2 := hb2; refine (HT2.out _ (HE.out.below hb2)).mono ?_; rintro e w4 ⟨rfl, hb4⟩)
                          | (go_at_call 130; have hx2 := hb2; refine (hj _).mono ?_; rintro e w3 ⟨rfl, rfl⟩)
                          | (go_at_call 114; refine (HT.out _ HE.out).mono ?_; rintro e w2 ⟨rfl, hb2⟩)
                          | (go_at_call 130; refine (hi _).mono ?_; rintro e w1 ⟨rfl, rfl⟩))
                         go_ret
                         exact ⟨rfl, (hb2.trans (hb4.mono hb2.size)).trans (hb5.mono (Nat.le_trans hb2.size hb4.size))⟩
             · have hp := HP.out
               rw [decide_eq_false h19] at hp
               simp only [Bool.and_false, Bool.false_and] at hp
               subst hp
               have m1 : decide ((z.size : Int) - 7 < 1) = false := decide_eq_false (by omega)
               have m2 : decide (12 < (z.size : Int) - 7) = true := decide_eq_true (by omega)
               clear HP
               go_wp2_with (first
                | (go_at_call 114; have hx2 := hb2; refine (HT2.out _ (HE.out.below hb2)).mono ?_; rintro e w4 ⟨rfl, hb4⟩)
                | (go_at_call 130; have hx2 := hb2; refine (hj _).mono ?_; rintro e w3 ⟨rfl, rfl⟩)
                | (go_at_call 114; refine (HT.out _ HE.out).mono ?_; rintro e w2 ⟨rfl, hb2⟩)
                | (go_at_call 130; refine (hi _).mono ?_; rintro e w1 ⟨rfl, rfl⟩))
               go_ret
               exact ⟨rfl, hb2.trans (hb4.mono hb2.size)⟩
           · have hp := HP.out
             rw [decide_eq_false h8] at hp
             simp only [Bool.and_false, Bool.false_and] at hp
             subst hp
             have m1 : decide ((z.size : Int) - 7 < 1) = true := decide_eq_true (by omega)
             clear HP
             go_wp2_with (first
              | (go_at_call 114; have hx2 := hb2; refine (HT2.out _ (HE.out.below hb2)).mono ?_; rintro e w4 ⟨rfl, hb4⟩)
              | (go_at_call 130; have hx2 := hb2; refine (hj _).mono ?_; rintro e w3 ⟨rfl, rfl⟩)
              | (go_at_call 114; refine (HT.out _ HE.out).mono ?_; rintro e w2 ⟨rfl, hb2⟩)
              | (go_at_call 130; refine (hi _).mono ?_; rintro e w1 ⟨rfl, rfl⟩))
             go_ret
             exact ⟨rfl, hb2.trans (hb4.mono hb2.size)⟩
  · obtain rfl : i = 0 := by omega
    have hp := HP.out
    simp at hp
    subst hp
    clear HP
    go_enter Tryz.func113, Tryz.ntmps113
    go_wp2_with (go_at_call 130; refine (hi _).mono ?_; rintro e w1 ⟨rfl, rfl⟩)
    go_ret
    exact ⟨rfl, Below.refl _ _⟩
end Go.Proofs.YtihanglnjghcfaaGreatDoor
namespace Go.Proofs.YtihanglnjghcfaaGreatDoor
open Go.RowKit
set_option linter.unusedVariables false
set_option linter.unusedSimpArgs false

def isDig (c : UInt8) : Bool := decide (48 ≤ c.toNat) && decide (c.toNat ≤ 57)
theorem isDig_ten (c : UInt8) : digTen.contains c = isDig c := by
 revert c
 have h : ∀ n : Fin 256, digTen.contains (UInt8.ofNat n.val) = isDig (UInt8.ofNat n.val) := by decide +kernel
 intro c
 have := h ⟨c.toNat, c.toNat_lt⟩
 simpa using this
theorem dropW_nil (l : List UInt8) (p : UInt8 → Bool) : l.dropWhile p = [] ↔ l.all p = true := by
 induction l with
 | nil => simp
 | cons c l ih =>
  rw [List.dropWhile_cons, List.all_cons]
  cases h : p c
  · simp
  · simp only [if_true, Bool.true_and]; exact ih
theorem all_dropW (l : List UInt8) (p : UInt8 → Bool) : (l.dropWhile p).all p = l.all p := by
 induction l with
 | nil => rfl
 | cons c l ih =>
  rw [List.dropWhile_cons]
  cases h : p c
  · simp
  · simp only [if_true, List.all_cons, h, Bool.true_and]; exact ih
theorem allDig_all (l : List UInt8) : allDig l = l.all isDig := by
 unfold allDig Lib.trimS Lib.trimLeftS Lib.trimRightS
 have e : (fun x => digTen.contains x) = isDig := by funext c; exact isDig_ten c
 rw [e]
 have key : ((l.reverse.dropWhile isDig).reverse.dropWhile isDig = []) ↔ l.all isDig = true := by
  rw [dropW_nil, List.all_reverse, all_dropW, List.all_reverse]
 show ((l.reverse.dropWhile isDig).reverse.dropWhile isDig == []) = l.all isDig
 cases h : l.all isDig
 · rw [beq_eq_false_iff_ne]
   intro hh
   rw [key.1 hh] at h; cases h
 · rw [key.2 h]; rfl
def numB (s : ByteArray) : Bool := s.data.toList.all isDig && (decide (0 < s.size) && decide (s.size ≤ 12) && (!(s.get! 0 == 48) || decide (s.size = 1)))
theorem all_hit {l : List UInt8} {i : Nat} {c : UInt8} (h : l[i]? = some c) (hc : isDig c = false) : l.all isDig = false := by
 cases ha : l.all isDig
 · rfl
 · rw [List.all_eq_true] at ha
   rw [ha c (List.mem_of_getElem? h)] at hc; cases hc
set_option maxRecDepth 100000 in
set_option maxHeartbeats 1000000 in
theorem number_any (s : ByteArray) (w : World) (hs : s.size ≤ 140737488355328) : Calls Tryz.prog 90 #[.string s] w fun e w' => e = .returned (.bool (numB s)) ∧ w = w' := by
 generalize hR : numB s = R
 have HR := Lib.hid hR
 clear hR
 go_enter Tryz.func90, Tryz.ntmps90
 go_wp2
 go_loopw [3] (fun v wr => ∃ i : Nat, v = .int .i64 (i : Int) ∧ i ≤ s.size ∧ wr = w ∧ ∀ (j : Nat) c, j < i → s.data.toList[j]? = some c → isDig c = true) (fun v _ => s.size - (intOf v).toNat)
 case atStart => exact ⟨0, rfl, by omega, rfl, fun j c h => by omega⟩
 case round =>
  obtain ⟨i, rfl, hi, rfl, hno⟩ := hrel
  have HN := Lib.hid hno
  clear hno
  by_cases hlt : i < s.size
  · have d0 : decide ((i : Int) < (s.size : Int)) = true := decide_eq_true (by omega)
    have hx := Lib.data_getElem? s i hlt
    by_cases c1 : (s[i]'hlt).toNat < 48
    · have q1 : decide ((((s[i]'hlt).toNat : Nat) : Int) < 48) = true := decide_eq_true (by omega)
      have HS : Hid (R = false) := Lib.hid (by
       rw [← HR.out]; unfold numB
       rw [all_hit hx (by unfold isDig; rw [decide_eq_false (by omega)]; rfl)]; rfl)
      clear hx c1
      go_wp2
      go_ret
      exact ⟨by rw [HS.out]; rfl, rfl⟩
    · have q1 : decide ((((s[i]'hlt).toNat : Nat) : Int) < 48) = false := decide_eq_false (by omega)
      by_cases c2 : 57 < (s[i]'hlt).toNat
      · have q2 : decide ((57 : Int) < (((s[i]'hlt).toNat : Nat) : Int)) = true := decide_eq_true (by omega)
        have HS : Hid (R = false) := Lib.hid (by
         rw [← HR.out]; unfold numB
         rw [all_hit hx (by unfold isDig; rw [show decide ((s[i]'hlt).toNat ≤ 57) = false from decide_eq_false (by omega), Bool.and_false])]; rfl)
        clear hx c1 c2
        go_wp2
        go_ret
        exact ⟨by rw [HS.out]; rfl, rfl⟩
      · have q2 : decide ((57 : Int) < (((s[i]'hlt).toNat : Nat) : Int)) = false := decide_eq_false (by omega)
        have HS : Hid (∀ (j : Nat) c, j < i + 1 → s.data.toList[j]? = some c → isDig c = true) := Lib.hid (fun j c hj h => by
         by_cases e : j = i
         · rw [e, hx] at h
           rw [← Option.some.inj h]
           unfold isDig
           rw [decide_eq_true (by omega), decide_eq_true (by omega)]; rfl
         · exact HN.out j c (by omega) h)
        clear hx c1 c2
        go_wp2
        go_roundw
        case rel => exact ⟨i + 1, by go_num, by omega, by first | rfl | trivial, HS.out⟩
        case measure => simp [intOf]; omega
  · obtain rfl : i = s.size := by omega
    have d0 : decide ((s.size : Int) < (s.size : Int)) = false := decide_eq_false (by omega)
    have hall : s.data.toList.all isDig = true := by
     rw [List.all_eq_true]
     intro c hc
     obtain ⟨j, hj, e⟩ := List.mem_iff_getElem.1 hc
     exact HN.out j c (by rw [Lib.size_eq]; exact hj) (by rw [List.getElem?_eq_getElem hj, e])
    have HR2 : Hid (R = (decide (0 < s.size) && decide (s.size ≤ 12) && (!(s.get! 0 == 48) || decide (s.size = 1)))) := Lib.hid (by
     rw [← HR.out]; unfold numB; rw [hall, Bool.true_and])
    clear hall
    by_cases z0 : 0 < s.size
    · have m0 : decide ((0 : Int) < (s.size : Int)) = true := decide_eq_true (by omega)
      by_cases z12 : s.size ≤ 12
      · have m1 : decide ((s.size : Int) ≤ 12) = true := decide_eq_true (by omega)
        have q := byte_is s 0 z0 48
        rw [show (((48 : UInt8).toNat : Nat) : Int) = 48 from rfl] at q
        have q : (((s[0]'z0).toNat : Int) != 48) = !(s.get! 0 == 48) := by rw [← q]; rfl
        have h := HR2.out
        rw [decide_eq_true z0, decide_eq_true z12] at h
        simp only [Bool.true_and] at h
        have HR3 := Lib.hid h
        clear h HR2
        cases hb : (s.get! 0 == 48)
        · rw [hb] at q HR3
          clear hb
          go_wp2
          go_ret
          exact ⟨by rw [HR3.out]; rfl, rfl⟩
        · rw [hb] at q HR3
          clear hb
          by_cases z1 : s.size = 1
          · have m2 : ((s.size : Int) == 1) = true := by rw [beq_iff_eq]; omega
            have h := HR3.out
            rw [decide_eq_true z1] at h
            have HR4 := Lib.hid h
            clear h HR3 z1
            go_wp2
            go_ret
            exact ⟨by rw [HR4.out]; rfl, rfl⟩
          · have m2 : ((s.size : Int) == 1) = false := by rw [beq_eq_false_iff_ne]; omega
            have h := HR3.out
            rw [decide_eq_false z1] at h
            have HR4 := Lib.hid h
            clear h HR3 z1
            go_wp2
            go_ret
            exact ⟨by rw [HR4.out]; rfl, rfl⟩
      · have m1 : decide ((s.size : Int) ≤ 12) = false := decide_eq_false (by omega)
        have h := HR2.out
        rw [decide_eq_false z12] at h
        simp only [Bool.and_false, Bool.false_and] at h
        have HR3 := Lib.hid h
        clear h HR2
        go_wp2
        go_ret
        exact ⟨by rw [HR3.out]; rfl, rfl⟩
    · have m0 : decide ((0 : Int) < (s.size : Int)) = false := decide_eq_false (by omega)
      have h := HR2.out
      rw [decide_eq_false z0] at h
      simp only [Bool.false_and] at h
      have HR3 := Lib.hid h
      clear h HR2
      go_wp2
      go_ret
      exact ⟨by rw [HR3.out]; rfl, rfl⟩
end Go.Proofs.YtihanglnjghcfaaGreatDoor
namespace Go.Proofs.YtihanglnjghcfaaGreatDoor
open Go.RowKit
set_option linter.unusedVariables false
set_option linter.unusedSimpArgs false

theorem decodeL_N (l : List UInt8) : Lib.decodeL l = Lib.decodeN l.length (l.getD 0 0).toNat (l.getD 1 0).toNat (l.getD 2 0).toNat (l.getD 3 0).toNat := by
 have g : ∀ k, (⟨l.toArray⟩ : ByteArray).get! k = l.getD k 0 := fun k => by
  have := Lib.getD_get!' ⟨l.toArray⟩ k
  simpa using this.symm
 unfold Lib.decodeL
 rw [Lib.decode_at, Nat.sub_zero, g, g, g, g, Lib.size_eq]
theorem decodeN_snoc (n b0 b1 b2 b3 c1 c2 c3 : Nat) (hn : 1 ≤ n) (h1 : c1 = if n = 1 then 32 else b1) (h2 : c2 = if n = 2 then 32 else b2) (h3 : c3 = if n = 3 then 32 else b3) :
 Lib.decodeN (n + 1) b0 c1 c2 c3 = Lib.decodeN n b0 b1 b2 b3 := by
 have hc : n = 1 ∨ n = 2 ∨ n = 3 ∨ 4 ≤ n := by omega
 unfold Lib.decodeN
 rcases hc with rfl | rfl | rfl | hn4
 · simp at h1; subst h1; simp
 · simp at h1 h2; subst h1; subst h2; simp
 · simp at h1 h2 h3; subst h1; subst h2; subst h3; simp
 · rw [if_neg (by omega)] at h1 h2 h3
   subst h1; subst h2; subst h3
   simp only [show (1 < n + 1) = (1 < n) from propext ⟨fun _ => by omega, fun _ => by omega⟩, show (2 < n + 1) = (2 < n) from propext ⟨fun _ => by omega, fun _ => by omega⟩, show (3 < n + 1) = (3 < n) from propext ⟨fun _ => by omega, fun _ => by omega⟩]
theorem decodeL_snoc (l : List UInt8) (hne : l ≠ []) : Lib.decodeL (l ++ [32]) = Lib.decodeL l := by
 have hl : 1 ≤ l.length := by cases l with | nil => exact absurd rfl hne | cons _ _ => simp
 have g : ∀ k, ((l ++ [32]).getD k 0).toNat = if l.length = k then 32 else (l.getD k 0).toNat := fun k => by
  by_cases h : k < l.length
  · rw [if_neg (by omega), List.getD_eq_getElem?_getD, List.getElem?_append_left h, List.getD_eq_getElem?_getD]
  · by_cases e : l.length = k
    · rw [if_pos e, List.getD_eq_getElem?_getD, List.getElem?_append_right (by omega), e, Nat.sub_self]; rfl
    · rw [if_neg e, List.getD_eq_getElem?_getD, List.getElem?_append_right (by omega), List.getElem?_eq_none (by simp; omega), List.getD_eq_getElem?_getD, List.getElem?_eq_none (by omega)]
 rw [decodeL_N, decodeL_N, List.length_append]
 have g0 := g 0
 rw [if_neg (by omega)] at g0
 rw [g0]
 exact decodeN_snoc l.length _ _ _ _ _ _ _ hl (g 1) (g 2) (g 3)
theorem decodeL_width (l : List UInt8) (hne : l ≠ []) : 1 ≤ (Lib.decodeL l).2 ∧ (Lib.decodeL l).2 ≤ l.length := by
 have hl : 1 ≤ l.length := by cases l with | nil => exact absurd rfl hne | cons _ _ => simp
 rw [decodeL_N]
 unfold Lib.decodeN
 repeat' split
 all_goals (simp only []; omega)
theorem validD_snoc : ∀ (n : Nat) (l : List UInt8), l.length ≤ n → Lib.validD (l ++ [32]) = Lib.validD l
 | n, [], _ => by rw [List.nil_append, Lib.validD_cons _ _ (by decide)]
 | 0, _ :: _, h => by simp at h
 | n + 1, c :: l, h => by
  have hw := decodeL_width (c :: l) (by simp)
  rw [Lib.validD_step _ (by simp), Lib.validD_step (c :: l) (by simp), decodeL_snoc _ (by simp)]
  split
  · rfl
  · rw [List.drop_append_of_le_length hw.2]
    exact validD_snoc n _ (by rw [List.length_drop]; simp at h hw ⊢; omega)
theorem indexByte_at {l : List UInt8} {c : UInt8} {i : Nat} (h : l[i]? = some c) (hn : ∀ j, j < i → l[j]? ≠ some c) : Lib.indexByte l c = i := by
 cases hx : Lib.indexByte l c with
 | negSucc k =>
  have hge := Lib.indexByte_ge l c
  rw [hx] at hge
  have e : Lib.indexByte l c = -1 := by rw [hx]; omega
  exact absurd h (Lib.indexByte_none e i)
 | ofNat o =>
  obtain ⟨h1, h2⟩ := Lib.indexByte_some (o := o) hx
  have : o = i := by
   rcases Nat.lt_trichotomy o i with h' | h' | h'
   · exact absurd h1 (hn o h')
   · exact h'
   · exact absurd h (h2 i h')
  rw [this]; rfl
theorem indexByte_not {l : List UInt8} {c : UInt8} (h : c ∉ l) : Lib.indexByte l c = -1 := idxByte_high l c h
theorem containsAny_any' (l cs : List UInt8) : Lib.containsAny l cs = l.any fun x => cs.contains x := by
 unfold Lib.containsAny
 induction l with
 | nil => rfl
 | cons b l ih =>
  rw [List.any_cons, Lib.indexAny]
  cases h : cs.contains b
  · simp only [Bool.false_eq_true, if_false, Bool.false_or]
    rw [← ih]
    have hge := Lib.indexAny_ge cs l
    by_cases hm : Lib.indexAny l cs = -1
    · rw [hm]; rfl
    · have h3 : (Lib.indexAny l cs == -1) = false := by simpa using hm
      rw [h3, if_neg (by decide)]
      rw [decide_eq_decide]; omega
  · simp
/-- A person's name: what is asked of it, with the blank behind it or without. -/
theorem name_same (l : List UInt8) (h : 60 ∉ l) : withoutB (l ++ [32]) [62, 10, 0] = textB l := by
 unfold withoutB textB
 rw [validD_snoc l.length l (Nat.le_refl _), containsAny_any', containsAny_any']
 congr 2
 rw [List.any_append]
 simp only [List.any_cons, List.any_nil, show ([62, 10, 0] : List UInt8).contains 32 = false by decide, Bool.or_false]
 induction l with
 | nil => rfl
 | cons c l ih =>
  rw [List.any_cons, List.any_cons, ih (fun hm => h (by simp [hm]))]
  congr 1
  have hc : ¬ c = 60 := fun e => h (by simp [e])
  unfold badL
  simp only [List.contains_cons]
  rw [show (c == 60) = false by simpa using hc, Bool.false_or]
theorem mail_same (l : List UInt8) (h : 62 ∉ l) : withoutB l [60, 10, 0] = textB l := by
 unfold withoutB textB
 rw [containsAny_any', containsAny_any']
 congr 2
 induction l with
 | nil => rfl
 | cons c l ih =>
  rw [List.any_cons, List.any_cons, ih (fun hm => h (by simp [hm]))]
  congr 1
  have hc : ¬ c = 62 := fun e => h (by simp [e])
  unfold badL
  simp only [List.contains_cons]
  rw [show (c == 62) = false by simpa using hc, Bool.false_or]
end Go.Proofs.YtihanglnjghcfaaGreatDoor
namespace Go.Proofs.YtihanglnjghcfaaGreatDoor
open Go.RowKit
set_option linter.unusedVariables false
set_option linter.unusedSimpArgs false

def zoneB (q : ByteArray) : Bool := decide (q.size = 5) && (q.get! 0 == 43 || q.get! 0 == 45) && (q.data.toList.drop 1).all isDig
theorem ext_list' (s : ByteArray) (p k : Nat) : (s.extract p k).data.toList = (s.data.toList.drop p).take (k - p) := Lib.extract_data s p k
theorem get_ext (s : ByteArray) (a b k : Nat) (hb : b ≤ s.size) (hk : a + k < b) : (s.extract a b).get! k = s.get! (a + k) := by
 have h1 := getO_toList (s.extract a b) k (by rw [ByteArray.size_extract]; omega)
 rw [ext_list', List.getElem?_take, if_pos (by omega), List.getElem?_drop, getO_toList s (a + k) (by omega)] at h1
 exact (Option.some.inj h1).symm
theorem time_same (z : ByteArray) (p : Nat) (h0 : z.get! 0 = 32) (hp1 : p + 1 < z.size) (hp : z.get! (p + 1) = 32) (hn : ∀ j, j < p → z.get! (j + 1) ≠ 32) :
 timeB z = (numB (z.extract 1 (p + 1)) && zoneB (z.extract (p + 2) z.size)) := by
 by_cases hs : z.size = p + 7
 · have a1 : (z.extract 1 (p + 1)).size = p := by rw [ByteArray.size_extract]; omega
   have a2 : (z.extract (p + 2) (p + 7)).size = 5 := by rw [ByteArray.size_extract]; omega
   have a3 : (z.extract (p + 2) (p + 7)).get! 0 = z.get! (p + 2) := get_ext z _ _ 0 (by omega) (by omega)
   have a4 : (z.extract (p + 2) (p + 7)).data.toList.drop 1 = (z.extract (p + 3) (p + 7)).data.toList := by
    rw [ext_list', ext_list', List.drop_take, List.drop_drop]
    congr 1
   unfold timeB numB zoneB
   rw [hs, show p + 7 - 6 = p + 1 by omega, show p + 7 - 5 = p + 2 by omega, show p + 7 - 4 = p + 3 by omega, h0, hp, allDig_all, List.all_append, a1, a2, a3, a4, Lib.toList_data]
   cases c1 : (z.extract 1 (p + 1)).data.toList.all isDig
   · simp
   · by_cases hp0 : 0 < p
     · have b0 : (z.extract 1 (p + 1)).get! 0 = z.get! 1 := get_ext z _ _ 0 (by omega) (by omega)
       rw [b0]
       have e1 : decide (8 ≤ p + 7) = true := decide_eq_true (by omega)
       have e2 : decide (p + 7 ≤ 19) = decide (p ≤ 12) := by rw [decide_eq_decide]; omega
       have e3 : decide (0 < p) = true := decide_eq_true hp0
       have e4 : ((z.extract 1 (p + 1)).data.toList == [48]) = (decide (p = 1) && (z.get! 1 == 48)) := by
        by_cases hq : p = 1
        · have hL := getO_toList (z.extract 1 (p + 1)) 0 (by omega)
          rw [b0] at hL
          have hlen : (z.extract 1 (p + 1)).data.toList.length = 1 := by rw [← Lib.size_eq, a1, hq]
          rw [decide_eq_true hq, Bool.true_and]
          generalize (z.extract 1 (p + 1)).data.toList = L at hL hlen
          match L, hlen with
          | [c], _ =>
           simp at hL
           rw [hL]
           cases h : (z.get! 1 == 48)
           · rw [beq_eq_false_iff_ne] at h ⊢
             intro hh; exact h (by simpa using hh)
           · rw [beq_iff_eq] at h; rw [h]; rfl
        · rw [decide_eq_false hq, Bool.false_and, beq_eq_false_iff_ne]
          intro hh
          have := congrArg List.length hh
          rw [← Lib.size_eq, a1] at this
          exact hq (by simpa using this)
       rw [e1, e2, e3, e4]
       cases decide (p ≤ 12) <;> cases (z.get! 1 == 48) <;> cases decide (p = 1) <;> cases (z.get! (p + 2) == 43) <;> cases (z.get! (p + 2) == 45) <;> cases (z.extract (p + 3) (p + 7)).data.toList.all isDig <;> rfl
     · have e1 : decide (8 ≤ p + 7) = false := decide_eq_false (by omega)
       have e3 : decide (0 < p) = false := decide_eq_false hp0
       rw [e1, e3]
       simp
 · have r : zoneB (z.extract (p + 2) z.size) = false := by
    unfold zoneB
    rw [decide_eq_false (by rw [ByteArray.size_extract]; omega)]
    rfl
   rw [r, Bool.and_false]
   cases ht : timeB z
   · rfl
   · exfalso
     unfold timeB at ht
     simp only [Bool.and_eq_true, decide_eq_true_eq, beq_iff_eq] at ht
     obtain ⟨⟨⟨⟨⟨⟨t1, t2⟩, t3⟩, t4⟩, t5⟩, t6⟩, t7⟩ := ht
     rw [allDig_all, List.all_append, Bool.and_eq_true] at t6
     have hpn : ¬ (z.size - 7 < p) := fun h => by
      have := hn (z.size - 7) h
      rw [show z.size - 7 + 1 = z.size - 6 by omega] at this
      exact this t4
     have hlt : p < z.size - 7 := by omega
     have hm := getO_toList (z.extract 1 (z.size - 6)) p (by rw [ByteArray.size_extract]; omega)
     rw [get_ext z _ _ p (by omega) (by omega), Nat.add_comm 1 p, hp] at hm
     have := List.all_eq_true.1 t6.1 _ (List.mem_of_getElem? hm)
     revert this; decide
end Go.Proofs.YtihanglnjghcfaaGreatDoor
