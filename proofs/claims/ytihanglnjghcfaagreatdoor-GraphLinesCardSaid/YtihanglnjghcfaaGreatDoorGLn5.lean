/- object.Person. -/
import Derived.Test.YtihanglnjghcfaaGreatDoorGLn4
import Derived.Lib.IndexLaws
import Derived.Lib.ValidLaws
import Derived.Lib.RuneCount
import Derived.Test.YtihanglnjghcfaaGreatDoorGLn2
namespace Go.Proofs.YtihanglnjghcfaaGreatDoor
open Go.RowKit
set_option linter.unusedVariables false
set_option linter.unusedSimpArgs false

def digTen : List UInt8 := [48, 49, 50, 51, 52, 53, 54, 55, 56, 57]
/-- All of a text digits? -/
def allDig (l : List UInt8) : Bool := (Lib.trimS l digTen).toArray.toList == []
/-- What stands behind the mail: a blank, the time, a blank, the zone. -/
def timeB (z : ByteArray) : Bool :=
 decide (8 ≤ z.size) && decide (z.size ≤ 19) && (z.get! 0 == 32) && (z.get! (z.size - 6) == 32) && (z.get! (z.size - 5) == 43 || z.get! (z.size - 5) == 45) &&
 allDig ((z.extract 1 (z.size - 6)).data.toList ++ (z.extract (z.size - 4) z.size).data.toList) && ((z.extract 1 (z.size - 6)).toList == [48] || !(z.get! 1 == 48))
/-- What stands behind the name. -/
def mailB (y : ByteArray) : Bool :=
 match Lib.indexByte y.data.toList 62 with
 | .ofNat j => textB (y.extract 0 j).data.toList && timeB (y.extract (j + 1) y.size)
 | .negSucc _ => false
/-- Does a text tell who and when? -/
def persB (s : ByteArray) : Bool :=
 match Lib.indexByte s.data.toList 60 with
 | .ofNat i => decide (1 ≤ i) && (s.get! (i - 1) == 32) && textB (s.extract 0 (i - 1)).data.toList && mailB (s.extract (i + 1) s.size)
 | .negSucc _ => false
def PersPost (b : Bool) (w : World) (e : Ending) (w' : World) : Prop := e = .returned (.bool b) ∧ Below w.heap.size w w'
theorem get_eq (s : ByteArray) (i : Nat) (h : i < s.size) : s[i]'h = s.get! i := by
 have h1 := getO_toList s i h
 have h2 := Lib.data_getElem? s i h
 rw [h2] at h1
 exact Option.some.inj h1
theorem byte_is (s : ByteArray) (i : Nat) (h : i < s.size) (c : UInt8) : (((s[i]'h).toNat : Int) == (c.toNat : Int)) = (s.get! i == c) := by
 rw [get_eq]
 generalize s.get! i = x
 by_cases e : x = c
 · subst e; simp
 · have : (x == c) = false := by simpa using e
   rw [this, beq_eq_false_iff_ne]
   intro hh
   exact e (UInt8.toNat_inj.1 (by omega))
set_option maxRecDepth 1000000 in
set_option maxHeartbeats 4000000 in
theorem person_any (s : ByteArray) (w : World) (hE : EnvO w) (hs : s.size ≤ 140737488355000) : Calls Tryz.prog 113 #[.string s] w (PersPost (persB s) w) := by
 have HE := Lib.hid hE
 have hi := fun w' => Tryz.strings_IndexByte s 60 w'
 have HP : Hid (persB s = (match Lib.indexByte s.data.toList 60 with
  | .ofNat i => decide (1 ≤ i) && (s.get! (i - 1) == 32) && textB (s.extract 0 (i - 1)).data.toList && mailB (s.extract (i + 1) s.size)
  | .negSucc _ => false)) := Lib.hid rfl
 rw [show (60 : Int).toNat.toUInt8 = 60 from rfl] at hi
 generalize persB s = PB at *
 cases hix : Lib.indexByte s.data.toList 60 with
 | negSucc k =>
  rw [hix] at hi HP
  have hneg : (Int.negSucc k) < 1 := by omega
  have hp := HP.out
  simp only [] at hp
  subst hp
  clear HP hix
  generalize Int.negSucc k = X at *
  go_enter Tryz.func113, Tryz.ntmps113
  go_wp2_with (go_at_call 130; refine (hi _).mono ?_; rintro e w1 ⟨rfl, rfl⟩)
  go_ret
  exact ⟨rfl, Below.refl _ _⟩
 | ofNat i =>
  have hil : i < s.size := by
   have h := (Lib.indexByte_some (o := i) hix).1
   rw [Lib.size_eq]; exact (List.getElem?_eq_some_iff.1 h).1
  rw [hix] at hi HP
  have hi : ∀ w', Calls Tryz.prog 130 #[.string s, .int .u8 60] w' fun e w'' => e = .returned (.int .i64 (i : Int)) ∧ w'' = w' := hi
  clear hix
  by_cases h1 : 1 ≤ i
  · obtain ⟨k, rfl⟩ : ∃ k, i = k + 1 := ⟨i - 1, by omega⟩
    have hk : k < s.size := by omega
    have hn1 : decide ((k : Int) + 1 < 1) = false := decide_eq_false (by omega)
    have HP : Hid (PB = ((s.get! k == 32) && textB (s.extract 0 k).data.toList && mailB (s.extract (k + 1 + 1) s.size))) := Lib.hid (by
     have h := HP.out
     simp only [] at h
     rw [h, decide_eq_true h1, Bool.true_and]
     rfl)
    have hq := byte_is s k hk 32
    rw [show (((32 : UInt8).toNat : Nat) : Int) = 32 from rfl] at hq
    have hq : (((s[k]'hk).toNat : Int) != 32) = !(s.get! k == 32) := by rw [← hq]; rfl
    cases hb : (s.get! k == 32)
    · rw [hb] at hq HP
      have hp := HP.out
      simp only [Bool.false_and] at hp
      subst hp
      clear HP hb h1
      go_enter Tryz.func113, Tryz.ntmps113
      go_wp2_with (go_at_call 130; refine (hi _).mono ?_; rintro e w1 ⟨rfl, rfl⟩)
      go_ret
      exact ⟨rfl, Below.refl _ _⟩
    · rw [hb] at hq HP
      have hp := HP.out
      simp only [Bool.true_and] at hp
      have HP := Lib.hid hp
      clear hp hb h1
      obtain ⟨t, ht⟩ : ∃ t, s.extract 0 k = t := ⟨_, rfl⟩
      have hts : t.size ≤ 140737488355000 := by rw [← ht, ByteArray.size_extract]; omega
      have hT := fun w' hE' => text_any t w' hE' (by omega)
      rw [ht] at HP
      obtain ⟨y, hy⟩ : ∃ y, s.extract (k + 1 + 1) s.size = y := ⟨_, rfl⟩
      have hys : y.size ≤ 140737488355000 := by rw [← hy, ByteArray.size_extract]; omega
      rw [hy] at HP
      have HT := Lib.hid hT
      clear hT
      cases hb : textB t.data.toList
      · rw [hb] at HP HT
        have hp := HP.out
        simp only [Bool.false_and] at hp
        subst hp
        clear HP hb
        go_enter Tryz.func113, Tryz.ntmps113
        go_wp2_with (first
         | (go_at_call 114; refine (HT.out _ HE.out).mono ?_; rintro e w2 ⟨rfl, hb2⟩)
         | (go_at_call 130; refine (hi _).mono ?_; rintro e w1 ⟨rfl, rfl⟩))
        go_ret
        exact ⟨rfl, hb2⟩
      · rw [hb] at HP HT
        have hp := HP.out
        simp only [Bool.true_and] at hp
        have HP := Lib.hid hp
        clear hp hb
        go_enter Tryz.func113, Tryz.ntmps113
        have HPM : Hid (PB = mailB y) := HP
        have hj := fun w' => Tryz.strings_IndexByte y 62 w'
        rw [show (62 : Int).toNat.toUInt8 = 62 from rfl] at hj
        have HPM := HPM.out
        unfold mailB at HPM
        have HP := Lib.hid HPM
        clear HPM
        cases hix : Lib.indexByte y.data.toList 62 with
        | negSucc m =>
         rw [hix] at hj HP
         have hneg : (Int.negSucc m) < 0 := by omega
         have hp := HP.out
         simp only [] at hp
         subst hp
         clear HP hix
         generalize Int.negSucc m = X at *
         go_wp2_with (first
          | (go_at_call 130; have hx2 := hb2; refine (hj _).mono ?_; rintro e w3 ⟨rfl, rfl⟩)
          | (go_at_call 114; refine (HT.out _ HE.out).mono ?_; rintro e w2 ⟨rfl, hb2⟩)
          | (go_at_call 130; refine (hi _).mono ?_; rintro e w1 ⟨rfl, rfl⟩))
         go_ret
         exact ⟨rfl, hb2⟩
        | ofNat j =>
         have hjl : j < y.size := by
          have h := (Lib.indexByte_some (o := j) hix).1
          rw [Lib.size_eq]; exact (List.getElem?_eq_some_iff.1 h).1
         rw [hix] at hj HP
         have hj : ∀ w', Calls Tryz.prog 130 #[.string y, .int .u8 62] w' fun e w'' => e = .returned (.int .i64 (j : Int)) ∧ w'' = w' := hj
         clear hix
         have hj0 : ¬ ((j : Int) < 0) := by omega
         obtain ⟨t2, ht2⟩ : ∃ t2, y.extract 0 j = t2 := ⟨_, rfl⟩
         have hts2 : t2.size ≤ 140737488355000 := by rw [← ht2, ByteArray.size_extract]; omega
         have HT2 := Lib.hid (fun w' hE' => text_any t2 w' hE' (by omega))
         obtain ⟨z, hz⟩ : ∃ z, y.extract (j + 1) y.size = z := ⟨_, rfl⟩
         have hzs : z.size ≤ 140737488355000 := by rw [← hz, ByteArray.size_extract]; omega
         have hp := HP.out
         simp only [] at hp
         rw [ht2, hz] at hp
         have HP := Lib.hid hp
         clear hp
         cases hb : textB t2.data.toList
         · rw [hb] at HP HT2
           have hp := HP.out
           simp only [Bool.false_and] at hp
           subst hp
           clear HP hb
           go_wp2_with (first
            | (go_at_call 114; have hx2 := hb2; refine (HT2.out _ (HE.out.below hb2)).mono ?_; rintro e w4 ⟨rfl, hb4⟩)
            | (go_at_call 130; have hx2 := hb2; refine (hj _).mono ?_; rintro e w3 ⟨rfl, rfl⟩)
            | (go_at_call 114; refine (HT.out _ HE.out).mono ?_; rintro e w2 ⟨rfl, hb2⟩)
            | (go_at_call 130; refine (hi _).mono ?_; rintro e w1 ⟨rfl, rfl⟩))
           go_ret
           exact ⟨rfl, hb2.trans (hb4.mono hb2.size)⟩
         · rw [hb] at HP HT2
           have hp := HP.out
           simp only [Bool.true_and] at hp
           have HP := Lib.hid hp
           clear hp hb
           unfold timeB at HP
           by_cases h8 : 8 ≤ z.size
           · by_cases h19 : z.size ≤ 19
             · obtain ⟨n, hn⟩ : ∃ n, z.size = n + 7 := ⟨z.size - 7, by omega⟩
               have hp := HP.out
               rw [decide_eq_true h8, decide_eq_true h19, hn, show n + 7 - 6 = n + 1 by omega, show n + 7 - 5 = n + 2 by omega, show n + 7 - 4 = n + 3 by omega] at hp
               simp only [Bool.true_and] at hp
               have hn1 : 1 ≤ n := by omega
               have hn12 : n ≤ 12 := by omega
               have m1 : decide ((n : Int) < 1) = false := decide_eq_false (by omega)
               have m2 : decide (12 < (n : Int)) = false := decide_eq_false (by omega)
               have g0 : 0 < z.size := by omega
               have g1 : n + 1 < z.size := by omega
               have g2 : n + 2 < z.size := by omega
               have q0 : (((z[0]'g0).toNat : Int) != 32) = !(z.get! 0 == 32) := by rw [← byte_is z 0 g0 32]; rfl
               have q1 : (((z[n + 1]'g1).toNat : Int) != 32) = !(z.get! (n + 1) == 32) := by rw [← byte_is z (n + 1) g1 32]; rfl
               have q2 : (((z[n + 2]'g2).toNat : Int) != 43) = !(z.get! (n + 2) == 43) := by rw [← byte_is z (n + 2) g2 43]; rfl
               have q3 : (((z[n + 2]'g2).toNat : Int) != 45) = !(z.get! (n + 2) == 45) := by rw [← byte_is z (n + 2) g2 45]; rfl
               clear h8 h19 HP
               cases c0 : (z.get! 0 == 32)
               · rw [c0] at q0 hp
                 simp only [Bool.false_and] at hp
                 subst hp
                 clear c0 q1 q2 q3
                 go_wp2_with (first
                  | (go_at_call 114; have hx2 := hb2; refine (HT2.out _ (HE.out.below hb2)).mono ?_; rintro e w4 ⟨rfl, hb4⟩)
                  | (go_at_call 130; have hx2 := hb2; refine (hj _).mono ?_; rintro e w3 ⟨rfl, rfl⟩)
                  | (go_at_call 114; refine (HT.out _ HE.out).mono ?_; rintro e w2 ⟨rfl, hb2⟩)
                  | (go_at_call 130; refine (hi _).mono ?_; rintro e w1 ⟨rfl, rfl⟩))
                 go_ret
                 exact ⟨rfl, hb2.trans (hb4.mono hb2.size)⟩
               · rw [c0] at q0 hp
                 simp only [Bool.true_and] at hp
                 clear c0
                 cases c1 : (z.get! (n + 1) == 32)
                 · rw [c1] at q1 hp
                   simp only [Bool.false_and] at hp
                   subst hp
                   clear c1 q2 q3
                   go_wp2_with (first
                    | (go_at_call 114; have hx2 := hb2; refine (HT2.out _ (HE.out.below hb2)).mono ?_; rintro e w4 ⟨rfl, hb4⟩)
                    | (go_at_call 130; have hx2 := hb2; refine (hj _).mono ?_; rintro e w3 ⟨rfl, rfl⟩)
                    | (go_at_call 114; refine (HT.out _ HE.out).mono ?_; rintro e w2 ⟨rfl, hb2⟩)
                    | (go_at_call 130; refine (hi _).mono ?_; rintro e w1 ⟨rfl, rfl⟩))
                   go_ret
                   exact ⟨rfl, hb2.trans (hb4.mono hb2.size)⟩
                 · rw [c1] at q1 hp
                   simp only [Bool.true_and] at hp
                   clear c1
                   cases c2 : (z.get! (n + 2) == 43)
                   · rw [c2] at q2 hp
                     simp only [Bool.false_or] at hp
                     clear c2
                     cases c3 : (z.get! (n + 2) == 45)
                     · rw [c3] at q3 hp
                       simp only [Bool.false_and] at hp
                       subst hp
                       clear c3
                       go_wp2_with (first
                        | (go_at_call 114; have hx2 := hb2; refine (HT2.out _ (HE.out.below hb2)).mono ?_; rintro e w4 ⟨rfl, hb4⟩)
                        | (go_at_call 130; have hx2 := hb2; refine (hj _).mono ?_; rintro e w3 ⟨rfl, rfl⟩)
                        | (go_at_call 114; refine (HT.out _ HE.out).mono ?_; rintro e w2 ⟨rfl, hb2⟩)
                        | (go_at_call 130; refine (hi _).mono ?_; rintro e w1 ⟨rfl, rfl⟩))
                       go_ret
                       exact ⟨rfl, hb2.trans (hb4.mono hb2.size)⟩
                     · rw [c3] at q3 hp
                       simp only [Bool.true_and] at hp
                       clear c3
                       obtain ⟨d, hd⟩ : ∃ d, z.extract 1 (n + 1) = d := ⟨_, rfl⟩
                       obtain ⟨q, hqq⟩ : ∃ q, z.extract (n + 3) (n + 7) = q := ⟨_, rfl⟩
                       have hds : d.size = n := by rw [← hd, ByteArray.size_extract]; omega
                       have hqs : q.size = 4 := by rw [← hqq, ByteArray.size_extract]; omega
                       obtain ⟨t5, ht5⟩ : ∃ t5 : ByteArray, (⟨(Lib.trimS (d ++ q).data.toList digTen).toArray⟩ : ByteArray) = t5 := ⟨_, rfl⟩
                       have hdq : (d ++ q).size ≤ 9223372036854775807 := by rw [ByteArray.size_append]; omega
                       have HTR : Hid (∀ w', Calls Tryz.prog 124 #[.string (d ++ q), .string ⟨#[48, 49, 50, 51, 52, 53, 54, 55, 56, 57]⟩] w' fun e w'' => e = .returned (.string t5) ∧ Below w'.heap.size w' w'') := Lib.hid (fun w' => by
                        have h := trim_any (d ++ q) w' hdq
                        rw [show ([48, 49, 50, 51, 52, 53, 54, 55, 56, 57] : List UInt8) = digTen from rfl, ht5] at h
                        exact h)
                       have hA : allDig (d.data.toList ++ q.data.toList) = t5.toList.isEmpty := by
                        rw [← ht5, Lib.toList_data]
                        unfold allDig
                        rw [show (d ++ q).data.toList = d.data.toList ++ q.data.toList by rw [ByteArray.data_append, Array.toList_append]]
                        show ((Lib.trimS (d.data.toList ++ q.data.toList) digTen).toArray.toList == []) = (Lib.trimS (d.data.toList ++ q.data.toList) digTen).toArray.toList.isEmpty
                        generalize (Lib.trimS (d.data.toList ++ q.data.toList) digTen).toArray.toList = L
                        cases L <;> rfl
                       have hd0 : 0 < d.size := by omega
                       have q5 : (((d[0]'hd0).toNat : Int) != 48) = !(z.get! 1 == 48) := by
                        rw [← byte_is z 1 (by omega) 48]
                        have e : d[0]'hd0 = z[1]'(by omega) := by
                         subst hd
                         exact ByteArray.getElem_extract hd0
                        rw [e]; rfl
                       rw [hd, hqq, hA] at hp
                       clear hA ht5 hdq
                       cases c4 : t5.toList.isEmpty
                       · rw [c4] at hp
                         simp only [Bool.false_and] at hp
                         subst hp
                         go_wp2_with (first
                          | (go_at_call 124; have hx4 := hb4; refine (HTR.out w4).mono ?_; rintro e w5 ⟨rfl, hb5⟩)
                          | (go_at_call 114; have hx2 := hb2; refine (HT2.out _ (HE.out.below hb2)).mono ?_; rintro e w4 ⟨rfl, hb4⟩)
                          | (go_at_call 130; have hx2 := hb2; refine (hj _).mono ?_; rintro e w3 ⟨rfl, rfl⟩)
                          | (go_at_call 114; refine (HT.out _ HE.out).mono ?_; rintro e w2 ⟨rfl, hb2⟩)
                          | (go_at_call 130; refine (hi _).mono ?_; rintro e w1 ⟨rfl, rfl⟩))
                         go_ret
                         exact ⟨rfl, (hb2.trans (hb4.mono hb2.size)).trans (hb5.mono (Nat.le_trans hb2.size hb4.size))⟩
                       · rw [c4] at hp
                         simp only [Bool.true_and] at hp
                         cases c5 : (d.toList == [48])
                         · rw [c5] at hp
                           simp only [Bool.false_or] at hp
                           subst hp
                           cases c6 : (z.get! 1 == 48)
                           · rw [c6] at q5
                             clear c6
                             go_wp2_with (first
                              | (go_at_call 124; have hx4 := hb4; refine (HTR.out w4).mono ?_; rintro e w5 ⟨rfl, hb5⟩)
                              | (go_at_call 114; have hx2 := hb2; refine (HT2.out _ (HE.out.below hb2)).mono ?_; rintro e w4 ⟨rfl, hb4⟩)
                              | (go_at_call 130; have hx2 := hb2; refine (hj _).mono ?_; rintro e w3 ⟨rfl, rfl⟩)
                              | (go_at_call 114; refine (HT.out _ HE.out).mono ?_; rintro e w2 ⟨rfl, hb2⟩)
                              | (go_at_call 130; refine (hi _).mono ?_; rintro e w1 ⟨rfl, rfl⟩))
                             go_ret
                             exact ⟨rfl, (hb2.trans (hb4.mono hb2.size)).trans (hb5.mono (Nat.le_trans hb2.size hb4.size))⟩
                           · rw [c6] at q5
                             clear c6
                             go_wp2_with (first
                              | (go_at_call 124; have hx4 := hb4; refine (HTR.out w4).mono ?_; rintro e w5 ⟨rfl, hb5⟩)
                              | (go_at_call 114; have hx2 := hb2; refine (HT2.out _ (HE.out.below hb2)).mono ?_; rintro e w4 ⟨rfl, hb4⟩)
                              | (go_at_call 130; have hx2 := hb2; refine (hj _).mono ?_; rintro e w3 ⟨rfl, rfl⟩)
                              | (go_at_call 114; refine (HT.out _ HE.out).mono ?_; rintro e w2 ⟨rfl, hb2⟩)
                              | (go_at_call 130; refine (hi _).mono ?_; rintro e w1 ⟨rfl, rfl⟩))
                             go_ret
                             exact ⟨rfl, (hb2.trans (hb4.mono hb2.size)).trans (hb5.mono (Nat.le_trans hb2.size hb4.size))⟩
                         · rw [c5] at hp
                           simp only [Bool.true_or] at hp
                           subst hp
                           go_wp2_with (first
                            | (go_at_call 124; have hx4 := hb4; refine (HTR.out w4).mono ?_; rintro e w5 ⟨rfl, hb5⟩)
                            | (go_at_call 114; have hx2 := hb2; refine (HT2.out _ (HE.out.below hb2)).mono ?_; rintro e w4 ⟨rfl, hb4⟩)
                            | (go_at_call 130; have hx2 := hb2; refine (hj _).mono ?_; rintro e w3 ⟨rfl, rfl⟩)
                            | (go_at_call 114; refine (HT.out _ HE.out).mono ?_; rintro e w2 ⟨rfl, hb2⟩)
                            | (go_at_call 130; refine (hi _).mono ?_; rintro e w1 ⟨rfl, rfl⟩))
                           go_ret
                           exact ⟨rfl, (hb2.trans (hb4.mono hb2.size)).trans (hb5.mono (Nat.le_trans hb2.size hb4.size))⟩
                   · rw [c2] at q2 hp
                     simp only [Bool.true_or, Bool.true_and] at hp
                     clear c2 q3
                     obtain ⟨d, hd⟩ : ∃ d, z.extract 1 (n + 1) = d := ⟨_, rfl⟩
                     obtain ⟨q, hqq⟩ : ∃ q, z.extract (n + 3) (n + 7) = q := ⟨_, rfl⟩
                     have hds : d.size = n := by rw [← hd, ByteArray.size_extract]; omega
                     have hqs : q.size = 4 := by rw [← hqq, ByteArray.size_extract]; omega
                     obtain ⟨t5, ht5⟩ : ∃ t5 : ByteArray, (⟨(Lib.trimS (d ++ q).data.toList digTen).toArray⟩ : ByteArray) = t5 := ⟨_, rfl⟩
                     have hdq : (d ++ q).size ≤ 9223372036854775807 := by rw [ByteArray.size_append]; omega
                     have HTR : Hid (∀ w', Calls Tryz.prog 124 #[.string (d ++ q), .string ⟨#[48, 49, 50, 51, 52, 53, 54, 55, 56, 57]⟩] w' fun e w'' => e = .returned (.string t5) ∧ Below w'.heap.size w' w'') := Lib.hid (fun w' => by
                      have h := trim_any (d ++ q) w' hdq
                      rw [show ([48, 49, 50, 51, 52, 53, 54, 55, 56, 57] : List UInt8) = digTen from rfl, ht5] at h
                      exact h)
                     have hA : allDig (d.data.toList ++ q.data.toList) = t5.toList.isEmpty := by
                      rw [← ht5, Lib.toList_data]
                      unfold allDig
                      rw [show (d ++ q).data.toList = d.data.toList ++ q.data.toList by rw [ByteArray.data_append, Array.toList_append]]
                      show ((Lib.trimS (d.data.toList ++ q.data.toList) digTen).toArray.toList == []) = (Lib.trimS (d.data.toList ++ q.data.toList) digTen).toArray.toList.isEmpty
                      generalize (Lib.trimS (d.data.toList ++ q.data.toList) digTen).toArray.toList = L
                      cases L <;> rfl
                     have hd0 : 0 < d.size := by omega
                     have q5 : (((d[0]'hd0).toNat : Int) != 48) = !(z.get! 1 == 48) := by
                      rw [← byte_is z 1 (by omega) 48]
                      have e : d[0]'hd0 = z[1]'(by omega) := by
                       subst hd
                       exact ByteArray.getElem_extract hd0
                      rw [e]; rfl
                     rw [hd, hqq, hA] at hp
                     clear hA ht5 hdq
                     cases c4 : t5.toList.isEmpty
                     · rw [c4] at hp
                       simp only [Bool.false_and] at hp
                       subst hp
                       go_wp2_with (first
                        | (go_at_call 124; have hx4 := hb4; refine (HTR.out w4).mono ?_; rintro e w5 ⟨rfl, hb5⟩)
                        | (go_at_call 114; have hx2 := hb2; refine (HT2.out _ (HE.out.below hb2)).mono ?_; rintro e w4 ⟨rfl, hb4⟩)
                        | (go_at_call 130; have hx2 := hb2; refine (hj _).mono ?_; rintro e w3 ⟨rfl, rfl⟩)
                        | (go_at_call 114; refine (HT.out _ HE.out).mono ?_; rintro e w2 ⟨rfl, hb2⟩)
                        | (go_at_call 130; refine (hi _).mono ?_; rintro e w1 ⟨rfl, rfl⟩))
                       go_ret
                       exact ⟨rfl, (hb2.trans (hb4.mono hb2.size)).trans (hb5.mono (Nat.le_trans hb2.size hb4.size))⟩
                     · rw [c4] at hp
                       simp only [Bool.true_and] at hp
                       cases c5 : (d.toList == [48])
                       · rw [c5] at hp
                         simp only [Bool.false_or] at hp
                         subst hp
                         cases c6 : (z.get! 1 == 48)
                         · rw [c6] at q5
                           clear c6
                           go_wp2_with (first
                            | (go_at_call 124; have hx4 := hb4; refine (HTR.out w4).mono ?_; rintro e w5 ⟨rfl, hb5⟩)
                            | (go_at_call 114; have hx2 := hb2; refine (HT2.out _ (HE.out.below hb2)).mono ?_; rintro e w4 ⟨rfl, hb4⟩)
                            | (go_at_call 130; have hx2 := hb2; refine (hj _).mono ?_; rintro e w3 ⟨rfl, rfl⟩)
                            | (go_at_call 114; refine (HT.out _ HE.out).mono ?_; rintro e w2 ⟨rfl, hb2⟩)
                            | (go_at_call 130; refine (hi _).mono ?_; rintro e w1 ⟨rfl, rfl⟩))
                           go_ret
                           exact ⟨rfl, (hb2.trans (hb4.mono hb2.size)).trans (hb5.mono (Nat.le_trans hb2.size hb4.size))⟩
                         · rw [c6] at q5
                           clear c6
                           go_wp2_with (first
                            | (go_at_call 124; have hx4 := hb4; refine (HTR.out w4).mono ?_; rintro e w5 ⟨rfl, hb5⟩)
                            | (go_at_call 114; have hx2 := hb2; refine (HT2.out _ (HE.out.below hb2)).mono ?_; rintro e w4 ⟨rfl, hb4⟩)
                            | (go_at_call 130; have hx2 := hb2; refine (hj _).mono ?_; rintro e w3 ⟨rfl, rfl⟩)
                            | (go_at_call 114; refine (HT.out _ HE.out).mono ?_; rintro e w2 ⟨rfl, hb2⟩)
                            | (go_at_call 130; refine (hi _).mono ?_; rintro e w1 ⟨rfl, rfl⟩))
                           go_ret
                           exact ⟨rfl, (hb2.trans (hb4.mono hb2.size)).trans (hb5.mono (Nat.le_trans hb2.size hb4.size))⟩
                       · rw [c5] at hp
                         simp only [Bool.true_or] at hp
                         subst hp
                         go_wp2_with (first
                          | (go_at_call 124; have hx4 := hb4; refine (HTR.out w4).mono ?_; rintro e w5 ⟨rfl, hb5⟩)
                          | (go_at_call 114; have hx2 := hb2; refine (HT2.out _ (HE.out.below hb2)).mono ?_; rintro e w4 ⟨rfl, hb4⟩)
                          | (go_at_call 130; have hx2 := hb2; refine (hj _).mono ?_; rintro e w3 ⟨rfl, rfl⟩)
                          | (go_at_call 114; refine (HT.out _ HE.out).mono ?_; rintro e w2 ⟨rfl, hb2⟩)
                          | (go_at_call 130; refine (hi _).mono ?_; rintro e w1 ⟨rfl, rfl⟩))
                         go_ret
                         exact ⟨rfl, (hb2.trans (hb4.mono hb2.size)).trans (hb5.mono (Nat.le_trans hb2.size hb4.size))⟩
             · have hp := HP.out
               rw [decide_eq_false h19] at hp
               simp only [Bool.and_false, Bool.false_and] at hp
               subst hp
               have m1 : decide ((z.size : Int) - 7 < 1) = false := decide_eq_false (by omega)
               have m2 : decide (12 < (z.size : Int) - 7) = true := decide_eq_true (by omega)
               clear HP
               go_wp2_with (first
                | (go_at_call 114; have hx2 := hb2; refine (HT2.out _ (HE.out.below hb2)).mono ?_; rintro e w4 ⟨rfl, hb4⟩)
                | (go_at_call 130; have hx2 := hb2; refine (hj _).mono ?_; rintro e w3 ⟨rfl, rfl⟩)
                | (go_at_call 114; refine (HT.out _ HE.out).mono ?_; rintro e w2 ⟨rfl, hb2⟩)
                | (go_at_call 130; refine (hi _).mono ?_; rintro e w1 ⟨rfl, rfl⟩))
               go_ret
               exact ⟨rfl, hb2.trans (hb4.mono hb2.size)⟩
           · have hp := HP.out
             rw [decide_eq_false h8] at hp
             simp only [Bool.and_false, Bool.false_and] at hp
             subst hp
             have m1 : decide ((z.size : Int) - 7 < 1) = true := decide_eq_true (by omega)
             clear HP
             go_wp2_with (first
              | (go_at_call 114; have hx2 := hb2; refine (HT2.out _ (HE.out.below hb2)).mono ?_; rintro e w4 ⟨rfl, hb4⟩)
              | (go_at_call 130; have hx2 := hb2; refine (hj _).mono ?_; rintro e w3 ⟨rfl, rfl⟩)
              | (go_at_call 114; refine (HT.out _ HE.out).mono ?_; rintro e w2 ⟨rfl, hb2⟩)
              | (go_at_call 130; refine (hi _).mono ?_; rintro e w1 ⟨rfl, rfl⟩))
             go_ret
             exact ⟨rfl, hb2.trans (hb4.mono hb2.size)⟩
  · obtain rfl : i = 0 := by omega
    have hp := HP.out
    simp at hp
    subst hp
    clear HP
    go_enter Tryz.func113, Tryz.ntmps113
    go_wp2_with (go_at_call 130; refine (hi _).mono ?_; rintro e w1 ⟨rfl, rfl⟩)
    go_ret
    exact ⟨rfl, Below.refl _ _⟩
end Go.Proofs.YtihanglnjghcfaaGreatDoor
namespace Go.Proofs.YtihanglnjghcfaaGreatDoor
open Go.RowKit
set_option linter.unusedVariables false
set_option linter.unusedSimpArgs false

theorem indexByte_at {l : List UInt8} {c : UInt8} {i : Nat} (h : l[i]? = some c) (hn : ∀ j, j < i → l[j]? ≠ some c) : Lib.indexByte l c = i := by
 cases hx : Lib.indexByte l c with
 | negSucc k =>
  have hge := Lib.indexByte_ge l c
  rw [hx] at hge
  have e : Lib.indexByte l c = -1 := by rw [hx]; omega
  exact absurd h (Lib.indexByte_none e i)
 | ofNat o =>
  obtain ⟨h1, h2⟩ := Lib.indexByte_some (o := o) hx
  have : o = i := by
   rcases Nat.lt_trichotomy o i with h' | h' | h'
   · exact absurd h1 (hn o h')
   · exact h'
   · exact absurd h (h2 i h')
  rw [this]; rfl
end Go.Proofs.YtihanglnjghcfaaGreatDoor
namespace Go.Proofs.YtihanglnjghcfaaGreatDoor
open Go.RowKit
set_option linter.unusedVariables false
set_option linter.unusedSimpArgs false

section
variable (s : ByteArray)
theorem anyq_skip (q : UInt8 → Bool) : ∀ (k : Nat) (l : List UInt8), (∀ j c, j < k → l[j]? = some c → q c = false) → l.any q = (l.drop k).any q
 | 0, _, _ => rfl
 | k + 1, [], _ => rfl
 | k + 1, c :: l, h => by
  rw [List.any_cons, h 0 c (by omega) rfl, Bool.false_or, List.drop_succ_cons]
  exact anyq_skip q k l (fun j c hj hc => h (j + 1) c (by omega) (by simpa using hc))
/-- What a loop over the runes of a text comes to that looks for runes below 128. -/
theorem any_step (q : Nat → Bool) (hq : ∀ n, 128 ≤ n → q n = false) (pos : Nat) (h : pos < s.size) :
 (s.data.toList.drop pos).any (fun b => q b.toNat) = (q (Utf8.decode s pos).1 || (s.data.toList.drop (pos + (Utf8.decode s pos).2)).any (fun b => q b.toNat)) := by
 by_cases ha : (s.get! pos).toNat < 128
 · have hl : pos < s.data.toList.length := by rw [← Lib.size_eq]; exact h
   have hg := get_toList s pos h
   have hd : Utf8.decode s pos = ((s.get! pos).toNat, 1) := by
    rw [Lib.decode_at]; unfold Lib.decodeN; rw [if_pos ha]
   rw [hd, List.drop_eq_getElem_cons hl, List.any_cons, (List.getElem?_eq_some_iff.1 hg).2]
 · have hd := decodeN_high (s.size - pos) (s.get! pos).toNat (s.get! (pos + 1)).toNat (s.get! (pos + 2)).toNat (s.get! (pos + 3)).toNat (by omega) (by omega)
   rw [← Lib.decode_at] at hd
   rw [hq _ hd.1, Bool.false_or]
   generalize (Utf8.decode s pos).2 = m at hd ⊢
   rw [anyq_skip (fun b => q b.toNat) m]
   · rw [List.drop_drop]
   · intro j c hj hc
     rw [List.getElem?_drop] at hc
     have hlt : pos + j < s.size := by rw [Lib.size_eq]; exact (List.getElem?_eq_some_iff.1 hc).1
     rw [get_toList s (pos + j) hlt] at hc
     injection hc with hc
     subst hc
     apply hq
     have : j = 0 ∨ j = 1 ∨ j = 2 ∨ j = 3 := by omega
     rcases this with rfl | rfl | rfl | rfl
     · show 128 ≤ (s.get! pos).toNat
       omega
     · exact hd.2.2.2.1 (by omega)
     · exact hd.2.2.2.2.1 (by omega)
     · exact hd.2.2.2.2.2 (by omega)
end
def labQ (n : Nat) : Bool := decide (n < 32) || n == 127
theorem labQ_high (n : Nat) (h : 128 ≤ n) : labQ n = false := by unfold labQ; simp; omega
/-- May a tag have the name? -/
def labelB (s : ByteArray) : Bool := !(s.data.toList.any fun b => labQ b.toNat) && (Lib.validD s.data.toList && decide (1 ≤ Lib.runeCount s) && decide (Lib.runeCount s ≤ 100))
theorem valid_any (s : ByteArray) (w : World) (hE : EnvO w) (hs : s.size ≤ 140737488351300) : Calls Tryz.prog 123 #[.string s] w fun e w' => e = .returned (.bool (Lib.validD s.data.toList)) ∧ Below w.heap.size w w' :=
 Any.utf8_ValidString Tryz.lays196 s w (by omega) hE.tabs
set_option maxRecDepth 100000 in
set_option maxHeartbeats 2000000 in
theorem label_any (s : ByteArray) (w : World) (hE : EnvO w) (hs : s.size ≤ 140737488351300) : Calls Tryz.prog 116 #[.string s] w fun e w' => e = .returned (.bool (labelB s)) ∧ Below w.heap.size w w' := by
 have HE := Lib.hid hE
 have HS := Lib.hid hs
 have HL : Hid (labelB s = (!(s.data.toList.any fun b => labQ b.toNat) && (Lib.validD s.data.toList && decide (1 ≤ Lib.runeCount s) && decide (Lib.runeCount s ≤ 100)))) := Lib.hid rfl
 clear hE
 go_enter Tryz.func116, Tryz.ntmps116
 go_wp2
 go_loopw [4] (fun _ w' => ∃ pos : Nat, w' = w.iter s pos ∧ ((s.data.toList.drop pos).any fun b => labQ b.toNat) = (s.data.toList.any fun b => labQ b.toNat)) (fun _ w' => s.size - w'.iterPos w.heap.size)
 case atStart => exact ⟨0, rfl, by rw [List.drop_zero]⟩
 case round =>
  obtain ⟨pos, rfl, hv⟩ := hrel
  have HV := Lib.hid hv
  clear hv
  by_cases hp : pos < s.size
  · have hnx : ∀ ty, (Instr.next (.pointer (some ⟨w.heap.size, 0, none⟩)) true ty).run Tryz.prog (w.iter s pos) = _ := fun ty => run_next_any w s pos ty hp
    have hwd := Lib.decode_width_pos s pos hp
    have hst := any_step s labQ labQ_high pos hp
    rw [HV.out] at hst
    by_cases h1 : (Utf8.decode s pos).1 < 32
    · have q1 : decide (((Utf8.decode s pos).1 : Int) < 32) = true := decide_eq_true (by omega)
      have HA : Hid (labelB s = false) := Lib.hid (by rw [HL.out, hst]; simp [labQ, h1])
      clear hst h1
      go_wp2
      go_ret
      rw [HA.out]
      exact ⟨rfl, (Below.refl _ _).alloc (Nat.le_refl _) _⟩
    · have q1 : decide (((Utf8.decode s pos).1 : Int) < 32) = false := decide_eq_false (by omega)
      by_cases h2 : (Utf8.decode s pos).1 = 127
      · have q2 : (((Utf8.decode s pos).1 : Int) == 127) = true := by rw [h2]; rfl
        have HA : Hid (labelB s = false) := Lib.hid (by rw [HL.out, hst]; simp [labQ, h2])
        clear hst h1 h2
        go_wp2
        go_ret
        rw [HA.out]
        exact ⟨rfl, (Below.refl _ _).alloc (Nat.le_refl _) _⟩
      · have q2 : (((Utf8.decode s pos).1 : Int) == 127) = false := by rw [beq_eq_false_iff_ne]; omega
        have HA : Hid (((s.data.toList.drop (pos + (Utf8.decode s pos).2)).any fun b => labQ b.toNat) = (s.data.toList.any fun b => labQ b.toNat)) := Lib.hid (by rw [hst]; simp [labQ, h1, h2])
        clear hst h1 h2
        go_wp2
        go_roundw
        case rel => exact ⟨pos + (Utf8.decode s pos).2, rfl, HA.out⟩
        case measure => simp; omega
  · have hnx : ∀ ty, (Instr.next (.pointer (some ⟨w.heap.size, 0, none⟩)) true ty).run Tryz.prog (w.iter s pos) = _ := fun ty => run_next_end w s pos ty hp
    have HA : Hid (labelB s = (Lib.validD s.data.toList && decide (1 ≤ Lib.runeCount s) && decide (Lib.runeCount s ≤ 100))) := Lib.hid (by
     rw [HL.out, ← HV.out, List.drop_eq_nil_of_le (by rw [← Lib.size_eq]; omega)]; rfl)
    have hl0 : Below w.heap.size w (w.iter s pos) := (Below.refl _ _).alloc (Nat.le_refl _) _
    have HL0 := Lib.hid hl0
    have HRC := Lib.hid (fun w => Tryz.utf8_RuneCountInString s w (by have := HS.out; omega))
    clear hl0 HV HL
    generalize Lib.runeCount s = rc at *
    generalize w.iter s pos = w0 at *
    go_wp2_with fail
    refine (HRC.out _).mono ?_
    rintro e w1 ⟨rfl, p1, rfl⟩
    have hl1 : Below w0.heap.size w0 (w0.iter s p1) := (Below.refl _ _).alloc (Nat.le_refl _) _
    have HL1 := Lib.hid (HL0.out.trans (hl1.mono HL0.out.size))
    generalize w0.iter s p1 = w1 at *
    have hv := valid_any s w1 (HE.out.below HL1.out) HS.out
    generalize Lib.validD s.data.toList = vd at *
    clear hl1 HL0
    cases vd
    · go_wp2_with (go_at_call 123; refine hv.mono ?_; rintro e w2 ⟨rfl, hb2⟩; have HB2 := Lib.hid hb2; clear hb2)
      go_ret
      rw [HA.out]
      exact ⟨rfl, HL1.out.trans (HB2.out.mono HL1.out.size)⟩
    · by_cases h1 : 1 ≤ rc
      · have d1 : decide ((rc : Int) ≥ 1) = true := decide_eq_true (by omega)
        have d1' : decide ((1 : Int) ≤ (rc : Int)) = true := decide_eq_true (by omega)
        by_cases h2 : rc ≤ 100
        · have d2 : decide ((rc : Int) ≤ 100) = true := decide_eq_true (by omega)
          rw [decide_eq_true h1, decide_eq_true h2] at HA
          clear h1 h2
          go_wp2_with (go_at_call 123; refine hv.mono ?_; rintro e w2 ⟨rfl, hb2⟩; have HB2 := Lib.hid hb2; clear hb2)
          go_ret
          rw [HA.out]
          exact ⟨rfl, HL1.out.trans (HB2.out.mono HL1.out.size)⟩
        · have d2 : decide ((rc : Int) ≤ 100) = false := decide_eq_false (by omega)
          rw [decide_eq_true h1, decide_eq_false h2] at HA
          clear h1 h2
          go_wp2_with (go_at_call 123; refine hv.mono ?_; rintro e w2 ⟨rfl, hb2⟩; have HB2 := Lib.hid hb2; clear hb2)
          go_ret
          rw [HA.out]
          exact ⟨rfl, HL1.out.trans (HB2.out.mono HL1.out.size)⟩
      · have d1 : decide ((rc : Int) ≥ 1) = false := decide_eq_false (by omega)
        have d1' : decide ((1 : Int) ≤ (rc : Int)) = false := decide_eq_false (by omega)
        rw [decide_eq_false h1] at HA
        clear h1
        go_wp2_with (go_at_call 123; refine hv.mono ?_; rintro e w2 ⟨rfl, hb2⟩; have HB2 := Lib.hid hb2; clear hb2)
        go_ret
        rw [HA.out]
        exact ⟨rfl, HL1.out.trans (HB2.out.mono HL1.out.size)⟩
end Go.Proofs.YtihanglnjghcfaaGreatDoor
namespace Go.Proofs.YtihanglnjghcfaaGreatDoor
open Go.RowKit
set_option linter.unusedVariables false
set_option linter.unusedSimpArgs false

theorem hasPrefix_iff (l p : List UInt8) : Lib.hasPrefix l p = true ↔ l.take p.length = p := by
 unfold Lib.hasPrefix
 rw [List.isPrefixOf_iff_prefix, List.prefix_iff_eq_take]
 exact eq_comm
theorem fieldL_some {nm l x r : List UInt8} (h : fieldL nm l = some (x, r)) : x.length + r.length + nm.length + 2 = l.length := by
 unfold fieldL at h
 split at h
 · next hp =>
   have hl : nm.length + 1 ≤ l.length := by
    have := congrArg List.length ((hasPrefix_iff _ _).1 hp)
    rw [List.length_take, List.length_append] at this
    simp at this
    omega
   rw [show Lib.trimPrefix l (nm ++ [32]) = l.drop (nm.length + 1) by unfold Lib.trimPrefix; rw [if_pos hp]; simp] at h
   rcases idx_cases 10 (l.drop (nm.length + 1)) with ⟨hi, _⟩ | ⟨i, hi, hil, _, _⟩
   · rw [hi] at h; simp at h
   · rw [hi] at h
     rw [if_neg (by omega)] at h
     simp only [Int.toNat_natCast] at h
     injection h with h
     injection h with h1 h2
     subst h1; subst h2
     rw [List.length_drop] at hil
     simp only [List.length_take, List.length_drop]
     omega
 · exact absurd h (by simp)
def treeN : List UInt8 := [116, 114, 101, 101]
def parentN : List UInt8 := [112, 97, 114, 101, 110, 116]
def authorN : List UInt8 := [97, 117, 116, 104, 111, 114]
def committerN : List UInt8 := [99, 111, 109, 109, 105, 116, 116, 101, 114]
def objectN : List UInt8 := [111, 98, 106, 101, 99, 116]
def typeN : List UInt8 := [116, 121, 112, 101]
def tagN : List UInt8 := [116, 97, 103]
def taggerN : List UInt8 := [116, 97, 103, 103, 101, 114]
def hashU (p : List UInt8) : Bool := hashB (bytesOf (bk p))
/-- The parents. -/
def parsF : Nat → List UInt8 → List (List UInt8) → Option (List (List UInt8) × List UInt8)
 | 0, _, _ => none
 | f + 1, l, acc => match fieldL parentN l with
  | none => some (acc, l)
  | some (p, r) => if hashU p = false ∨ p ∈ acc then none else parsF f r (acc ++ [p])
structure CommitR where
 t : List UInt8
 P : List (List UInt8)
 a : List UInt8
 c : List UInt8
 m : List UInt8
/-- What stands behind a line's end: the message. -/
def msgF : List UInt8 → Option (List UInt8)
 | [] => none
 | b :: m => if b = 10 ∧ withoutB m [0] = true then some m else none
def commitF (l : List UInt8) : Option CommitR :=
 match fieldL treeN l with
 | none => none
 | some (t, l1) => if hashU t = false then none else
  match parsF (l1.length + 1) l1 [] with
  | none => none
  | some (P, l2) => match fieldL authorN l2 with
   | none => none
   | some (a, l3) => if persB (bk a) = false then none else
    match fieldL committerN l3 with
    | none => none
    | some (c, l4) => if persB (bk c) = false then none else
     match msgF l4 with
     | none => none
     | some m => some ⟨t, P, a, c, m⟩
structure TagR where
 o : List UInt8
 k : Nat
 n : List UInt8
 g : List UInt8
 m : List UInt8
def tagF (l : List UInt8) : Option TagR :=
 match fieldL objectN l with
 | none => none
 | some (o, l1) => if hashU o = false then none else
  match fieldL typeN l1 with
  | none => none
  | some (k, l2) => if kindN (bk k) = 0 then none else
   match fieldL tagN l2 with
   | none => none
   | some (n, l3) => if labelB (bk n) = false then none else
    match fieldL taggerN l3 with
    | none => none
    | some (g, l4) => if persB (bk g) = false then none else
     match msgF l4 with
     | none => none
     | some m => some ⟨o, kindN (bk k), n, g, m⟩
/-- What a line's reading leaves, both ways in one. -/
def FieldR (nm : List UInt8) (s : ByteArray) (x : ByteArray) (b : Bool) (s' : ByteArray) : Prop :=
 (b = true ∧ fieldL nm s.data.toList = some (x.data.toList, s'.data.toList)) ∨ (b = false ∧ fieldL nm s.data.toList = none ∧ s' = s)
theorem FieldR.size {nm : List UInt8} {s x s' : ByteArray} {b : Bool} (h : FieldR nm s x b s') : s'.size ≤ s.size := by
 rcases h with ⟨_, h⟩ | ⟨_, _, rfl⟩
 · have := fieldL_some h
   rw [Lib.size_eq, Lib.size_eq]; omega
 · exact Nat.le_refl _
theorem FieldR.xsize {nm : List UInt8} {s x s' : ByteArray} (h : FieldR nm s x true s') : x.size ≤ s.size ∧ s'.size < s.size := by
 rcases h with ⟨_, h⟩ | ⟨h, _⟩
 · have := fieldL_some h
   rw [Lib.size_eq, Lib.size_eq, Lib.size_eq]; omega
 · exact absurd h (by decide)
theorem field_any' (g : Nat) (s : ByteArray) (nm : List UInt8) (w : World) (hs : s.size ≤ 140737488351300) (hn : nm.length ≤ 100) (hc : Cel w g 9 1 (fun _ => .string s)) :
 Calls Tryz.prog 109 #[.pointer (some ⟨g, 0, none⟩), .string (bk nm)] w fun e w' => ∃ x b s', e = .returned (.tuple #[.string x, .bool b]) ∧ Chg (fun k => k = g) w w' ∧ Cel w' g 9 1 (fun _ => .string s') ∧ FieldR nm s x b s' := by
 refine (field_any g s nm w hs hn hc).mono ?_
 rintro e w' ⟨h1, ⟨x, r, h2, h3, h4⟩ | ⟨x, h2, h3, h4⟩⟩
 · exact ⟨bk x, true, bk r, h3, h1, h4, .inl ⟨rfl, by rw [bk_list, bk_list]; exact h2⟩⟩
 · exact ⟨x, false, s, h3, h1, h4, .inr ⟨rfl, h2, rfl⟩⟩
theorem containsZ_any (s : ByteArray) (w : World) : Calls Tryz.prog 131 #[.string s, .string ⟨#[0]⟩] w fun e w' => e = .returned (.bool (Lib.containsAny s.data.toList [0])) ∧ w' = w := by
 have H := Lib.hid (Tryz.strings_IndexAny_one s ⟨#[0]⟩ w (by decide) (by
  intro j b hb
  rcases j with _ | j
  · injection hb with hb; subst hb; decide
  · exact absurd hb (by simp)))
 change Hid (Calls Tryz.prog 147 #[.string s, .string ⟨#[0]⟩] w fun e w' => e = .returned (.int .i64 (Lib.indexAny s.data.toList [0])) ∧ w' = w) at H
 unfold Lib.containsAny
 generalize Lib.indexAny s.data.toList [0] = X at *
 go_enter Tryz.func131, Tryz.ntmps131
 go_wp2_with (go_at_call 147; refine H.out.mono ?_; rintro e w1 ⟨rfl, rfl⟩)
 go_ret
 exact ⟨rfl, rfl⟩
set_option maxRecDepth 100000 in
theorem textZ_any (s : ByteArray) (w : World) (hE : EnvO w) (hs : s.size ≤ 140737488351300) :
 Calls Tryz.prog 114 #[.string s, .string ⟨#[0]⟩] w fun e w' => e = .returned (.bool (withoutB s.data.toList [0])) ∧ Below w.heap.size w w' := by
 have hv := valid_any s w hE hs
 have HC := Lib.hid (fun w => containsZ_any s w)
 unfold withoutB
 cases h1 : Lib.validD s.data.toList
 · rw [h1] at hv
   clear h1
   go_enter Tryz.func114, Tryz.ntmps114
   go_wp2_with (go_at_call 123; refine hv.mono ?_; rintro e w1 ⟨rfl, hb1⟩)
   go_ret
   exact ⟨rfl, hb1⟩
 · rw [h1] at hv
   clear h1
   generalize Lib.containsAny s.data.toList [0] = X at *
   go_enter Tryz.func114, Tryz.ntmps114
   go_wp2_with (first
    | (go_at_call 131; have hx := hb1; refine (HC.out w1).mono ?_; rintro e w2 ⟨rfl, rfl⟩)
    | (go_at_call 123; refine hv.mono ?_; rintro e w1 ⟨rfl, hb1⟩))
   go_ret
   exact ⟨by simp, hb1⟩
end Go.Proofs.YtihanglnjghcfaaGreatDoor
namespace Go.Proofs.YtihanglnjghcfaaGreatDoor
open Go.RowKit
set_option linter.unusedVariables false
set_option linter.unusedSimpArgs false

theorem FieldR.yes {nm : List UInt8} {s x s' : ByteArray} (h : FieldR nm s x true s') : fieldL nm s.data.toList = some (x.data.toList, s'.data.toList) := by
 rcases h with ⟨_, h⟩ | ⟨h, _⟩
 · exact h
 · exact absurd h (by decide)
theorem FieldR.no {nm : List UInt8} {s x s' : ByteArray} (h : FieldR nm s x false s') : fieldL nm s.data.toList = none := by
 rcases h with ⟨h, _⟩ | ⟨_, h, _⟩
 · exact absurd h (by decide)
 · exact h
theorem commitF_pars {s x s1 : ByteArray} {b : Bool} (h0 : FieldR treeN s x b s1) (hp : parsF (s1.size + 1) s1.data.toList [] = none) : commitF s.data.toList = none := by
 unfold commitF
 cases b
 · rw [h0.no]
 · rw [h0.yes]
   show (if hashU x.data.toList = false then none else _) = none
   split
   · rfl
   · rw [← Lib.size_eq, hp]
theorem commitF_bad {s x0 s1 x1 s2 s3 x2 s4 : ByteArray} {P : List (List UInt8)} {b0 b1 b2 : Bool} (h0 : FieldR treeN s x0 b0 s1) (hp : parsF (s1.size + 1) s1.data.toList [] = some (P, s2.data.toList))
 (h1 : FieldR authorN s2 x1 b1 s3) (h2 : FieldR committerN s3 x2 b2 s4) (hb : (b0 && b1 && b2) = false) : commitF s.data.toList = none := by
 unfold commitF
 cases b0
 · rw [h0.no]
 · rw [h0.yes]
   show (if hashU x0.data.toList = false then none else _) = none
   split
   · rfl
   · rw [← Lib.size_eq, hp]
     cases b1
     · simp only [h1.no]
     · simp only [h1.yes]
       show (if persB (bk x1.data.toList) = false then none else _) = none
       split
       · rfl
       · cases b2
         · rw [h2.no]
         · exact absurd hb (by decide)
theorem commitF_all {s x0 s1 x1 s2 s3 x2 s4 : ByteArray} {P : List (List UInt8)} (h0 : FieldR treeN s x0 true s1) (hp : parsF (s1.size + 1) s1.data.toList [] = some (P, s2.data.toList))
 (h1 : FieldR authorN s2 x1 true s3) (h2 : FieldR committerN s3 x2 true s4) : commitF s.data.toList = if hashB (bytesOf x0) = false ∨ persB x1 = false ∨ persB x2 = false then none else (msgF s4.data.toList).map fun m => ⟨x0.data.toList, P, x1.data.toList, x2.data.toList, m⟩ := by
 unfold commitF
 rw [h0.yes]
 show (if hashU x0.data.toList = false then none else _) = _
 unfold hashU
 rw [bk_of]
 by_cases e0 : hashB (bytesOf x0) = false
 · rw [if_pos e0, if_pos (.inl e0)]
 · rw [if_neg e0, ← Lib.size_eq, hp]
   simp only [h1.yes]
   show (if persB (bk x1.data.toList) = false then none else _) = _
   rw [bk_of]
   by_cases e1 : persB x1 = false
   · rw [if_pos e1, if_pos (.inr (.inl e1))]
   · rw [if_neg e1, h2.yes]
     show (if persB (bk x2.data.toList) = false then none else _) = _
     rw [bk_of]
     by_cases e2 : persB x2 = false
     · rw [if_pos e2, if_pos (.inr (.inr e2))]
     · rw [if_neg e2, if_neg (by rintro (h | h | h); exact e0 h; exact e1 h; exact e2 h)]
       cases msgF s4.data.toList <;> rfl
theorem msgF_no {s : ByteArray} (h : Lib.hasPrefix s.data.toList [10] = false) : msgF s.data.toList = none := by
 unfold msgF
 split
 · rfl
 · next b m hl =>
   rw [hl] at h
   split
   · next hc =>
     rw [hc.1] at h
     exact absurd h (by simp [Lib.hasPrefix, List.isPrefixOf])
   · rfl
theorem msgF_yes {s : ByteArray} (h : Lib.hasPrefix s.data.toList [10] = true) : msgF s.data.toList = if withoutB (Lib.trimPrefix s.data.toList [10]) [0] = true then some (Lib.trimPrefix s.data.toList [10]) else none := by
 have hc := (hasPrefix_iff _ _).1 h
 unfold Lib.trimPrefix
 rw [if_pos h]
 cases hl : s.data.toList with
 | nil => rw [hl] at hc; simp at hc
 | cons b m =>
  rw [hl] at hc
  simp at hc
  subst hc
  show (if (10 : UInt8) = 10 ∧ withoutB m [0] = true then some m else none) = if withoutB m [0] = true then some m else none
  simp

theorem info_str : (Tryz.prog.info? 9).map (fun i => (i.zero, i.size, i.bytes)) = some (some (.string ⟨#[]⟩), 1, 16) := by kernel_rfl
/-- Texts as cells. -/
def strVs (P : List (List UInt8)) : List Value := P.map fun p => Value.string (bk p)
theorem OwnS.strs {w : World} {B n c : Nat} {A : Option Addr} {P : List (List UInt8)} (h : OwnS w B 9 1 (.slice A n c) n (strVs P)) : P.length = n := by
 have := h.1; simpa [strVs] using this
theorem OwnS.strsAt {w : World} {B n c : Nat} {A : Option Addr} {P : List (List UInt8)} (h : OwnS w B 9 1 (.slice A n c) n (strVs P)) : StrsAt w A (P.map bk) := fun hl => by
 rw [List.length_map] at hl
 obtain ⟨g, off, c', hv, hb, hg, hc⟩ := h.cells (by simpa [strVs] using hl)
 injection hv with hA _ _
 refine ⟨g, off, hA, hg, fun i s hs => ?_⟩
 have hi := (List.getElem?_eq_some_iff.1 hs).1
 rw [List.length_map] at hi
 rw [hc i (by simpa [strVs] using hi)]
 rw [List.getElem?_map] at hs
 simp only [strVs, List.getElem?_map]
 cases hp : P[i]? with
 | none => rw [hp] at hs; simp at hs
 | some p => rw [hp] at hs; simp at hs; rw [← hs]; rfl
theorem mem_bk (P : List (List UInt8)) (p : List UInt8) : bk p ∈ P.map bk ↔ p ∈ P := by
 constructor
 · intro h
   obtain ⟨q, hq, e⟩ := List.mem_map.1 h
   rw [bk_inj.1 e] at hq; exact hq
 · exact fun h => List.mem_map.2 ⟨p, h, rfl⟩
theorem contains_any (A : Option Addr) (n c : Nat) (P : List (List UInt8)) (p : List UInt8) (w : World) (B : Nat) (h : OwnS w B 9 1 (.slice A n c) n (strVs P)) (hn : n ≤ 9223372036854775807) :
 Calls Tryz.prog 111 #[.slice A n c, .string (bk p)] w fun e w' => e = .returned (.bool (decide (p ∈ P))) ∧ w' = w := by
 have hl := h.strs
 have hat := h.strsAt
 by_cases h0 : n = 0
 · subst h0
   have hP : P = [] := List.eq_nil_of_length_eq_zero hl
   subst hP
   exact (Tryz.slices_Contains_string_empty A c (bk p) w).mono fun e w' h => ⟨h.1.trans (by simp), h.2⟩
 · obtain ⟨g, o, rfl, _, hc⟩ := hat (by simp; omega)
   refine (Tryz.slices_Contains_string g o n c (P.map bk) (bk p) w (by simp; omega) hn (fun j hj => ?_)).mono fun e w' h => ⟨h.1.trans ?_, h.2⟩
   · have hs : (P.map bk)[j]? = some ((P.map bk).getD j ByteArray.empty) := by
      rw [List.getD_eq_getElem?_getD, List.getElem?_eq_getElem hj]; rfl
     exact hc j _ hs
   · rw [List.take_of_length_le (by simp; omega)]
     congr 2
     rw [Bool.eq_iff_iff, Lib.containsS_iff, mem_bk, decide_eq_true_eq]
set_option maxRecDepth 100000 in
theorem clipStr_any (A : Option Addr) (n c : Nat) (w : World) (hn : n ≤ c) (hc : c ≤ 9223372036854775807) :
 Calls Tryz.prog 47 #[.slice A n c] w fun e w' => e = .returned (.slice A n n) ∧ w = w' := by
 have h0 : (n : Int) ≤ c := by omega
 go_enter Tryz.func47, Tryz.ntmps47
 go_wp2
 go_ret
 exact ⟨rfl, rfl⟩
end Go.Proofs.YtihanglnjghcfaaGreatDoor
