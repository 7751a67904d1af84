/- object.Person. -/
import Derived.Test.YtdlabapfcghfmaaDoorObF
import Derived.Lib.IndexLaws
namespace Go.Proofs.YtdlabapfcghfmaaDoor
open Go.RowKit
set_option linter.unusedVariables false
set_option linter.unusedSimpArgs false

def digTen : List UInt8 := [48, 49, 50, 51, 52, 53, 54, 55, 56, 57]
/-- All of a text digits? -/
def allDig (l : List UInt8) : Bool := (Lib.trimS l digTen).toArray.toList == []
/-- What stands behind the mail: a blank, the time, a blank, the zone. -/
def timeB (z : ByteArray) : Bool :=
  decide (8 ≤ z.size) && decide (z.size ≤ 19) && (z.get! 0 == 32) && (z.get! (z.size - 6) == 32) && (z.get! (z.size - 5) == 43 || z.get! (z.size - 5) == 45) &&
  allDig ((z.extract 1 (z.size - 6)).data.toList ++ (z.extract (z.size - 4) z.size).data.toList) && ((z.extract 1 (z.size - 6)).toList == [48] || !(z.get! 1 == 48))
/-- What stands behind the name. -/
def mailB (y : ByteArray) : Bool :=
  match Lib.indexByte y.data.toList 62 with
  | .ofNat j => textB (y.extract 0 j).data.toList && timeB (y.extract (j + 1) y.size)
  | .negSucc _ => false
/-- Does a text tell who and when? -/
def persB (s : ByteArray) : Bool :=
  match Lib.indexByte s.data.toList 60 with
  | .ofNat i => decide (1 ≤ i) && (s.get! (i - 1) == 32) && textB (s.extract 0 (i - 1)).data.toList && mailB (s.extract (i + 1) s.size)
  | .negSucc _ => false
def PersPost (b : Bool) (w : World) (e : Ending) (w' : World) : Prop := e = .returned (.bool b) ∧ Below w.heap.size w w'
theorem get_eq (s : ByteArray) (i : Nat) (h : i < s.size) : s[i]'h = s.get! i := by
  have h1 := getO_toList s i h
  have h2 := Lib.data_getElem? s i h
  rw [h2] at h1
  exact Option.some.inj h1
theorem byte_is (s : ByteArray) (i : Nat) (h : i < s.size) (c : UInt8) : (((s[i]'h).toNat : Int) == (c.toNat : Int)) = (s.get! i == c) := by
  rw [get_eq]
  generalize s.get! i = x
  by_cases e : x = c
  · subst e; simp
  · have : (x == c) = false := by simpa using e
    rw [this, beq_eq_false_iff_ne]
    intro hh
    exact e (UInt8.toNat_inj.1 (by omega))
theorem pers_ex : persB ⟨#[65, 32, 60, 97, 62, 32, 49, 32, 43, 48, 48, 48, 48]⟩ = true ∧ persB ⟨#[65, 32, 60, 97, 62, 32, 48, 49, 32, 43, 48, 48, 48, 48]⟩ = false := by
  refine ⟨by kernel_rfl, by kernel_rfl⟩
set_option maxRecDepth 1000000 in
set_option maxHeartbeats 4000000 in
theorem person_any (s : ByteArray) (w : World) (hE : EnvO w) (hs : s.size ≤ 140737488355000) : Calls Tryd.prog 19 #[.string s] w (PersPost (persB s) w) := by
  have HE := Lib.hid hE
  have hi := fun w' => Tryd.strings_IndexByte s 60 w'
  have HP : Hid (persB s = (match Lib.indexByte s.data.toList 60 with
    | .ofNat i => decide (1 ≤ i) && (s.get! (i - 1) == 32) && textB (s.extract 0 (i - 1)).data.toList && mailB (s.extract (i + 1) s.size)
    | .negSucc _ => false)) := Lib.hid rfl
  rw [show (60 : Int).toNat.toUInt8 = 60 from rfl] at hi
  generalize persB s = PB at *
  cases hix : Lib.indexByte s.data.toList 60 with
  | negSucc k =>
    rw [hix] at hi HP
    have hneg : (Int.negSucc k) < 1 := by omega
    have hp := HP.out
    simp only [] at hp
    subst hp
    clear HP hix
    generalize Int.negSucc k = X at *
    go_enter Tryd.func19, Tryd.ntmps19
    go_wp2_with (go_at_call 36; refine (hi _).mono ?_; rintro e w1 ⟨rfl, rfl⟩)
    go_ret
    exact ⟨rfl, Below.refl _ _⟩
  | ofNat i =>
    have hil : i < s.size := by
      have h := (Lib.indexByte_some (o := i) hix).1
      rw [Lib.size_eq]; exact (List.getElem?_eq_some_iff.1 h).1
    rw [hix] at hi HP
    have hi : ∀ w', Calls Tryd.prog 36 #[.string s, .int .u8 60] w' fun e w'' => e = .returned (.int .i64 (i : Int)) ∧ w'' = w' := hi
    clear hix
    by_cases h1 : 1 ≤ i
    · obtain ⟨k, rfl⟩ : ∃ k, i = k + 1 := ⟨i - 1, by omega⟩
      have hk : k < s.size := by omega
      have hn1 : decide ((k : Int) + 1 < 1) = false := decide_eq_false (by omega)
      have HP : Hid (PB = ((s.get! k == 32) && textB (s.extract 0 k).data.toList && mailB (s.extract (k + 1 + 1) s.size))) := Lib.hid (by
        have h := HP.out
        simp only [] at h
        rw [h, decide_eq_true h1, Bool.true_and]
        rfl)
      have hq := byte_is s k hk 32
      rw [show (((32 : UInt8).toNat : Nat) : Int) = 32 from rfl] at hq
      have hq : (((s[k]'hk).toNat : Int) != 32) = !(s.get! k == 32) := by rw [← hq]; rfl
      cases hb : (s.get! k == 32)
      · rw [hb] at hq HP
        have hp := HP.out
        simp only [Bool.false_and] at hp
        subst hp
        clear HP hb h1
        go_enter Tryd.func19, Tryd.ntmps19
        go_wp2_with (go_at_call 36; refine (hi _).mono ?_; rintro e w1 ⟨rfl, rfl⟩)
        go_ret
        exact ⟨rfl, Below.refl _ _⟩
      · rw [hb] at hq HP
        have hp := HP.out
        simp only [Bool.true_and] at hp
        have HP := Lib.hid hp
        clear hp hb h1
        obtain ⟨t, ht⟩ : ∃ t, s.extract 0 k = t := ⟨_, rfl⟩
        have hts : t.size ≤ 140737488355000 := by rw [← ht, ByteArray.size_extract]; omega
        have hT := fun w' hE' => text_any t w' hE' (by omega)
        rw [ht] at HP
        obtain ⟨y, hy⟩ : ∃ y, s.extract (k + 1 + 1) s.size = y := ⟨_, rfl⟩
        have hys : y.size ≤ 140737488355000 := by rw [← hy, ByteArray.size_extract]; omega
        rw [hy] at HP
        have HT := Lib.hid hT
        clear hT
        cases hb : textB t.data.toList
        · rw [hb] at HP HT
          have hp := HP.out
          simp only [Bool.false_and] at hp
          subst hp
          clear HP hb
          go_enter Tryd.func19, Tryd.ntmps19
          go_wp2_with (first
            | (go_at_call 37; refine (HT.out _ HE.out).mono ?_; rintro e w2 ⟨rfl, hb2⟩)
            | (go_at_call 36; refine (hi _).mono ?_; rintro e w1 ⟨rfl, rfl⟩))
          go_ret
          exact ⟨rfl, hb2⟩
        · rw [hb] at HP HT
          have hp := HP.out
          simp only [Bool.true_and] at hp
          have HP := Lib.hid hp
          clear hp hb
          go_enter Tryd.func19, Tryd.ntmps19
          have HPM : Hid (PB = mailB y) := HP
          have hj := fun w' => Tryd.strings_IndexByte y 62 w'
          rw [show (62 : Int).toNat.toUInt8 = 62 from rfl] at hj
          have HPM := HPM.out
          unfold mailB at HPM
          have HP := Lib.hid HPM
          clear HPM
          cases hix : Lib.indexByte y.data.toList 62 with
          | negSucc m =>
            rw [hix] at hj HP
            have hneg : (Int.negSucc m) < 0 := by omega
            have hp := HP.out
            simp only [] at hp
            subst hp
            clear HP hix
            generalize Int.negSucc m = X at *
            go_wp2_with (first
              | (go_at_call 36; have hx2 := hb2; refine (hj _).mono ?_; rintro e w3 ⟨rfl, rfl⟩)
              | (go_at_call 37; refine (HT.out _ HE.out).mono ?_; rintro e w2 ⟨rfl, hb2⟩)
              | (go_at_call 36; refine (hi _).mono ?_; rintro e w1 ⟨rfl, rfl⟩))
            go_ret
            exact ⟨rfl, hb2⟩
          | ofNat j =>
            have hjl : j < y.size := by
              have h := (Lib.indexByte_some (o := j) hix).1
              rw [Lib.size_eq]; exact (List.getElem?_eq_some_iff.1 h).1
            rw [hix] at hj HP
            have hj : ∀ w', Calls Tryd.prog 36 #[.string y, .int .u8 62] w' fun e w'' => e = .returned (.int .i64 (j : Int)) ∧ w'' = w' := hj
            clear hix
            have hj0 : ¬ ((j : Int) < 0) := by omega
            obtain ⟨t2, ht2⟩ : ∃ t2, y.extract 0 j = t2 := ⟨_, rfl⟩
            have hts2 : t2.size ≤ 140737488355000 := by rw [← ht2, ByteArray.size_extract]; omega
            have HT2 := Lib.hid (fun w' hE' => text_any t2 w' hE' (by omega))
            obtain ⟨z, hz⟩ : ∃ z, y.extract (j + 1) y.size = z := ⟨_, rfl⟩
            have hzs : z.size ≤ 140737488355000 := by rw [← hz, ByteArray.size_extract]; omega
            have hp := HP.out
            simp only [] at hp
            rw [ht2, hz] at hp
            have HP := Lib.hid hp
            clear hp
            cases hb : textB t2.data.toList
            · rw [hb] at HP HT2
              have hp := HP.out
              simp only [Bool.false_and] at hp
              subst hp
              clear HP hb
              go_wp2_with (first
                | (go_at_call 37; have hx2 := hb2; refine (HT2.out _ (HE.out.below hb2)).mono ?_; rintro e w4 ⟨rfl, hb4⟩)
                | (go_at_call 36; have hx2 := hb2; refine (hj _).mono ?_; rintro e w3 ⟨rfl, rfl⟩)
                | (go_at_call 37; refine (HT.out _ HE.out).mono ?_; rintro e w2 ⟨rfl, hb2⟩)
                | (go_at_call 36; refine (hi _).mono ?_; rintro e w1 ⟨rfl, rfl⟩))
              go_ret
              exact ⟨rfl, hb2.trans (hb4.mono hb2.size)⟩
            · rw [hb] at HP HT2
              have hp := HP.out
              simp only [Bool.true_and] at hp
              have HP := Lib.hid hp
              clear hp hb
              unfold timeB at HP
              by_cases h8 : 8 ≤ z.size
              · by_cases h19 : z.size ≤ 19
                · obtain ⟨n, hn⟩ : ∃ n, z.size = n + 7 := ⟨z.size - 7, by omega⟩
                  have hp := HP.out
                  rw [decide_eq_true h8, decide_eq_true h19, hn, show n + 7 - 6 = n + 1 by omega, show n + 7 - 5 = n + 2 by omega, show n + 7 - 4 = n + 3 by omega] at hp
                  simp only [Bool.true_and] at hp
                  have hn1 : 1 ≤ n := by omega
                  have hn12 : n ≤ 12 := by omega
                  have m1 : decide ((n : Int) < 1) = false := decide_eq_false (by omega)
                  have m2 : decide (12 < (n : Int)) = false := decide_eq_false (by omega)
                  have g0 : 0 < z.size := by omega
                  have g1 : n + 1 < z.size := by omega
                  have g2 : n + 2 < z.size := by omega
                  have q0 : (((z[0]'g0).toNat : Int) != 32) = !(z.get! 0 == 32) := by rw [← byte_is z 0 g0 32]; rfl
                  have q1 : (((z[n + 1]'g1).toNat : Int) != 32) = !(z.get! (n + 1) == 32) := by rw [← byte_is z (n + 1) g1 32]; rfl
                  have q2 : (((z[n + 2]'g2).toNat : Int) != 43) = !(z.get! (n + 2) == 43) := by rw [← byte_is z (n + 2) g2 43]; rfl
                  have q3 : (((z[n + 2]'g2).toNat : Int) != 45) = !(z.get! (n + 2) == 45) := by rw [← byte_is z (n + 2) g2 45]; rfl
                  clear h8 h19 HP
                  cases c0 : (z.get! 0 == 32)
                  · rw [c0] at q0 hp
                    simp only [Bool.false_and] at hp
                    subst hp
                    clear c0 q1 q2 q3
                    go_wp2_with (first
                      | (go_at_call 37; have hx2 := hb2; refine (HT2.out _ (HE.out.below hb2)).mono ?_; rintro e w4 ⟨rfl, hb4⟩)
                      | (go_at_call 36; have hx2 := hb2; refine (hj _).mono ?_; rintro e w3 ⟨rfl, rfl⟩)
                      | (go_at_call 37; refine (HT.out _ HE.out).mono ?_; rintro e w2 ⟨rfl, hb2⟩)
                      | (go_at_call 36; refine (hi _).mono ?_; rintro e w1 ⟨rfl, rfl⟩))
                    go_ret
                    exact ⟨rfl, hb2.trans (hb4.mono hb2.size)⟩
                  · rw [c0] at q0 hp
                    simp only [Bool.true_and] at hp
                    clear c0
                    cases c1 : (z.get! (n + 1) == 32)
                    · rw [c1] at q1 hp
                      simp only [Bool.false_and] at hp
                      subst hp
                      clear c1 q2 q3
                      go_wp2_with (first
                        | (go_at_call 37; have hx2 := hb2; refine (HT2.out _ (HE.out.below hb2)).mono ?_; rintro e w4 ⟨rfl, hb4⟩)
                        | (go_at_call 36; have hx2 := hb2; refine (hj _).mono ?_; rintro e w3 ⟨rfl, rfl⟩)
                        | (go_at_call 37; refine (HT.out _ HE.out).mono ?_; rintro e w2 ⟨rfl, hb2⟩)
                        | (go_at_call 36; refine (hi _).mono ?_; rintro e w1 ⟨rfl, rfl⟩))
                      go_ret
                      exact ⟨rfl, hb2.trans (hb4.mono hb2.size)⟩
                    · rw [c1] at q1 hp
                      simp only [Bool.true_and] at hp
                      clear c1
                      cases c2 : (z.get! (n + 2) == 43)
                      · rw [c2] at q2 hp
                        simp only [Bool.false_or] at hp
                        clear c2
                        cases c3 : (z.get! (n + 2) == 45)
                        · rw [c3] at q3 hp
                          simp only [Bool.false_and] at hp
                          subst hp
                          clear c3
                          go_wp2_with (first
                            | (go_at_call 37; have hx2 := hb2; refine (HT2.out _ (HE.out.below hb2)).mono ?_; rintro e w4 ⟨rfl, hb4⟩)
                            | (go_at_call 36; have hx2 := hb2; refine (hj _).mono ?_; rintro e w3 ⟨rfl, rfl⟩)
                            | (go_at_call 37; refine (HT.out _ HE.out).mono ?_; rintro e w2 ⟨rfl, hb2⟩)
                            | (go_at_call 36; refine (hi _).mono ?_; rintro e w1 ⟨rfl, rfl⟩))
                          go_ret
                          exact ⟨rfl, hb2.trans (hb4.mono hb2.size)⟩
                        · rw [c3] at q3 hp
                          simp only [Bool.true_and] at hp
                          clear c3
                          obtain ⟨d, hd⟩ : ∃ d, z.extract 1 (n + 1) = d := ⟨_, rfl⟩
                          obtain ⟨q, hqq⟩ : ∃ q, z.extract (n + 3) (n + 7) = q := ⟨_, rfl⟩
                          have hds : d.size = n := by rw [← hd, ByteArray.size_extract]; omega
                          have hqs : q.size = 4 := by rw [← hqq, ByteArray.size_extract]; omega
                          obtain ⟨t5, ht5⟩ : ∃ t5 : ByteArray, (⟨(Lib.trimS (d ++ q).data.toList digTen).toArray⟩ : ByteArray) = t5 := ⟨_, rfl⟩
                          have hdq : (d ++ q).size ≤ 9223372036854775807 := by rw [ByteArray.size_append]; omega
                          have HTR : Hid (∀ w', Calls Tryd.prog 38 #[.string (d ++ q), .string ⟨#[48, 49, 50, 51, 52, 53, 54, 55, 56, 57]⟩] w' fun e w'' => e = .returned (.string t5) ∧ Below w'.heap.size w' w'') := Lib.hid (fun w' => by
                            have h := trim_any (d ++ q) w' hdq
                            rw [show ([48, 49, 50, 51, 52, 53, 54, 55, 56, 57] : List UInt8) = digTen from rfl, ht5] at h
                            exact h)
                          have hA : allDig (d.data.toList ++ q.data.toList) = t5.toList.isEmpty := by
                            rw [← ht5, Lib.toList_data]
                            unfold allDig
                            rw [show (d ++ q).data.toList = d.data.toList ++ q.data.toList by rw [ByteArray.data_append, Array.toList_append]]
                            show ((Lib.trimS (d.data.toList ++ q.data.toList) digTen).toArray.toList == []) = (Lib.trimS (d.data.toList ++ q.data.toList) digTen).toArray.toList.isEmpty
                            generalize (Lib.trimS (d.data.toList ++ q.data.toList) digTen).toArray.toList = L
                            cases L <;> rfl
                          have hd0 : 0 < d.size := by omega
                          have q5 : (((d[0]'hd0).toNat : Int) != 48) = !(z.get! 1 == 48) := by
                            rw [← byte_is z 1 (by omega) 48]
                            have e : d[0]'hd0 = z[1]'(by omega) := by
                              subst hd
                              exact ByteArray.getElem_extract hd0
                            rw [e]; rfl
                          rw [hd, hqq, hA] at hp
                          clear hA ht5 hdq
                          cases c4 : t5.toList.isEmpty
                          · rw [c4] at hp
                            simp only [Bool.false_and] at hp
                            subst hp
                            go_wp2_with (first
                              | (go_at_call 38; have hx4 := hb4; refine (HTR.out w4).mono ?_; rintro e w5 ⟨rfl, hb5⟩)
                              | (go_at_call 37; have hx2 := hb2; refine (HT2.out _ (HE.out.below hb2)).mono ?_; rintro e w4 ⟨rfl, hb4⟩)
                              | (go_at_call 36; have hx2 := hb2; refine (hj _).mono ?_; rintro e w3 ⟨rfl, rfl⟩)
                              | (go_at_call 37; refine (HT.out _ HE.out).mono ?_; rintro e w2 ⟨rfl, hb2⟩)
                              | (go_at_call 36; refine (hi _).mono ?_; rintro e w1 ⟨rfl, rfl⟩))
                            go_ret
                            exact ⟨rfl, (hb2.trans (hb4.mono hb2.size)).trans (hb5.mono (Nat.le_trans hb2.size hb4.size))⟩
                          · rw [c4] at hp
                            simp only [Bool.true_and] at hp
                            cases c5 : (d.toList == [48])
                            · rw [c5] at hp
                              simp only [Bool.false_or] at hp
                              subst hp
                              cases c6 : (z.get! 1 == 48)
                              · rw [c6] at q5
                                clear c6
                                go_wp2_with (first
                                  | (go_at_call 38; have hx4 := hb4; refine (HTR.out w4).mono ?_; rintro e w5 ⟨rfl, hb5⟩)
                                  | (go_at_call 37; have hx2 := hb2; refine (HT2.out _ (HE.out.below hb2)).mono ?_; rintro e w4 ⟨rfl, hb4⟩)
                                  | (go_at_call 36; have hx2 := hb2; refine (hj _).mono ?_; rintro e w3 ⟨rfl, rfl⟩)
                                  | (go_at_call 37; refine (HT.out _ HE.out).mono ?_; rintro e w2 ⟨rfl, hb2⟩)
                                  | (go_at_call 36; refine (hi _).mono ?_; rintro e w1 ⟨rfl, rfl⟩))
                                go_ret
                                exact ⟨rfl, (hb2.trans (hb4.mono hb2.size)).trans (hb5.mono (Nat.le_trans hb2.size hb4.size))⟩
                              · rw [c6] at q5
                                clear c6
                                go_wp2_with (first
                                  | (go_at_call 38; have hx4 := hb4; refine (HTR.out w4).mono ?_; rintro e w5 ⟨rfl, hb5⟩)
                                  | (go_at_call 37; have hx2 := hb2; refine (HT2.out _ (HE.out.below hb2)).mono ?_; rintro e w4 ⟨rfl, hb4⟩)
                                  | (go_at_call 36; have hx2 := hb2; refine (hj _).mono ?_; rintro e w3 ⟨rfl, rfl⟩)
                                  | (go_at_call 37; refine (HT.out _ HE.out).mono ?_; rintro e w2 ⟨rfl, hb2⟩)
                                  | (go_at_call 36; refine (hi _).mono ?_; rintro e w1 ⟨rfl, rfl⟩))
                                go_ret
                                exact ⟨rfl, (hb2.trans (hb4.mono hb2.size)).trans (hb5.mono (Nat.le_trans hb2.size hb4.size))⟩
                            · rw [c5] at hp
                              simp only [Bool.true_or] at hp
                              subst hp
                              go_wp2_with (first
                                | (go_at_call 38; have hx4 := hb4; refine (HTR.out w4).mono ?_; rintro e w5 ⟨rfl, hb5⟩)
                                | (go_at_call 37; have hx2 := hb2; refine (HT2.out _ (HE.out.below hb2)).mono ?_; rintro e w4 ⟨rfl, hb4⟩)
                                | (go_at_call 36; have hx2 := hb2; refine (hj _).mono ?_; rintro e w3 ⟨rfl, rfl⟩)
                                | (go_at_call 37; refine (HT.out _ HE.out).mono ?_; rintro e w2 ⟨rfl, hb2⟩)
                                | (go_at_call 36; refine (hi _).mono ?_; rintro e w1 ⟨rfl, rfl⟩))
                              go_ret
                              exact ⟨rfl, (hb2.trans (hb4.mono hb2.size)).trans (hb5.mono (Nat.le_trans hb2.size hb4.size))⟩
                      · rw [c2] at q2 hp
                        simp only [Bool.true_or, Bool.true_and] at hp
                        clear c2 q3
                        obtain ⟨d, hd⟩ : ∃ d, z.extract 1 (n + 1) = d := ⟨_, rfl⟩
                        obtain ⟨q, hqq⟩ : ∃ q, z.extract (n + 3) (n + 7) = q := ⟨_, rfl⟩
                        have hds : d.size = n := by rw [← hd, ByteArray.size_extract]; omega
                        have hqs : q.size = 4 := by rw [← hqq, ByteArray.size_extract]; omega
                        obtain ⟨t5, ht5⟩ : ∃ t5 : ByteArray, (⟨(Lib.trimS (d ++ q).data.toList digTen).toArray⟩ : ByteArray) = t5 := ⟨_, rfl⟩
                        have hdq : (d ++ q).size ≤ 9223372036854775807 := by rw [ByteArray.size_append]; omega
                        have HTR : Hid (∀ w', Calls Tryd.prog 38 #[.string (d ++ q), .string ⟨#[48, 49, 50, 51, 52, 53, 54, 55, 56, 57]⟩] w' fun e w'' => e = .returned (.string t5) ∧ Below w'.heap.size w' w'') := Lib.hid (fun w' => by
                          have h := trim_any (d ++ q) w' hdq
                          rw [show ([48, 49, 50, 51, 52, 53, 54, 55, 56, 57] : List UInt8) = digTen from rfl, ht5] at h
                          exact h)
                        have hA : allDig (d.data.toList ++ q.data.toList) = t5.toList.isEmpty := by
                          rw [← ht5, Lib.toList_data]
                          unfold allDig
                          rw [show (d ++ q).data.toList = d.data.toList ++ q.data.toList by rw [ByteArray.data_append, Array.toList_append]]
                          show ((Lib.trimS (d.data.toList ++ q.data.toList) digTen).toArray.toList == []) = (Lib.trimS (d.data.toList ++ q.data.toList) digTen).toArray.toList.isEmpty
                          generalize (Lib.trimS (d.data.toList ++ q.data.toList) digTen).toArray.toList = L
                          cases L <;> rfl
                        have hd0 : 0 < d.size := by omega
                        have q5 : (((d[0]'hd0).toNat : Int) != 48) = !(z.get! 1 == 48) := by
                          rw [← byte_is z 1 (by omega) 48]
                          have e : d[0]'hd0 = z[1]'(by omega) := by
                            subst hd
                            exact ByteArray.getElem_extract hd0
                          rw [e]; rfl
                        rw [hd, hqq, hA] at hp
                        clear hA ht5 hdq
                        cases c4 : t5.toList.isEmpty
                        · rw [c4] at hp
                          simp only [Bool.false_and] at hp
                          subst hp
                          go_wp2_with (first
                            | (go_at_call 38; have hx4 := hb4; refine (HTR.out w4).mono ?_; rintro e w5 ⟨rfl, hb5⟩)
                            | (go_at_call 37; have hx2 := hb2; refine (HT2.out _ (HE.out.below hb2)).mono ?_; rintro e w4 ⟨rfl, hb4⟩)
                            | (go_at_call 36; have hx2 := hb2; refine (hj _).mono ?_; rintro e w3 ⟨rfl, rfl⟩)
                            | (go_at_call 37; refine (HT.out _ HE.out).mono ?_; rintro e w2 ⟨rfl, hb2⟩)
                            | (go_at_call 36; refine (hi _).mono ?_; rintro e w1 ⟨rfl, rfl⟩))
                          go_ret
                          exact ⟨rfl, (hb2.trans (hb4.mono hb2.size)).trans (hb5.mono (Nat.le_trans hb2.size hb4.size))⟩
                        · rw [c4] at hp
                          simp only [Bool.true_and] at hp
                          cases c5 : (d.toList == [48])
                          · rw [c5] at hp
                            simp only [Bool.false_or] at hp
                            subst hp
                            cases c6 : (z.get! 1 == 48)
                            · rw [c6] at q5
                              clear c6
                              go_wp2_with (first
                                | (go_at_call 38; have hx4 := hb4; refine (HTR.out w4).mono ?_; rintro e w5 ⟨rfl, hb5⟩)
                                | (go_at_call 37; have hx2 := hb2; refine (HT2.out _ (HE.out.below hb2)).mono ?_; rintro e w4 ⟨rfl, hb4⟩)
                                | (go_at_call 36; have hx2 := hb2; refine (hj _).mono ?_; rintro e w3 ⟨rfl, rfl⟩)
                                | (go_at_call 37; refine (HT.out _ HE.out).mono ?_; rintro e w2 ⟨rfl, hb2⟩)
                                | (go_at_call 36; refine (hi _).mono ?_; rintro e w1 ⟨rfl, rfl⟩))
                              go_ret
                              exact ⟨rfl, (hb2.trans (hb4.mono hb2.size)).trans (hb5.mono (Nat.le_trans hb2.size hb4.size))⟩
                            · rw [c6] at q5
                              clear c6
                              go_wp2_with (first
                                | (go_at_call 38; have hx4 := hb4; refine (HTR.out w4).mono ?_; rintro e w5 ⟨rfl, hb5⟩)
                                | (go_at_call 37; have hx2 := hb2; refine (HT2.out _ (HE.out.below hb2)).mono ?_; rintro e w4 ⟨rfl, hb4⟩)
                                | (go_at_call 36; have hx2 := hb2; refine (hj _).mono ?_; rintro e w3 ⟨rfl, rfl⟩)
                                | (go_at_call 37; refine (HT.out _ HE.out).mono ?_; rintro e w2 ⟨rfl, hb2⟩)
                                | (go_at_call 36; refine (hi _).mono ?_; rintro e w1 ⟨rfl, rfl⟩))
                              go_ret
                              exact ⟨rfl, (hb2.trans (hb4.mono hb2.size)).trans (hb5.mono (Nat.le_trans hb2.size hb4.size))⟩
                          · rw [c5] at hp
                            simp only [Bool.true_or] at hp
                            subst hp
                            go_wp2_with (first
                              | (go_at_call 38; have hx4 := hb4; refine (HTR.out w4).mono ?_; rintro e w5 ⟨rfl, hb5⟩)
                              | (go_at_call 37; have hx2 := hb2; refine (HT2.out _ (HE.out.below hb2)).mono ?_; rintro e w4 ⟨rfl, hb4⟩)
                              | (go_at_call 36; have hx2 := hb2; refine (hj _).mono ?_; rintro e w3 ⟨rfl, rfl⟩)
                              | (go_at_call 37; refine (HT.out _ HE.out).mono ?_; rintro e w2 ⟨rfl, hb2⟩)
                              | (go_at_call 36; refine (hi _).mono ?_; rintro e w1 ⟨rfl, rfl⟩))
                            go_ret
                            exact ⟨rfl, (hb2.trans (hb4.mono hb2.size)).trans (hb5.mono (Nat.le_trans hb2.size hb4.size))⟩
                · have hp := HP.out
                  rw [decide_eq_false h19] at hp
                  simp only [Bool.and_false, Bool.false_and] at hp
                  subst hp
                  have m1 : decide ((z.size : Int) - 7 < 1) = false := decide_eq_false (by omega)
                  have m2 : decide (12 < (z.size : Int) - 7) = true := decide_eq_true (by omega)
                  clear HP
                  go_wp2_with (first
                    | (go_at_call 37; have hx2 := hb2; refine (HT2.out _ (HE.out.below hb2)).mono ?_; rintro e w4 ⟨rfl, hb4⟩)
                    | (go_at_call 36; have hx2 := hb2; refine (hj _).mono ?_; rintro e w3 ⟨rfl, rfl⟩)
                    | (go_at_call 37; refine (HT.out _ HE.out).mono ?_; rintro e w2 ⟨rfl, hb2⟩)
                    | (go_at_call 36; refine (hi _).mono ?_; rintro e w1 ⟨rfl, rfl⟩))
                  go_ret
                  exact ⟨rfl, hb2.trans (hb4.mono hb2.size)⟩
              · have hp := HP.out
                rw [decide_eq_false h8] at hp
                simp only [Bool.and_false, Bool.false_and] at hp
                subst hp
                have m1 : decide ((z.size : Int) - 7 < 1) = true := decide_eq_true (by omega)
                clear HP
                go_wp2_with (first
                  | (go_at_call 37; have hx2 := hb2; refine (HT2.out _ (HE.out.below hb2)).mono ?_; rintro e w4 ⟨rfl, hb4⟩)
                  | (go_at_call 36; have hx2 := hb2; refine (hj _).mono ?_; rintro e w3 ⟨rfl, rfl⟩)
                  | (go_at_call 37; refine (HT.out _ HE.out).mono ?_; rintro e w2 ⟨rfl, hb2⟩)
                  | (go_at_call 36; refine (hi _).mono ?_; rintro e w1 ⟨rfl, rfl⟩))
                go_ret
                exact ⟨rfl, hb2.trans (hb4.mono hb2.size)⟩
    · obtain rfl : i = 0 := by omega
      have hp := HP.out
      simp at hp
      subst hp
      clear HP
      go_enter Tryd.func19, Tryd.ntmps19
      go_wp2_with (go_at_call 36; refine (hi _).mono ?_; rintro e w1 ⟨rfl, rfl⟩)
      go_ret
      exact ⟨rfl, Below.refl _ _⟩
end Go.Proofs.YtdlabapfcghfmaaDoor
