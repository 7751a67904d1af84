/- stemmaref14.Valid. -/
import Derived.Test.YtbaokenjkbabnaaDoorNmD
namespace Go.Proofs.YtbaokenjkbabnaaDoor
open Go.RowKit
set_option linter.unusedVariables false

def dotAt (l : List UInt8) (i : Nat) : Bool := (l[i]? == some 46 && l[i + 1]? == some 46) || (l[i]? == some 64 && l[i + 1]? == some 123)
theorem dots_cons (l : List UInt8) (i : Nat) (h : i < l.length) : dotsB (l.drop i) = (dotAt l i || dotsB (l.drop (i + 1))) := by
  rw [Bool.eq_iff_iff, Bool.or_eq_true, dotsB_iff, dotsB_iff]
  constructor
  · rintro ⟨j, hj⟩
    rw [List.getElem?_drop, List.getElem?_drop] at hj
    cases j with
    | zero =>
      left
      unfold dotAt
      simpa using hj
    | succ j =>
      right
      refine ⟨j, ?_⟩
      rw [List.getElem?_drop, List.getElem?_drop]
      have e1 : i + 1 + j = i + (j + 1) := by omega
      have e2 : i + 1 + (j + 1) = i + (j + 1 + 1) := by omega
      rw [e1, e2]
      exact hj
  · rintro (h | ⟨j, hj⟩)
    · refine ⟨0, ?_⟩
      rw [List.getElem?_drop, List.getElem?_drop]
      unfold dotAt at h
      simpa using h
    · refine ⟨j + 1, ?_⟩
      rw [List.getElem?_drop, List.getElem?_drop] at hj ⊢
      have e1 : i + 1 + j = i + (j + 1) := by omega
      have e2 : i + 1 + (j + 1) = i + (j + 1 + 1) := by omega
      rw [e1, e2] at hj
      exact hj
/-- What the document's loop has found out of the first i bytes. -/
def SeenOk (l : List UInt8) (i : Nat) : Prop := (l.drop i).any badB = l.any badB ∧ dotsB (l.drop (i - 1)) = dotsB l
theorem SeenOk.zero (l : List UInt8) : SeenOk l 0 := ⟨rfl, rfl⟩
theorem two_eq (s : ByteArray) (i : Nat) (h0 : 0 < i) (h : i < s.size) (x y : UInt8) : ((s.extract (i - 1) (i + 1)).toList == [x, y]) = (s.data.toList[i - 1]? == some x && s.data.toList[i]? == some y) := by
  rw [Lib.extract_toList]
  have e : i + 1 - (i - 1) = 2 := by omega
  rw [e]
  have h1 := get_toList s (i - 1) (by omega)
  have h2 := get_toList s i h
  have hd : (s.data.toList.drop (i - 1)).take 2 = [s.get! (i - 1), s.get! i] := by
    apply List.ext_getElem?
    intro j
    rw [List.getElem?_take]
    by_cases hj : j < 2
    · rw [if_pos hj, List.getElem?_drop]
      have : j = 0 ∨ j = 1 := by omega
      rcases this with rfl | rfl
      · rw [Nat.add_zero, h1]; rfl
      · rw [show i - 1 + 1 = i by omega, h2]; rfl
    · rw [if_neg hj, List.getElem?_eq_none (by simp; omega)]
  rw [hd, h1, h2]
  simp [Bool.and_comm]
set_option maxRecDepth 100000 in
set_option maxHeartbeats 2000000 in
theorem validR_any (s : ByteArray) (w : World) (hs : s.size ≤ 140737488355328) :
    Calls Tryd.prog 12 #[.string s] w (VPost s w) := by
  by_cases h2 : s.size ≤ 100
  · have q2 : decide ((100 : Int) < (s.size : Int)) = false := decide_eq_false (by omega)
    have q2' : decide (100 < s.size) = false := decide_eq_false (by omega)
    by_cases h5 : s.size < 5
    · have q5 : decide ((s.size : Int) < 5) = true := decide_eq_true (by omega)
      have HF := Lib.hid (vn_pre (l := s.data.toList) (by
        rw [Bool.eq_false_iff]
        intro h
        unfold Lib.hasPrefix at h
        rw [List.isPrefixOf_iff_prefix] at h
        have := h.length_le
        rw [← Lib.size_eq] at this
        simp at this
        omega))
      go_enter Tryd.func12, Tryd.ntmps12
      go_wp2
      go_ret
      unfold VPost
      rw [HF.out]
      exact ⟨rfl, Below.refl _ _⟩
    · have q5 : decide ((s.size : Int) < 5) = false := decide_eq_false (by omega)
      have h5i : (5 : Int) ≤ (s.size : Int) := by omega
      have hpr := Lib.hasPrefix_raw s ⟨#[114, 101, 102, 115, 47]⟩
      rw [decide_eq_true (show (⟨#[114, 101, 102, 115, 47]⟩ : ByteArray).size ≤ s.size by show 5 ≤ s.size; omega), Bool.true_and] at hpr
      rw [Lib.toList_data ⟨#[114, 101, 102, 115, 47]⟩] at hpr
      have hpr : ((s.extract 0 5).toList == [114, 101, 102, 115, 47]) = Lib.hasPrefix s.data.toList [114, 101, 102, 115, 47] := hpr
      by_cases h3 : Lib.hasPrefix s.data.toList [114, 101, 102, 115, 47] = true
      · rw [h3] at hpr
        have hpr2 : (!(s.extract 0 5).toList == [114, 101, 102, 115, 47]) = false := by rw [hpr]; rfl
        have hu := utf8_any s w hs
        by_cases h1 : Lib.validD s.data.toList = true
        · rw [h1] at hu
          have he := fun w' => ends_any s ⟨#[46]⟩ w' hs
          by_cases h6 : Lib.hasSuffix s.data.toList [46] = true
          · have he : ∀ w', Calls Tryd.prog 32 #[.string s, .string ⟨#[46]⟩] w' fun e w'' => e = .returned (.bool true) ∧ w' = w'' := fun w' => (he w').mono fun _ _ ⟨a, b⟩ => ⟨a.trans (by rw [show (⟨#[46]⟩ : ByteArray).data.toList = [46] from rfl, h6]), b⟩
            have HF := Lib.hid (vn_end h6)
            clear h1 h3 h6
            go_enter Tryd.func12, Tryd.ntmps12
            go_wp2_with (first
              | (go_at_call 31; refine hu.mono ?_; rintro e w1 ⟨rfl, hb1⟩)
              | (go_at_call 32; refine (he _).mono ?_; rintro e w2 ⟨rfl, rfl⟩))
            go_ret
            unfold VPost
            rw [HF.out]
            exact ⟨rfl, hb1⟩
          · have h6' : Lib.hasSuffix s.data.toList [46] = false := by simpa using h6
            have he : ∀ w', Calls Tryd.prog 32 #[.string s, .string ⟨#[46]⟩] w' fun e w'' => e = .returned (.bool false) ∧ w' = w'' := fun w' => (he w').mono fun _ _ ⟨a, b⟩ => ⟨a.trans (by rw [show (⟨#[46]⟩ : ByteArray).data.toList = [46] from rfl, h6']), b⟩
            have H1 := Lib.hid h1
            have H3 := Lib.hid h3
            have H6 := Lib.hid h6'
            have HE := Lib.hid he
            clear h1 h3 h6 h6' he
            go_enter Tryd.func12, Tryd.ntmps12
            go_wp2_with (first
              | (go_at_call 31; refine hu.mono ?_; rintro e w1 ⟨rfl, hb1⟩)
              | (go_at_call 32; refine (HE.out _).mono ?_; rintro e w2 ⟨rfl, rfl⟩))
            clear hu HE hpr hpr2
            go_loopw [3] (fun i wr => ∃ k : Nat, k ≤ s.size ∧ i = .int .i64 k ∧ Hid (SeenOk s.data.toList k) ∧ Drawn w1 wr) (fun i _ => s.size - (intOf i).toNat)
            case atStart => exact ⟨0, Nat.zero_le _, rfl, SeenOk.zero _, Drawn.refl _⟩
            case round =>
              obtain ⟨k, hk, rfl, hsn, hD⟩ := hrel
              have hBr : Below w.heap.size w wr := hD.below hb1
              by_cases hlt : k < s.size
              · have d1 : decide (k < s.size) = true := decide_eq_true hlt
                have k0 : (0 : Int) ≤ (k : Int) := by omega
                have k1 : (k : Int) < (s.size : Int) := by omega
                have hgs := get_toList s k hlt
                have hg : s.get! k = s[k] := by have := get_at s k hlt; rwa [Nat.add_zero] at this
                rw [hg] at hgs
                have hkl : k < s.data.toList.length := by rw [← Lib.size_eq]; exact hlt
                have hstep := any_at badB s.data.toList k hkl
                rw [(List.getElem?_eq_some_iff.1 hgs).2] at hstep
                by_cases hb : badB s[k] = true
                · have HF := Lib.hid (vn_bad (l := s.data.toList) (by rw [← hsn.out.1, hstep, hb]; rfl))
                  by_cases c1 : s[k].toNat < 33
                  · have q1 : decide ((s[k].toNat : Int) < 33) = true := decide_eq_true (by omega)
                    clear hstep hb hgs hg
                    go_wp2
                    go_ret
                    unfold VPost
                    rw [HF.out]
                    exact ⟨rfl, hBr⟩
                  · have q1 : decide ((s[k].toNat : Int) < 33) = false := decide_eq_false (by omega)
                    by_cases c2 : s[k] = 127
                    · have q3 : ((s[k].toNat : Int) == 127) = true := by rw [c2]; rfl
                      clear hstep hb hgs hg c2
                      go_wp2
                      go_ret
                      unfold VPost
                      rw [HF.out]
                      exact ⟨rfl, hBr⟩
                    · have q3 : ((s[k].toNat : Int) == 127) = false := by
                        rw [beq_eq_false_iff_ne]; intro h
                        exact c2 (UInt8.toNat_inj.1 (by show s[k].toNat = 127; omega))
                      have hmem : ∃ q : Nat, q < 7 ∧ s[k].toNat = ([126, 94, 58, 63, 42, 91, 92] : List Nat).getD q 0 := by
                        unfold badB at hb
                        rw [decide_eq_false c1, Bool.false_or, show (s[k] == 127) = false by simpa using c2, Bool.false_or] at hb
                        simp only [List.contains_cons, List.contains_nil, Bool.or_false, Bool.or_eq_true, beq_iff_eq] at hb
                        rcases hb with h | h | h | h | h | h | h
                        · exact ⟨0, by omega, by rw [h]; rfl⟩
                        · exact ⟨1, by omega, by rw [h]; rfl⟩
                        · exact ⟨2, by omega, by rw [h]; rfl⟩
                        · exact ⟨3, by omega, by rw [h]; rfl⟩
                        · exact ⟨4, by omega, by rw [h]; rfl⟩
                        · exact ⟨5, by omega, by rw [h]; rfl⟩
                        · exact ⟨6, by omega, by rw [h]; rfl⟩
                      clear hstep hb hgs hg c2 c1
                      obtain ⟨Q, hQ7, hQ⟩ := hmem
                      obtain ⟨x, hx⟩ : ∃ x, s[k] = x := ⟨_, rfl⟩
                      rw [hx] at hQ q1 q3
                      have HQ := Lib.hid hQ
                      clear hQ
                      go_wp2
                      have HX := Lib.hid hx
                      go_loopw [4] (fun v wq => ∃ m : Nat, m ≤ Q ∧ v = .int .i64 m ∧ Drawn w1 wq) (fun v _ => 7 - (intOf v).toNat)
                      case atStart => exact ⟨0, Nat.zero_le _, rfl, hD⟩
                      case round =>
                        obtain ⟨m, hm, rfl, hDq⟩ := hrel
                        have hBq := hDq.below hb1
                        have hm7 : m < 7 := by omega
                        have e1 : decide ((m : Int) < 7) = true := decide_eq_true (by omega)
                        have m0 : (0 : Int) ≤ (m : Int) := by omega
                        have m1 : (m : Int) < 7 := by omega
                        have hms : m = 0 ∨ m = 1 ∨ m = 2 ∨ m = 3 ∨ m = 4 ∨ m = 5 ∨ m = 6 := by omega
                        clear hD
                        rcases hms with rfl | rfl | rfl | rfl | rfl | rfl | rfl
                        · by_cases hx2 : x.toNat = 126
                          · have q5 : ((x.toNat : Int) == (((⟨#[126, 94, 58, 63, 42, 91, 92]⟩ : ByteArray)[0]'(by decide)).toNat : Int)) = true := by show ((x.toNat : Int) == 126) = true; rw [hx2]; rfl
                            clear hx2
                            go_wp2
                            go_quiet (fail)
                            go_wp2
                            go_ret
                            unfold VPost
                            rw [HF.out]
                            exact ⟨rfl, Below.drewN hBq _⟩
                          · have q5 : ((x.toNat : Int) == (((⟨#[126, 94, 58, 63, 42, 91, 92]⟩ : ByteArray)[0]'(by decide)).toNat : Int)) = false := by show ((x.toNat : Int) == 126) = false; rw [beq_eq_false_iff_ne]; omega
                            have hmQ : 0 < Q := by
                              rcases Nat.lt_or_ge 0 Q with h | h
                              · exact h
                              · exfalso
                                obtain rfl : Q = 0 := by omega
                                exact hx2 (HQ.out.trans rfl)
                            clear hx2
                            go_wp2
                            go_quiet (fail)
                            go_wp2
                            go_roundw
                            case rel => exact ⟨1, by omega, by go_num, hDq.more _⟩
                            case measure => simp [intOf]
                        · by_cases hx2 : x.toNat = 94
                          · have q5 : ((x.toNat : Int) == (((⟨#[126, 94, 58, 63, 42, 91, 92]⟩ : ByteArray)[1]'(by decide)).toNat : Int)) = true := by show ((x.toNat : Int) == 94) = true; rw [hx2]; rfl
                            clear hx2
                            go_wp2
                            go_quiet (fail)
                            go_wp2
                            go_ret
                            unfold VPost
                            rw [HF.out]
                            exact ⟨rfl, Below.drewN hBq _⟩
                          · have q5 : ((x.toNat : Int) == (((⟨#[126, 94, 58, 63, 42, 91, 92]⟩ : ByteArray)[1]'(by decide)).toNat : Int)) = false := by show ((x.toNat : Int) == 94) = false; rw [beq_eq_false_iff_ne]; omega
                            have hmQ : 1 < Q := by
                              rcases Nat.lt_or_ge 1 Q with h | h
                              · exact h
                              · exfalso
                                obtain rfl : Q = 1 := by omega
                                exact hx2 (HQ.out.trans rfl)
                            clear hx2
                            go_wp2
                            go_quiet (fail)
                            go_wp2
                            go_roundw
                            case rel => exact ⟨2, by omega, by go_num, hDq.more _⟩
                            case measure => simp [intOf]
                        · by_cases hx2 : x.toNat = 58
                          · have q5 : ((x.toNat : Int) == (((⟨#[126, 94, 58, 63, 42, 91, 92]⟩ : ByteArray)[2]'(by decide)).toNat : Int)) = true := by show ((x.toNat : Int) == 58) = true; rw [hx2]; rfl
                            clear hx2
                            go_wp2
                            go_quiet (fail)
                            go_wp2
                            go_ret
                            unfold VPost
                            rw [HF.out]
                            exact ⟨rfl, Below.drewN hBq _⟩
                          · have q5 : ((x.toNat : Int) == (((⟨#[126, 94, 58, 63, 42, 91, 92]⟩ : ByteArray)[2]'(by decide)).toNat : Int)) = false := by show ((x.toNat : Int) == 58) = false; rw [beq_eq_false_iff_ne]; omega
                            have hmQ : 2 < Q := by
                              rcases Nat.lt_or_ge 2 Q with h | h
                              · exact h
                              · exfalso
                                obtain rfl : Q = 2 := by omega
                                exact hx2 (HQ.out.trans rfl)
                            clear hx2
                            go_wp2
                            go_quiet (fail)
                            go_wp2
                            go_roundw
                            case rel => exact ⟨3, by omega, by go_num, hDq.more _⟩
                            case measure => simp [intOf]
                        · by_cases hx2 : x.toNat = 63
                          · have q5 : ((x.toNat : Int) == (((⟨#[126, 94, 58, 63, 42, 91, 92]⟩ : ByteArray)[3]'(by decide)).toNat : Int)) = true := by show ((x.toNat : Int) == 63) = true; rw [hx2]; rfl
                            clear hx2
                            go_wp2
                            go_quiet (fail)
                            go_wp2
                            go_ret
                            unfold VPost
                            rw [HF.out]
                            exact ⟨rfl, Below.drewN hBq _⟩
                          · have q5 : ((x.toNat : Int) == (((⟨#[126, 94, 58, 63, 42, 91, 92]⟩ : ByteArray)[3]'(by decide)).toNat : Int)) = false := by show ((x.toNat : Int) == 63) = false; rw [beq_eq_false_iff_ne]; omega
                            have hmQ : 3 < Q := by
                              rcases Nat.lt_or_ge 3 Q with h | h
                              · exact h
                              · exfalso
                                obtain rfl : Q = 3 := by omega
                                exact hx2 (HQ.out.trans rfl)
                            clear hx2
                            go_wp2
                            go_quiet (fail)
                            go_wp2
                            go_roundw
                            case rel => exact ⟨4, by omega, by go_num, hDq.more _⟩
                            case measure => simp [intOf]
                        · by_cases hx2 : x.toNat = 42
                          · have q5 : ((x.toNat : Int) == (((⟨#[126, 94, 58, 63, 42, 91, 92]⟩ : ByteArray)[4]'(by decide)).toNat : Int)) = true := by show ((x.toNat : Int) == 42) = true; rw [hx2]; rfl
                            clear hx2
                            go_wp2
                            go_quiet (fail)
                            go_wp2
                            go_ret
                            unfold VPost
                            rw [HF.out]
                            exact ⟨rfl, Below.drewN hBq _⟩
                          · have q5 : ((x.toNat : Int) == (((⟨#[126, 94, 58, 63, 42, 91, 92]⟩ : ByteArray)[4]'(by decide)).toNat : Int)) = false := by show ((x.toNat : Int) == 42) = false; rw [beq_eq_false_iff_ne]; omega
                            have hmQ : 4 < Q := by
                              rcases Nat.lt_or_ge 4 Q with h | h
                              · exact h
                              · exfalso
                                obtain rfl : Q = 4 := by omega
                                exact hx2 (HQ.out.trans rfl)
                            clear hx2
                            go_wp2
                            go_quiet (fail)
                            go_wp2
                            go_roundw
                            case rel => exact ⟨5, by omega, by go_num, hDq.more _⟩
                            case measure => simp [intOf]
                        · by_cases hx2 : x.toNat = 91
                          · have q5 : ((x.toNat : Int) == (((⟨#[126, 94, 58, 63, 42, 91, 92]⟩ : ByteArray)[5]'(by decide)).toNat : Int)) = true := by show ((x.toNat : Int) == 91) = true; rw [hx2]; rfl
                            clear hx2
                            go_wp2
                            go_quiet (fail)
                            go_wp2
                            go_ret
                            unfold VPost
                            rw [HF.out]
                            exact ⟨rfl, Below.drewN hBq _⟩
                          · have q5 : ((x.toNat : Int) == (((⟨#[126, 94, 58, 63, 42, 91, 92]⟩ : ByteArray)[5]'(by decide)).toNat : Int)) = false := by show ((x.toNat : Int) == 91) = false; rw [beq_eq_false_iff_ne]; omega
                            have hmQ : 5 < Q := by
                              rcases Nat.lt_or_ge 5 Q with h | h
                              · exact h
                              · exfalso
                                obtain rfl : Q = 5 := by omega
                                exact hx2 (HQ.out.trans rfl)
                            clear hx2
                            go_wp2
                            go_quiet (fail)
                            go_wp2
                            go_roundw
                            case rel => exact ⟨6, by omega, by go_num, hDq.more _⟩
                            case measure => simp [intOf]
                        · by_cases hx2 : x.toNat = 92
                          · have q5 : ((x.toNat : Int) == (((⟨#[126, 94, 58, 63, 42, 91, 92]⟩ : ByteArray)[6]'(by decide)).toNat : Int)) = true := by show ((x.toNat : Int) == 92) = true; rw [hx2]; rfl
                            clear hx2
                            go_wp2
                            go_quiet (fail)
                            go_wp2
                            go_ret
                            unfold VPost
                            rw [HF.out]
                            exact ⟨rfl, Below.drewN hBq _⟩
                          · have q5 : ((x.toNat : Int) == (((⟨#[126, 94, 58, 63, 42, 91, 92]⟩ : ByteArray)[6]'(by decide)).toNat : Int)) = false := by show ((x.toNat : Int) == 92) = false; rw [beq_eq_false_iff_ne]; omega
                            have hmQ : 6 < Q := by
                              rcases Nat.lt_or_ge 6 Q with h | h
                              · exact h
                              · exfalso
                                obtain rfl : Q = 6 := by omega
                                exact hx2 (HQ.out.trans rfl)
                            clear hx2
                            go_wp2
                            go_quiet (fail)
                            go_wp2
                            go_roundw
                            case rel => exact ⟨7, by omega, by go_num, hDq.more _⟩
                            case measure => simp [intOf]
                · have hbf : badB s[k] = false := by simpa using hb
                  have hbf2 := hbf
                  unfold badB at hbf2
                  rw [Bool.or_eq_false_iff, Bool.or_eq_false_iff] at hbf2
                  obtain ⟨⟨x1, x2⟩, x3⟩ := hbf2
                  have x1 := of_decide_eq_false x1
                  have q1 : decide ((s[k].toNat : Int) < 33) = false := decide_eq_false (by omega)
                  have q3 : ((s[k].toNat : Int) == 127) = false := by
                    rw [beq_eq_false_iff_ne] at x2 ⊢
                    intro h
                    exact x2 (UInt8.toNat_inj.1 (by show s[k].toNat = 127; omega))
                  have hx7 : ∀ c : Nat, c ∈ [126, 94, 58, 63, 42, 91, 92] → s[k].toNat ≠ c := by
                    intro c hc h
                    have e : s[k] = UInt8.ofNat c := by
                      apply UInt8.toNat_inj.1
                      rw [h]
                      simp at hc
                      rcases hc with rfl | rfl | rfl | rfl | rfl | rfl | rfl <;> rfl
                    rw [e] at x3
                    simp at hc
                    rcases hc with rfl | rfl | rfl | rfl | rfl | rfl | rfl <;> revert x3 <;> decide
                  have hany2 := Lib.hid (show (s.data.toList.drop (k + 1)).any badB = s.data.toList.any badB by rw [← hsn.out.1, hstep, hbf]; rfl)
                  have HGS := Lib.hid hgs
                  clear hstep hb hbf x1 x2 x3 hg hgs
                  obtain ⟨x, hx⟩ : ∃ x, s[k] = x := ⟨_, rfl⟩
                  rw [hx] at hx7 q1 q3
                  have HX7 := Lib.hid hx7
                  clear hx7
                  go_wp2
                  have HX := Lib.hid hx
                  go_loopw [4] (fun v wq => ∃ m : Nat, m ≤ 7 ∧ v = .int .i64 m ∧ Drawn w1 wq) (fun v _ => 7 - (intOf v).toNat)
                  case atStart => exact ⟨0, Nat.zero_le _, rfl, hD⟩
                  case round =>
                    obtain ⟨m, hm, rfl, hDq⟩ := hrel
                    have hBq := hDq.below hb1
                    clear hD hBr
                    by_cases hm7 : m < 7
                    · have e1 : decide ((m : Int) < 7) = true := decide_eq_true (by omega)
                      have m0 : (0 : Int) ≤ (m : Int) := by omega
                      have m1 : (m : Int) < 7 := by omega
                      have hms : m = 0 ∨ m = 1 ∨ m = 2 ∨ m = 3 ∨ m = 4 ∨ m = 5 ∨ m = 6 := by omega
                      rcases hms with rfl | rfl | rfl | rfl | rfl | rfl | rfl
                      · have q5 : ((x.toNat : Int) == (((⟨#[126, 94, 58, 63, 42, 91, 92]⟩ : ByteArray)[0]'(by decide)).toNat : Int)) = false := by show ((x.toNat : Int) == 126) = false; rw [beq_eq_false_iff_ne]; have := HX7.out 126 (by decide); omega
                        go_wp2
                        go_quiet (fail)
                        go_wp2
                        go_roundw
                        case rel => exact ⟨1, by omega, by go_num, hDq.more _⟩
                        case measure => simp [intOf]
                      · have q5 : ((x.toNat : Int) == (((⟨#[126, 94, 58, 63, 42, 91, 92]⟩ : ByteArray)[1]'(by decide)).toNat : Int)) = false := by show ((x.toNat : Int) == 94) = false; rw [beq_eq_false_iff_ne]; have := HX7.out 94 (by decide); omega
                        go_wp2
                        go_quiet (fail)
                        go_wp2
                        go_roundw
                        case rel => exact ⟨2, by omega, by go_num, hDq.more _⟩
                        case measure => simp [intOf]
                      · have q5 : ((x.toNat : Int) == (((⟨#[126, 94, 58, 63, 42, 91, 92]⟩ : ByteArray)[2]'(by decide)).toNat : Int)) = false := by show ((x.toNat : Int) == 58) = false; rw [beq_eq_false_iff_ne]; have := HX7.out 58 (by decide); omega
                        go_wp2
                        go_quiet (fail)
                        go_wp2
                        go_roundw
                        case rel => exact ⟨3, by omega, by go_num, hDq.more _⟩
                        case measure => simp [intOf]
                      · have q5 : ((x.toNat : Int) == (((⟨#[126, 94, 58, 63, 42, 91, 92]⟩ : ByteArray)[3]'(by decide)).toNat : Int)) = false := by show ((x.toNat : Int) == 63) = false; rw [beq_eq_false_iff_ne]; have := HX7.out 63 (by decide); omega
                        go_wp2
                        go_quiet (fail)
                        go_wp2
                        go_roundw
                        case rel => exact ⟨4, by omega, by go_num, hDq.more _⟩
                        case measure => simp [intOf]
                      · have q5 : ((x.toNat : Int) == (((⟨#[126, 94, 58, 63, 42, 91, 92]⟩ : ByteArray)[4]'(by decide)).toNat : Int)) = false := by show ((x.toNat : Int) == 42) = false; rw [beq_eq_false_iff_ne]; have := HX7.out 42 (by decide); omega
                        go_wp2
                        go_quiet (fail)
                        go_wp2
                        go_roundw
                        case rel => exact ⟨5, by omega, by go_num, hDq.more _⟩
                        case measure => simp [intOf]
                      · have q5 : ((x.toNat : Int) == (((⟨#[126, 94, 58, 63, 42, 91, 92]⟩ : ByteArray)[5]'(by decide)).toNat : Int)) = false := by show ((x.toNat : Int) == 91) = false; rw [beq_eq_false_iff_ne]; have := HX7.out 91 (by decide); omega
                        go_wp2
                        go_quiet (fail)
                        go_wp2
                        go_roundw
                        case rel => exact ⟨6, by omega, by go_num, hDq.more _⟩
                        case measure => simp [intOf]
                      · have q5 : ((x.toNat : Int) == (((⟨#[126, 94, 58, 63, 42, 91, 92]⟩ : ByteArray)[6]'(by decide)).toNat : Int)) = false := by show ((x.toNat : Int) == 92) = false; rw [beq_eq_false_iff_ne]; have := HX7.out 92 (by decide); omega
                        go_wp2
                        go_quiet (fail)
                        go_wp2
                        go_roundw
                        case rel => exact ⟨7, by omega, by go_num, hDq.more _⟩
                        case measure => simp [intOf]
                    · have e1 : decide ((m : Int) < 7) = false := decide_eq_false (by omega)
                      by_cases hk0 : k = 0
                      · subst hk0
                        have HS : Hid (SeenOk s.data.toList (0 + 1)) := ⟨hany2.out, rfl⟩
                        clear hx HX
                        go_wp2
                        go_roundw
                        case rel => exact ⟨0 + 1, by omega, by go_num, HS, hDq⟩
                        case measure => simp [intOf]; omega
                      · have k2 : (0 : Int) < (k : Int) := by omega
                        have q6 : decide ((0 : Int) < (k : Int)) = true := decide_eq_true k2
                        have q6' : decide (0 < k) = true := decide_eq_true (by omega)
                        have hw1 : IntKind.i64.wrap ((k : Int) - 1) = ((k - 1 : Nat) : Int) := by rw [IntWalk.i64_in _ (by omega)]; omega
                        have t1 := two_eq s k (by omega) hlt 46 46
                        have t2 := two_eq s k (by omega) hlt 64 123
                        have hkp : k - 1 + 1 = k := by omega
                        have hd := dots_cons s.data.toList (k - 1) (by omega)
                        rw [hkp] at hd
                        have hdn := hsn.out.2
                        rw [hd] at hdn
                        have hda : dotAt s.data.toList (k - 1) = (((s.extract (k - 1) (k + 1)).toList == [46, 46]) || ((s.extract (k - 1) (k + 1)).toList == [64, 123])) := by
                          rw [t1, t2]; unfold dotAt; rw [hkp]
                        rw [hda] at hdn
                        clear t1 t2 hd hda hx HX hkp
                        by_cases y1 : ((s.extract (k - 1) (k + 1)).toList == [46, 46]) = true
                        · have HF := Lib.hid (vn_dots (l := s.data.toList) (by rw [← hdn, y1]; rfl))
                          clear hdn
                          go_wp2
                          go_ret
                          unfold VPost
                          rw [HF.out]
                          exact ⟨rfl, hBq⟩
                        · have y1' : ((s.extract (k - 1) (k + 1)).toList == [46, 46]) = false := by simpa using y1
                          rw [y1', Bool.false_or] at hdn
                          by_cases y2 : ((s.extract (k - 1) (k + 1)).toList == [64, 123]) = true
                          · have HF := Lib.hid (vn_dots (l := s.data.toList) (by rw [← hdn, y2]; rfl))
                            clear hdn y1
                            go_wp2
                            go_ret
                            unfold VPost
                            rw [HF.out]
                            exact ⟨rfl, hBq⟩
                          · have y2' : ((s.extract (k - 1) (k + 1)).toList == [64, 123]) = false := by simpa using y2
                            rw [y2', Bool.false_or] at hdn
                            have HS : Hid (SeenOk s.data.toList (k + 1)) := ⟨hany2.out, by rw [Nat.add_sub_cancel]; exact hdn⟩
                            clear hdn y1 y2
                            go_wp2
                            go_roundw
                            case rel => exact ⟨k + 1, by omega, by go_num, HS, hDq⟩
                            case measure => simp [intOf]; omega
              · have d1 : decide (k < s.size) = false := decide_eq_false hlt
                obtain rfl : k = s.size := by omega
                have H4 := Lib.hid (show s.data.toList.any badB = false by rw [← hsn.out.1, List.drop_eq_nil_of_le (by rw [← Lib.size_eq]; exact Nat.le_refl _)]; rfl)
                have H7 := Lib.hid (show dotsB s.data.toList = false by
                  rw [← hsn.out.2]
                  have hl : (s.data.toList.drop (s.size - 1)).length ≤ 1 := by rw [List.length_drop, ← Lib.size_eq]; omega
                  match s.data.toList.drop (s.size - 1), hl with
                  | [], _ => rfl
                  | [_], _ => rfl)
                have hpt := parts_any s wr h2
                clear hsn hD
                go_wp2_with (go_at_call 33; refine hpt.mono ?_; rintro e w4 ⟨A4, c4, Ps, rfl, ho4, hP4, hb4, hl4⟩)
                have hB4 : Below w.heap.size w w4 := hBr.trans (hb4.mono hBr.size)
                have hne : 0 < (Ps.map Value.string).length := by
                  rw [List.length_map]
                  have h1 := congrArg List.length hP4
                  rw [List.length_map] at h1
                  have := partsL_ne s.data.toList
                  rcases Nat.eq_zero_or_pos Ps.length with h | h
                  · rw [h] at h1; exact absurd (List.eq_nil_of_length_eq_zero h1.symm) this
                  · exact h
                obtain ⟨pb, po, cc, hv4, _, _, hcell0⟩ := ho4.cells hne
                injection hv4 with hA4 _ hcc
                subst hA4
                subst hcc
                have hcell1 : ∀ j, (hj : j < Ps.length) → w4.cell? ⟨pb, po + j, none⟩ = some (.string Ps[j]) := fun j hj => by
                  rw [hcell0 j (by rw [List.length_map]; exact hj)]
                  simp [hj]
                have HC := Lib.hid hcell1
                obtain ⟨NN, hPl⟩ : ∃ NN, Ps.length = NN := ⟨_, rfl⟩
                have HPd := Lib.hid hP4
                rw [hPl] at hl4
                clear hcell0 hcell1 hne ho4 hP4 hpt
                simp only [hPl]
                have HPl := Lib.hid hPl
                clear hPl
                go_loop [6] (fun i => ∃ k : Nat, k ≤ NN ∧ i = .int .i64 k ∧ ((partsL s.data.toList).drop k).any partB = (partsL s.data.toList).any partB) (fun i => NN - (intOf i).toNat)
                case atStart => exact ⟨0, Nat.zero_le _, rfl, by rw [List.drop_zero]⟩
                case round =>
                  obtain ⟨k, hk, rfl, hany⟩ := hrel
                  have HA := Lib.hid hany
                  clear hany
                  by_cases hlt : k < NN
                  · have d1 : decide (k < NN) = true := decide_eq_true hlt
                    have k0 : (0 : Int) ≤ (k : Int) := by omega
                    have k1 : (k : Int) < (NN : Int) := by omega
                    have hkl : k < Ps.length := by rw [HPl.out]; exact hlt
                    have hkl2 : k < (partsL s.data.toList).length := by rw [← HPd.out, List.length_map]; exact hkl
                    have hc := HC.out k hkl
                    obtain ⟨p, hp⟩ : ∃ p, Ps[k] = p := ⟨_, rfl⟩
                    rw [hp] at hc
                    have hpk : (partsL s.data.toList)[k] = p.data.toList := by
                      have : (Ps.map (fun b => b.data.toList))[k]'(by rw [List.length_map]; exact hkl) = p.data.toList := by rw [List.getElem_map, hp]
                      rw [← this]
                      congr 1
                      exact HPd.out.symm
                    have hst := any_at partB (partsL s.data.toList) k hkl2
                    rw [hpk, part_tests p] at hst
                    have hps : p.size ≤ 100 := by
                      have := partsL_le s.data.toList p.data.toList (by rw [← hpk]; exact List.getElem_mem hkl2)
                      rw [← Lib.size_eq, ← Lib.size_eq] at this
                      omega
                    have hsuf : ∀ w', Calls Tryd.prog 32 #[.string p, .string ⟨#[46, 108, 111, 99, 107]⟩] w' fun e w'' => e = .returned (.bool (Lib.hasSuffix p.data.toList [46, 108, 111, 99, 107])) ∧ w' = w'' := fun w' => ends_any p ⟨#[46, 108, 111, 99, 107]⟩ w' (by omega)
                    clear hp hpk
                    by_cases t1 : p.size = 0
                    · have q1 : p.toList = [] := by
                        rw [Lib.toList_data]
                        exact List.eq_nil_of_length_eq_zero (by rw [← Lib.size_eq]; exact t1)
                      have q1' : p.toList.isEmpty = true := by rw [q1]; rfl
                      have HF := Lib.hid (vn_part (l := s.data.toList) (by rw [← HA.out, hst, q1]; rfl))
                      clear hst hsuf
                      go_wp2
                      go_ret
                      unfold VPost
                      rw [HF.out]
                      exact ⟨rfl, hB4⟩
                    · have h0 : 0 < p.size := by omega
                      have h0i : (0 : Int) < (p.size : Int) := by omega
                      have q1 : p.toList.isEmpty = false := by
                        rw [Lib.toList_data, List.isEmpty_eq_false_iff]
                        intro h
                        rw [Lib.size_eq, h] at h0
                        exact absurd h0 (by decide)
                      have q1' : (!p.toList.isEmpty) = true := by rw [q1]; rfl
                      have hg : p.get! 0 = p[0] := by have := get_at p 0 h0; rwa [Nat.add_zero] at this
                      rw [q1, decide_eq_true h0, hg, Bool.false_or, Bool.true_and] at hst
                      by_cases t2 : p[0] = 46
                      · have q2 : ((p[0].toNat : Int) == 46) = true := by rw [t2]; rfl
                        have HF := Lib.hid (vn_part (l := s.data.toList) (by rw [← HA.out, hst, t2]; rfl))
                        clear hst hsuf t2
                        go_wp2
                        go_ret
                        unfold VPost
                        rw [HF.out]
                        exact ⟨rfl, hB4⟩
                      · have q2 : ((p[0].toNat : Int) == 46) = false := by
                          rw [beq_eq_false_iff_ne]; intro h
                          exact t2 (UInt8.toNat_inj.1 (by show p[0].toNat = 46; omega))
                        have t2' : (p[0] == 46) = false := by simpa using t2
                        rw [t2', Bool.false_or] at hst
                        by_cases t3 : Lib.hasSuffix p.data.toList [46, 108, 111, 99, 107] = true
                        · have HF := Lib.hid (vn_part (l := s.data.toList) (by rw [← HA.out, hst, t3]; rfl))
                          rw [t3] at hsuf
                          clear hst t3
                          go_wp2_with (go_at_call 32; refine (hsuf _).mono ?_; rintro e w' ⟨rfl, rfl⟩)
                          go_ret
                          unfold VPost
                          rw [HF.out]
                          exact ⟨rfl, hB4⟩
                        · have t3' : Lib.hasSuffix p.data.toList [46, 108, 111, 99, 107] = false := by simpa using t3
                          have HN := Lib.hid (show ((partsL s.data.toList).drop (k + 1)).any partB = (partsL s.data.toList).any partB by rw [← HA.out, hst, t3']; rfl)
                          rw [t3'] at hsuf
                          clear hst t3 t3'
                          go_wp2_with (go_at_call 32; refine (hsuf _).mono ?_; rintro e w' ⟨rfl, rfl⟩)
                          go_round
                          case rel => exact ⟨k + 1, by omega, by go_num, HN.out⟩
                          case measure => simp [intOf]; omega
                  · have d1 : decide (k < NN) = false := decide_eq_false hlt
                    have HF := Lib.hid (vn_good (l := s.data.toList) H1.out (by rw [← Lib.size_eq]; exact h2) H3.out H4.out (by
                      rw [← HA.out, List.drop_eq_nil_of_le (by have h1 := HPl.out; rw [← HPd.out, List.length_map]; omega)]
                      rfl) H7.out H6.out)
                    go_wp2
                    go_ret
                    unfold VPost
                    rw [HF.out]
                    exact ⟨rfl, hB4⟩
        · have h1' : Lib.validD s.data.toList = false := by simpa using h1
          rw [h1'] at hu
          have HF := Lib.hid (vn_valid h1')
          clear h1 h1' h3
          go_enter Tryd.func12, Tryd.ntmps12
          go_wp2_with (go_at_call 31; refine hu.mono ?_; rintro e w1 ⟨rfl, hb1⟩)
          go_ret
          unfold VPost
          rw [HF.out]
          exact ⟨rfl, hb1⟩
      · have h3' : Lib.hasPrefix s.data.toList [114, 101, 102, 115, 47] = false := by simpa using h3
        rw [h3'] at hpr
        have hpr2 : (!(s.extract 0 5).toList == [114, 101, 102, 115, 47]) = true := by rw [hpr]; rfl
        have HF := Lib.hid (vn_pre h3')
        clear h3 h3'
        go_enter Tryd.func12, Tryd.ntmps12
        go_wp2
        go_ret
        unfold VPost
        rw [HF.out]
        exact ⟨rfl, Below.refl _ _⟩
  · have q2 : decide ((100 : Int) < (s.size : Int)) = true := decide_eq_true (by omega)
    have q2' : decide (100 < s.size) = true := decide_eq_true (by omega)
    have HF := Lib.hid (vn_long (l := s.data.toList) (by rw [← Lib.size_eq]; exact h2))
    go_enter Tryd.func12, Tryd.ntmps12
    go_wp2
    go_ret
    unfold VPost
    rw [HF.out]
    exact ⟨rfl, Below.refl _ _⟩
end Go.Proofs.YtbaokenjkbabnaaDoor
