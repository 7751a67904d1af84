/- NameParts, walked. -/
import Derived.Test.YtbaokenjkbabnaaDoorNmN
import Derived.Test.YtbaokenjkbabnaaDoorNmM
import Derived.Laws.BytesArg
import Derived.Laws.IdiomStrings
namespace Go.Proofs.YtbaokenjkbabnaaDoor
open Go.RowKit
set_option linter.unusedVariables false

theorem and7 (n : Int) : bits .and .i64 n 7 = n % 8 := by
  have h3 : (BitVec.ofInt 64 7).toNat = 2 ^ 3 - 1 := by decide
  have key : (BitVec.ofInt 64 n &&& BitVec.ofInt 64 7).toNat = (n % ((2 ^ 64 : Nat) : Int)).toNat % 2 ^ 3 := by
    rw [BitVec.toNat_and, BitVec.toNat_ofInt, h3, Nat.and_two_pow_sub_one_eq_mod]
  show IntKind.i64.wrap ((BitVec.ofInt 64 n &&& BitVec.ofInt 64 7).toNat : Nat) = n % 8
  rw [key, IntKind.wrap_i64]
  omega
theorem and15 (n : Int) : bits .and .i64 n 15 = n % 16 := by
  have h3 : (BitVec.ofInt 64 15).toNat = 2 ^ 4 - 1 := by decide
  have key : (BitVec.ofInt 64 n &&& BitVec.ofInt 64 15).toNat = (n % ((2 ^ 64 : Nat) : Int)).toNat % 2 ^ 4 := by
    rw [BitVec.toNat_and, BitVec.toNat_ofInt, h3, Nat.and_two_pow_sub_one_eq_mod]
  show IntKind.i64.wrap ((BitVec.ofInt 64 n &&& BitVec.ofInt 64 15).toNat : Nat) = n % 16
  rw [key, IntKind.wrap_i64]
  omega
theorem one_str (w : World) (t : TypeId) (i c : Nat) (hi : i < 100) : (convert 35 9 (.slice (some ⟨w.heap.size, 0, none⟩) 1 c)).run Tryd.prog (w.alloc (.cells #[.int .u8 (97 + (i : Int))] t)) = .ok (.string (mk [97 + UInt8.ofNat i])) (w.alloc (.cells #[.int .u8 (97 + (i : Int))] t)) := by
  have := run_convert_bytes_arg (P := Tryd.prog) (w.alloc (.cells #[.int .u8 (97 + (i : Int))] t)) 35 5 Tryd.underlying35 Tryd.underlying5 w.heap.size 0 1 c [97 + (i : Int)] rfl (fun j hj => by
    have : j = 0 := by omega
    subst this
    rw [cell_of_row _ _ _ _ _ _ (heap_alloc_new w _)]
    simp) 9 Tryd.underlying9
  rw [this]
  have : (97 + (i : Int)).toNat = 97 + i := by omega
  unfold strOfNums mk
  simp only [List.map_cons, List.map_nil, this, UInt8.ofNat_add]
  rfl
theorem cell16 (w : World) (t : TypeId) (m : Nat) (hm : m < 16) : (w.alloc (.cells #[.string ⟨#[126]⟩, .string ⟨#[94]⟩, .string ⟨#[58]⟩, .string ⟨#[63]⟩, .string ⟨#[42]⟩, .string ⟨#[91]⟩, .string ⟨#[92]⟩, .string ⟨#[32]⟩, .string ⟨#[127]⟩, .string ⟨#[1]⟩, .string ⟨#[46, 46]⟩, .string ⟨#[64, 123]⟩, .string ⟨#[47, 47]⟩, .string ⟨#[47, 46]⟩, .string ⟨#[46, 108, 111, 99, 107, 47]⟩, .string ⟨#[255]⟩] t)).cell? ⟨w.heap.size, m, none⟩ = some (.string (mk (signsL.getD m []))) := by
  rw [cell_of_row _ _ m _ _ (0, 0) (heap_alloc_new w _)]
  have : m = 0 ∨ m = 1 ∨ m = 2 ∨ m = 3 ∨ m = 4 ∨ m = 5 ∨ m = 6 ∨ m = 7 ∨ m = 8 ∨ m = 9 ∨ m = 10 ∨ m = 11 ∨ m = 12 ∨ m = 13 ∨ m = 14 ∨ m = 15 := by omega
  rcases this with rfl | rfl | rfl | rfl | rfl | rfl | rfl | rfl | rfl | rfl | rfl | rfl | rfl | rfl | rfl | rfl <;> rfl
theorem three_mk (S G : List UInt8) (j : Nat) : (mk S).extract 0 j ++ mk G ++ (mk S).extract j (mk S).size = mk (S.take j ++ (G ++ S.drop j)) := by
  apply ByteArray.ext
  apply Array.toList_inj.1
  have h1 : ((mk S).extract 0 j).data.toList = S.take j := by
    have := Lib.extract_toList (mk S) 0 j
    rw [Lib.toList_data] at this
    rw [this, mk_data]
    simp
  have h2 : ((mk S).extract j (mk S).size).data.toList = S.drop j := by
    have := Lib.extract_toList (mk S) j (mk S).size
    rw [Lib.toList_data] at this
    rw [this, mk_data, mk_size]
    rw [List.take_of_length_le (by simp)]
  simp only [ByteArray.data_append, Array.toList_append, h1, h2, mk_data, List.append_assoc]
theorem get_mk (S : List UInt8) (j : Nat) (h : j < (mk S).size) : (S.getD j 0).toNat = (mk S)[j].toNat := by
  have hl : j < S.length := by rw [← mk_size]; exact h
  rw [List.getD_eq_getElem?_getD, List.getElem?_eq_getElem hl]
  rfl
theorem says_valid {w : World} (hE : ∀ w', Below w.heap.size w w' → Env w') (s : ByteArray) (b : Bool) (h : validN s.data.toList = b) (hs : s.size ≤ 200) : ∀ w', Below w.heap.size w w' → Calls Tryd.prog 11 #[.string s] w' fun e w'' => e = .returned (.bool b) ∧ Below w'.heap.size w' w'' := fun w' hb => by
  subst h
  exact (valid_any s w' (hE _ hb) (by omega)).mono fun _ _ h => h
theorem place (a : Int) (D : Nat) (h : 4 ≤ D) (h2 : D ≤ 39) : ∃ j : Nat, 5 ≤ j ∧ j < D + 5 ∧ wrap64 (5 + (wrap64 (wrap64 (a.tmod D + ((D + 5 : Nat) : Int)) - 5)).tmod D) = (j : Int) := by
  have hb : -(D : Int) < a.tmod D ∧ a.tmod D < D := by
    rcases Int.le_total 0 a with ha | ha
    · rw [Int.tmod_eq_emod_of_nonneg ha]
      have := Int.emod_nonneg a (show (D : Int) ≠ 0 by omega)
      have := Int.emod_lt_of_pos a (show (0 : Int) < D by omega)
      omega
    · have h3 : a.tmod D = -((-a) % D) := by
        rw [← Int.tmod_eq_emod_of_nonneg (show 0 ≤ -a by omega), Int.neg_tmod, Int.neg_neg]
      have := Int.emod_nonneg (-a) (show (D : Int) ≠ 0 by omega)
      have := Int.emod_lt_of_pos (-a) (show (0 : Int) < D by omega)
      omega
  generalize a.tmod D = x at *
  have w1 : ∀ y : Int, -100 ≤ y → y ≤ 200 → wrap64 y = y := fun y h1 h2 => IntWalk.wrap64_in y (by omega)
  rw [w1 (x + ((D + 5 : Nat) : Int)) (by omega) (by omega), w1 (x + ((D + 5 : Nat) : Int) - 5) (by omega) (by omega), Int.tmod_eq_emod_of_nonneg (by omega)]
  have h3 := Int.emod_nonneg (x + ((D + 5 : Nat) : Int) - 5) (show (D : Int) ≠ 0 by omega)
  have h4 := Int.emod_lt_of_pos (x + ((D + 5 : Nat) : Int) - 5) (show (0 : Int) < D by omega)
  generalize (x + ((D + 5 : Nat) : Int) - 5) % D = y at *
  refine ⟨(5 + y).toNat, by omega, by omega, ?_⟩
  rw [w1 _ (by omega) (by omega)]
  omega
theorem part_next (i : Nat) : mk (partsS i) ++ (⟨#[47, 112]⟩ : ByteArray) ++ mk [97 + UInt8.ofNat i] ++ (⟨#[195, 169]⟩ : ByteArray) = mk (partsS (i + 1)) := by
  rw [show (⟨#[47, 112]⟩ : ByteArray) = mk [47, 112] from rfl, show (⟨#[195, 169]⟩ : ByteArray) = mk [195, 169] from rfl, mk_app, mk_app, mk_app, partsS]
  simp
set_option maxRecDepth 100000 in
set_option maxHeartbeats 4000000 in
theorem nameParts_walk (n0 at0 bad0 : Int) (w : World) (hE : Env w) (fx : (Lit.int .i64 n0).wf = true) (fy : (Lit.int .i64 at0).wf = true) (fz : (Lit.int .i64 bad0).wf = true) :
    Calls Tryd.prog 5 #[.int .i64 n0, .int .i64 at0, .int .i64 bad0] w fun e w' => e = .returned (.bool true) ∧ Below w.heap.size w w' := by
  have HA : Hid (∀ w', Below w.heap.size w w' → Calls Tryd.prog 9 #[] w' fun e w'' => e = .returned (.bool true) ∧ Below w'.heap.size w' w'') := fun w' hb => awake14_any w' (hE.below hb)
  have HE1 : Hid (∀ w', Below w.heap.size w w' → Env w') := fun w' hb => hE.below hb
  obtain ⟨n, hn1, hn8, en, en'⟩ : ∃ n : Nat, 1 ≤ n ∧ n ≤ 8 ∧ bits BinOp.and IntKind.i64 n0 7 = ((n : Int) - 1) ∧ IntKind.i64.wrap ((n : Int) - 1 + 1) = (n : Int) := ⟨(n0 % 8).toNat + 1, by omega, by omega, by rw [and7]; omega, by rw [IntWalk.i64_in _ (by omega)]; omega⟩
  obtain ⟨m, hm16, em⟩ : ∃ m : Nat, m < 16 ∧ bits BinOp.and IntKind.i64 bad0 15 = (m : Int) := ⟨(bad0 % 16).toNat, by omega, by rw [and15]; omega⟩
  have hy : -9223372036854775808 ≤ at0 ∧ at0 ≤ 9223372036854775807 := by
    have := fy
    simp [Lit.wf, IntKind.min, IntKind.max, IntKind.bits, IntKind.signed] at this
    omega
  go_enter Tryd.func5, Tryd.ntmps5
  go_wp2
  go_loopw [7, 8] (fun s i wr => ∃ k : Nat, s = .string (mk (partsS k)) ∧ i = .int .i64 (k : Int) ∧ k ≤ n ∧ Below w.heap.size w wr) (fun _ i _ => n - (intOf i).toNat)
  case atStart => exact ⟨0, rfl, rfl, Nat.zero_le _, Below.refl _ _⟩
  case round =>
    obtain ⟨k, rfl, rfl, hk, hb⟩ := hrel
    by_cases hlt : k < n
    · have q1 : decide ((k : Int) < (n : Int)) = true := decide_eq_true (by omega)
      have q2 : decide (k < n) = true := decide_eq_true hlt
      have u1 : IntKind.u8.wrap (k : Int) = (k : Int) := by rw [IntWalk.u8_in _ (by omega)]
      have u2 : IntKind.u8.wrap (97 + (k : Int)) = 97 + (k : Int) := by rw [IntWalk.u8_in _ (by omega)]
      have kc := fun (w : World) t c => one_str w t k c (by omega)
      have hsz : (mk (partsS k)).size ≤ 100 := by rw [mk_size, partsS_len]; omega
      have hsz1 : (mk [97 + UInt8.ofNat k]).size = 1 := by rw [mk_size]; rfl
      have hkw : IntKind.i64.wrap ((k : Int) + 1) = ((k + 1 : Nat) : Int) := by rw [IntWalk.i64_in _ (by omega)]; rfl
      go_wp2_with fail
      go_roundw
      case rel => exact ⟨k + 1, by rw [← part_next], by go_num, by omega, hb.alloc hb.size _⟩
      case measure => simp [intOf]; omega
    · have hkn : k = n := by omega
      subst hkn
      have q1 : decide ((k : Int) < (k : Int)) = false := decide_eq_false (by omega)
      have q2 : decide (k < k) = false := decide_eq_false (by omega)
      have hsz := partsS_len k
      have hck := checked hn1 hn8
      have hsl : (mk (partsS k)).size = (partsS k).length := mk_size _
      have h1 : validN (partsS k) = true := by have := hck.1; unfold checkS at this; simp only [Bool.and_eq_true, Bool.not_eq_true'] at this; exact this.1
      have h2 : validN (partsS k ++ [47]) = false := by have := hck.1; unfold checkS at this; simp only [Bool.and_eq_true, Bool.not_eq_true'] at this; exact this.2.1
      have h3 : validN (partsS k ++ [46, 108, 111, 99, 107]) = false := by have := hck.1; unfold checkS at this; simp only [Bool.and_eq_true, Bool.not_eq_true'] at this; exact this.2.2.1
      have h4 : validN (partsS k ++ [46]) = false := by have := hck.1; unfold checkS at this; simp only [Bool.and_eq_true, Bool.not_eq_true'] at this; exact this.2.2.2
      have hck := Lib.hid hck.2
      have HS := Lib.hid hsl
      have HL : Hid (9 ≤ (partsS k).length ∧ (partsS k).length ≤ 44) := Lib.hid (by rw [hsz]; omega)
      clear hsz hsl
      generalize partsS k = S at *
      clear en en' hn1 hn8 hk hlt
      go_upto_region 8 with (fail)
      have hc := cell16 wr 9 m hm16
      have hB := hb.alloc hb.size (.cells #[.string ⟨#[126]⟩, .string ⟨#[94]⟩, .string ⟨#[58]⟩, .string ⟨#[63]⟩, .string ⟨#[42]⟩, .string ⟨#[91]⟩, .string ⟨#[92]⟩, .string ⟨#[32]⟩, .string ⟨#[127]⟩, .string ⟨#[1]⟩, .string ⟨#[46, 46]⟩, .string ⟨#[64, 123]⟩, .string ⟨#[47, 47]⟩, .string ⟨#[47, 46]⟩, .string ⟨#[46, 108, 111, 99, 107, 47]⟩, .string ⟨#[255]⟩] 9)
      generalize wr.alloc (.cells #[.string ⟨#[126]⟩, .string ⟨#[94]⟩, .string ⟨#[58]⟩, .string ⟨#[63]⟩, .string ⟨#[42]⟩, .string ⟨#[91]⟩, .string ⟨#[92]⟩, .string ⟨#[32]⟩, .string ⟨#[127]⟩, .string ⟨#[1]⟩, .string ⟨#[46, 46]⟩, .string ⟨#[64, 123]⟩, .string ⟨#[47, 47]⟩, .string ⟨#[47, 46]⟩, .string ⟨#[46, 108, 111, 99, 107, 47]⟩, .string ⟨#[255]⟩] 9) = w0 at *
      have hG : (mk (signsL.getD m [])).size ≤ 6 := by rw [mk_size]; exact signs_len m
      generalize hGe : signsL.getD m [] = G at hc hG
      generalize wr.heap.size = gb at *
      obtain ⟨D, hD4, hD39, hDS⟩ : ∃ D : Nat, 4 ≤ D ∧ D ≤ 39 ∧ Hid ((mk S).size = D + 5) := ⟨S.length - 5, by have := HL.out; omega, by have := HL.out; omega, by have := HL.out; have := HS.out; exact Lib.hid (by omega)⟩
      have e1 : IntKind.i64.wrap (((mk S).size : Int) - 5) = (D : Int) := by have := hDS.out; rw [IntWalk.i64_in _ (by omega)]; omega
      have z0 : ¬ (D : Int) = 0 := by omega
      have z1 : ¬ D = 0 := by omega
      obtain ⟨j0, hj5, hjl, e2⟩ := place at0 D hD4 hD39
      rw [← hDS.out] at e2
      have E2 := Lib.hid e2
      clear e2
      go_upto_region 9 with (fail)
      rw [E2.out]
      go_loopw [10] (fun v wr => ∃ j : Nat, v = .int .i64 (j : Int) ∧ 5 ≤ j ∧ j ≤ D + 5 ∧ wr = w0) (fun v _ => D + 5 - (intOf v).toNat)
      case atStart => exact ⟨j0, rfl, hj5, by omega, rfl⟩
      case round =>
        obtain ⟨j, rfl, h5, hj, rfl⟩ := hrel
        have hck1 := hck.out j
        by_cases hlt : j < (mk S).size
        · have c1 : decide ((j : Int) < ((mk S).size : Int)) = true := decide_eq_true (by omega)
          have c1' : decide (j < (mk S).size) = true := decide_eq_true hlt
          have hget : (S.getD j 0).toNat = (mk S)[j].toNat := get_mk S j hlt
          have i1 : (0 : Int) ≤ (j : Int) := by omega
          have i2 : (j : Int) < ((mk S).size : Int) := by omega
          by_cases h128 : 128 ≤ (mk S)[j].toNat
          · have c2 : decide ((128 : Int) ≤ ((mk S)[j].toNat : Int)) = true := decide_eq_true (by omega)
            have c2' : decide (128 ≤ (mk S)[j].toNat) = true := decide_eq_true h128
            have jw : IntKind.i64.wrap ((j : Int) + 1) = ((j + 1 : Nat) : Int) := by rw [IntWalk.i64_in _ (by omega)]; rfl
            go_wp2_with fail
            go_roundw
            case rel => exact ⟨j + 1, by go_num, by omega, by have := hDS.out; omega, trivial⟩
            case measure => simp [intOf]; have := hDS.out; omega
          · have c2 : decide ((128 : Int) ≤ ((mk S)[j].toNat : Int)) = false := decide_eq_false (by omega)
            have c2' : decide (128 ≤ (mk S)[j].toNat) = false := decide_eq_false h128
            have hbad := sign_bad (hck1 (by have := HS.out; omega)) h5 (fun _ => by omega) m hm16
            rw [hGe] at hbad
            go_upto_region 11 with (fail)
            clear c1 c1' c2 c2' hck1
            have b1 : (0 : Int) ≤ (j : Int) := by omega
            have b2 : (j : Int) ≤ ((mk S).size : Int) := by have := hDS.out; omega
            have b3 : (0 : Int) ≤ (m : Int) := by omega
            have b4 : (m : Int) < 16 := by omega
            have s1 : (mk S).size ≤ 50 := by have := hDS.out; omega
            have s2 : (mk G).size ≤ 6 := hG
            have s3 : ((mk S).extract 0 j).size ≤ 50 := by rw [ByteArray.size_extract]; omega
            have s4 : ((mk S).extract j (mk S).size).size ≤ 50 := by rw [ByteArray.size_extract]; omega
            have ht : (mk S).extract 0 j ++ mk G ++ (mk S).extract j (mk S).size = mk (S.take j ++ (G ++ S.drop j)) := three_mk S G j
            go_quiet (fail)
            have hB := Below.drewN hB nq
            generalize wr.drewN nq = w1 at *
            have z5 : (mk (S.take j ++ (G ++ S.drop j))).size ≤ 100 := by
              have h1 := HL.out
              rw [mk_size] at s2
              rw [mk_size]
              simp only [List.length_append, List.length_take, List.length_drop]
              omega
            clear ht
            generalize S.take j ++ (G ++ S.drop j) = T at *
            have d1 : decide ((100 : Int) < ((mk T).size : Int)) = false := decide_eq_false (by omega)
            have d1' : decide (100 < (mk T).size) = false := decide_eq_false (by omega)
            have HV1 := Lib.hid (says_valid HE1.out (mk S) true (by rw [mk_data]; exact h1) (by omega))
            have HV2 := Lib.hid (says_valid HE1.out (mk T) false (by rw [mk_data]; exact hbad) (by omega))
            have HV3 := Lib.hid (says_valid HE1.out (mk S ++ ⟨#[47]⟩) false (by rw [show (⟨#[47]⟩ : ByteArray) = mk [47] from rfl, mk_app, mk_data]; exact h2) (by rw [ByteArray.size_append]; have : (⟨#[47]⟩ : ByteArray).size = 1 := rfl; omega))
            have HV4 := Lib.hid (says_valid HE1.out (mk S ++ ⟨#[46, 108, 111, 99, 107]⟩) false (by rw [show (⟨#[46, 108, 111, 99, 107]⟩ : ByteArray) = mk [46, 108, 111, 99, 107] from rfl, mk_app, mk_data]; exact h3) (by rw [ByteArray.size_append]; have : (⟨#[46, 108, 111, 99, 107]⟩ : ByteArray).size = 5 := rfl; omega))
            have HV5 := Lib.hid (says_valid HE1.out (mk S ++ ⟨#[46]⟩) false (by rw [show (⟨#[46]⟩ : ByteArray) = mk [46] from rfl, mk_app, mk_data]; exact h4) (by rw [ByteArray.size_append]; have : (⟨#[46]⟩ : ByteArray).size = 1 := rfl; omega))
            go_wp2_with fail
            refine (HV1.out _ hB).mono ?_
            rintro e w2 ⟨rfl, hb2⟩
            have hB := hB.trans (hb2.mono hB.size)
            go_wp2_with fail
            refine (HV2.out _ hB).mono ?_
            rintro e w3 ⟨rfl, hb3⟩
            have hB := hB.trans (hb3.mono hB.size)
            go_wp2_with fail
            refine (HV3.out _ hB).mono ?_
            rintro e w4 ⟨rfl, hb4⟩
            have hB := hB.trans (hb4.mono hB.size)
            go_wp2_with fail
            refine (HV4.out _ hB).mono ?_
            rintro e w5 ⟨rfl, hb5⟩
            have hB := hB.trans (hb5.mono hB.size)
            go_wp2_with fail
            refine (HV5.out _ hB).mono ?_
            rintro e w6 ⟨rfl, hb6⟩
            have hB := hB.trans (hb6.mono hB.size)
            go_wp2_with fail
            refine (HA.out _ hB).mono ?_
            rintro e w7 ⟨rfl, hb7⟩
            have hB := hB.trans (hb7.mono hB.size)
            go_wp2
            go_ret
            exact ⟨rfl, hB⟩
        · have c1 : decide ((j : Int) < ((mk S).size : Int)) = false := decide_eq_false (by omega)
          have c1' : decide (j < (mk S).size) = false := decide_eq_false hlt
          have hbad := sign_bad (hck1 (by have := HS.out; have := hDS.out; omega)) h5 (fun h => by have := HS.out; omega) m hm16
          rw [hGe] at hbad
          go_upto_region 11 with (fail)
          clear c1 c1' hlt hck1
          have b1 : (0 : Int) ≤ (j : Int) := by omega
          have b2 : (j : Int) ≤ ((mk S).size : Int) := by have := hDS.out; omega
          have b3 : (0 : Int) ≤ (m : Int) := by omega
          have b4 : (m : Int) < 16 := by omega
          have s1 : (mk S).size ≤ 50 := by have := hDS.out; omega
          have s2 : (mk G).size ≤ 6 := hG
          have s3 : ((mk S).extract 0 j).size ≤ 50 := by rw [ByteArray.size_extract]; omega
          have s4 : ((mk S).extract j (mk S).size).size ≤ 50 := by rw [ByteArray.size_extract]; omega
          have ht : (mk S).extract 0 j ++ mk G ++ (mk S).extract j (mk S).size = mk (S.take j ++ (G ++ S.drop j)) := three_mk S G j
          go_quiet (fail)
          have hB := Below.drewN hB nq
          generalize wr.drewN nq = w1 at *
          have z5 : (mk (S.take j ++ (G ++ S.drop j))).size ≤ 100 := by
            have h1 := HL.out
            rw [mk_size] at s2
            rw [mk_size]
            simp only [List.length_append, List.length_take, List.length_drop]
            omega
          clear ht
          generalize S.take j ++ (G ++ S.drop j) = T at *
          have d1 : decide ((100 : Int) < ((mk T).size : Int)) = false := decide_eq_false (by omega)
          have d1' : decide (100 < (mk T).size) = false := decide_eq_false (by omega)
          have HV1 := Lib.hid (says_valid HE1.out (mk S) true (by rw [mk_data]; exact h1) (by omega))
          have HV2 := Lib.hid (says_valid HE1.out (mk T) false (by rw [mk_data]; exact hbad) (by omega))
          have HV3 := Lib.hid (says_valid HE1.out (mk S ++ ⟨#[47]⟩) false (by rw [show (⟨#[47]⟩ : ByteArray) = mk [47] from rfl, mk_app, mk_data]; exact h2) (by rw [ByteArray.size_append]; have : (⟨#[47]⟩ : ByteArray).size = 1 := rfl; omega))
          have HV4 := Lib.hid (says_valid HE1.out (mk S ++ ⟨#[46, 108, 111, 99, 107]⟩) false (by rw [show (⟨#[46, 108, 111, 99, 107]⟩ : ByteArray) = mk [46, 108, 111, 99, 107] from rfl, mk_app, mk_data]; exact h3) (by rw [ByteArray.size_append]; have : (⟨#[46, 108, 111, 99, 107]⟩ : ByteArray).size = 5 := rfl; omega))
          have HV5 := Lib.hid (says_valid HE1.out (mk S ++ ⟨#[46]⟩) false (by rw [show (⟨#[46]⟩ : ByteArray) = mk [46] from rfl, mk_app, mk_data]; exact h4) (by rw [ByteArray.size_append]; have : (⟨#[46]⟩ : ByteArray).size = 1 := rfl; omega))
          go_wp2_with fail
          refine (HV1.out _ hB).mono ?_
          rintro e w2 ⟨rfl, hb2⟩
          have hB := hB.trans (hb2.mono hB.size)
          go_wp2_with fail
          refine (HV2.out _ hB).mono ?_
          rintro e w3 ⟨rfl, hb3⟩
          have hB := hB.trans (hb3.mono hB.size)
          go_wp2_with fail
          refine (HV3.out _ hB).mono ?_
          rintro e w4 ⟨rfl, hb4⟩
          have hB := hB.trans (hb4.mono hB.size)
          go_wp2_with fail
          refine (HV4.out _ hB).mono ?_
          rintro e w5 ⟨rfl, hb5⟩
          have hB := hB.trans (hb5.mono hB.size)
          go_wp2_with fail
          refine (HV5.out _ hB).mono ?_
          rintro e w6 ⟨rfl, hb6⟩
          have hB := hB.trans (hb6.mono hB.size)
          go_wp2_with fail
          refine (HA.out _ hB).mono ?_
          rintro e w7 ⟨rfl, hb7⟩
          have hB := hB.trans (hb7.mono hB.size)
          go_wp2
          go_ret
          exact ⟨rfl, hB⟩
end Go.Proofs.YtbaokenjkbabnaaDoor
