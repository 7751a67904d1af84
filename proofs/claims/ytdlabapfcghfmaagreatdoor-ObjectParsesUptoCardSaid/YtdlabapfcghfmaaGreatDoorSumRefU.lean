/- The document's Unhex. -/
import Derived.Test.YtdlabapfcghfmaaGreatDoorSumRefH
namespace Go.Proofs.YtdlabapfcghfmaaGreatDoor
open Go.RowKit
set_option linter.unusedVariables false

set_option maxRecDepth 100000 in
set_option maxHeartbeats 2000000 in
theorem unhexR_any (s : ByteArray) (w : World) (hsz : s.size ≤ 140737488355328) : Calls Tryz.prog 113 #[.string s] w (UnPost w (bytesOf s)) := by
  obtain ⟨i0, hi, hz0, hz1, hz2⟩ := info_parts Tryz.info_u8
  by_cases hodd : (s.size : Int) % 2 = 0
  case neg =>
    have hU := unOk_odd (bytesOf s) (by rw [bytesOf_len]; omega)
    have hd : ((s.size : Int) % 2 == 1) = true := by simp; omega
    go_enter Tryz.func113, Tryz.ntmps113
    go_wp2
    go_ret2
    exact UnPost.bad hU (Below.refl _ _)
  case pos =>
    have HE := Lib.hid hodd
    have hd : ((s.size : Int) % 2 == 1) = false := by simp; omega
    clear hodd
    go_enter Tryz.func113, Tryz.ntmps113
    go_wp2
    clear hd
    have hoE : OwnS (w.alloc (.cells #[] 5)) w.heap.size 5 1 (.slice (some ⟨w.heap.size, 0, none⟩) 0 0) 0 [] := OwnS.empty (Nat.le_refl _) (heap_alloc_new w _) (by decide) (by simp)
    have hBE := (Below.refl w.heap.size w).alloc (Nat.le_refl _) (.cells #[] 5)
    generalize w.alloc (.cells #[] 5) = w9 at *
    go_loopw [4, 5] (fun out i wr => ∃ (k m : Nat) (A : Option Addr) (c : Nat), m ≤ s.size ∧ Hid (m = 2 * k) ∧ i = .int .i64 m ∧ out = .slice A (unTo (bytesOf s) k).length c ∧ OwnS wr w.heap.size 5 1 (.slice A (unTo (bytesOf s) k).length c) (unTo (bytesOf s) k).length ((unTo (bytesOf s) k).map (Value.int .u8)) ∧ PairsTo (bytesOf s) k ∧ Below w.heap.size w wr) (fun _ i _ => s.size - (intOf i).toNat)
    case atStart => exact ⟨0, 0, _, _, by omega, rfl, rfl, rfl, hoE, fun j hj => absurd hj (Nat.not_lt_zero _), hBE⟩
    case round =>
      clear hoE hBE
      obtain ⟨k, m, A9, c9, hm9, hmk, rfl, rfl, ho, hP, hB⟩ := hrel
      by_cases hlt : m < s.size
      · have hlt2 : m + 1 < s.size := by have := hmk.out; have := HE.out; omega
        have e1 : (bytesOf s).getD (2 * k) 0 = ((s[m]'hlt).toNat : Int) := by rw [← hmk.out]; exact bytesOf_at s m hlt
        have e2 : (bytesOf s).getD (2 * k + 1) 0 = ((s[m + 1]'hlt2).toNat : Int) := by rw [← hmk.out]; exact bytesOf_at s (m + 1) hlt2
        have hl1 : 2 * k + 1 < (bytesOf s).length := by rw [bytesOf_len, ← hmk.out]; exact hlt2
        have ha := dig_ok ((bytesOf s).getD (2 * k) 0)
        have hb := dig_ok ((bytesOf s).getD (2 * k + 1) 0)
        have hB1 := (s[m]'hlt).toNat_lt
        have hB2 := (s[m + 1]'hlt2).toNat_lt
        have HN : Hid (unTo (bytesOf s) (k + 1) = unTo (bytesOf s) k ++ [(dig ((s[m]'hlt).toNat : Int)).getD 0 * 16 + (dig ((s[m + 1]'hlt2).toNat : Int)).getD 0]) := by
          show _ = _
          rw [unTo_succ, pairV, e1, e2]
        have hPO : pairOk (bytesOf s) k = ((dig ((s[m]'hlt).toNat : Int)).isSome && (dig ((s[m + 1]'hlt2).toNat : Int)).isSome) := by unfold pairOk; rw [e1, e2]
        have hlen : (unTo (bytesOf s) k).length ≤ 140737488355000 := by rw [unTo_len]; have := hmk.out; omega
        rw [e1] at ha
        rw [e2] at hb
        have hj := u8_join _ _ ha hb
        clear e1 e2
        by_cases hg : ((dig ((s[m]'hlt).toNat : Int)).isSome && (dig ((s[m + 1]'hlt2).toNat : Int)).isSome) = true
        · rw [hg] at hPO
          have HP := Lib.hid hPO
          clear hPO
          obtain ⟨hg1, hg2⟩ := Bool.and_eq_true_iff.1 hg
          clear hg
          obtain ⟨d1, d2, d3⟩ := digR_some hg1
          obtain ⟨d4, d5, d6⟩ := digR_some hg2
          have HN : Hid (unTo (bytesOf s) (k + 1) = unTo (bytesOf s) k ++ [16 * digR ((s[m]'hlt).toNat : Int) + digR ((s[m + 1]'hlt2).toNat : Int)]) := by
            show _ = _
            rw [HN.out, d1, d4, Int.mul_comm]
          clear d1 d4 hg1 hg2 hj ha hb
          go_wp2_with (first
            | (have hm := hdg; go_at_call 126; refine (digitR_any _ _).mono ?_; rintro e w' ⟨rfl, rfl⟩)
            | (go_at_call 126; refine (digitR_any _ _).mono ?_; rintro e w' ⟨rfl, rfl⟩; have hdg := trivial)
            | (at_builtin; refine wpList_append_S rfl (.tmp 34) (.tmp 40) 24 24 rfl i0 (.int .u8 0) 1 (.slice 5) Tryz.underlying24 Tryz.underlying24 (fun _ h => by cases h) hi hz0 hz1 hz2 rfl rfl rfl (ho.alloc _) (Src.one_new (u := .int .u8 (16 * digR ((s[m]'hlt).toNat : Int) + digR ((s[m + 1]'hlt2).toNat : Int))) rfl) ?_ ?_ ?_ ?_; (unfold maxLen; omega); omega; (have := hB.size; simp; omega); intro A2 c2 w2 ho2 hg2 hw2))
          go_roundw
          case rel =>
            have hB' := hB.size
            have hPO := HP.out
            refine ⟨k + 1, m + 2, A2, c2, by omega, by have := hmk.out; show _ = _; omega, by go_num, ?_, ?_, hP.succ hPO, ?_⟩
            · rw [HN.out, List.length_append]; first | done | rfl
            · rw [HN.out, List.length_append, List.map_append]; exact ho2
            · exact (hB.alloc (by omega) _).grown hg2 (by simp; omega) (fun q h => (ho.lt q h).1)
          case measure => simp [intOf]; omega
        · have hU : unOk (bytesOf s) = false := unOk_bad (bytesOf s) k hl1 (by rw [hPO]; simpa using hg)
          clear hPO
          rw [Bool.not_eq_true, Bool.and_eq_false_iff] at hg
          have HU := Lib.hid hU
          clear hU
          by_cases hg1 : (dig ((s[m]'hlt).toNat : Int)).isSome = true
          · have hg2 : (dig ((s[m + 1]'hlt2).toNat : Int)).isSome = false := by
              rcases hg with h | h
              · rw [hg1] at h; cases h
              · exact h
            clear hg
            obtain ⟨d1, d2, d3⟩ := digR_some hg1
            have d4 := digR_none hg2
            clear d1 hg1 hg2 hj ha hb HN
            go_wp2_with (first
              | (have hm := hdg; go_at_call 126; refine (digitR_any _ _).mono ?_; rintro e w' ⟨rfl, rfl⟩)
              | (go_at_call 126; refine (digitR_any _ _).mono ?_; rintro e w' ⟨rfl, rfl⟩; have hdg := trivial))
            go_ret2
            exact UnPost.bad HU.out hB
          · have hg1 : (dig ((s[m]'hlt).toNat : Int)).isSome = false := by simpa using hg1
            clear hg
            have d4 := digR_none hg1
            clear hg1 hj ha hb HN
            go_wp2_with (first
              | (have hm := hdg; go_at_call 126; refine (digitR_any _ _).mono ?_; rintro e w' ⟨rfl, rfl⟩)
              | (go_at_call 126; refine (digitR_any _ _).mono ?_; rintro e w' ⟨rfl, rfl⟩; have hdg := trivial))
            go_ret2
            exact UnPost.bad HU.out hB
      · have hms : m = s.size := by omega
        have hU : unOk (bytesOf s) = true := unOk_good _ (by rw [bytesOf_len]; have := HE.out; omega) (fun j hj => hP j (by rw [bytesOf_len] at hj; have := hmk.out; omega))
        have HU := Lib.hid hU
        have hkl : k = (bytesOf s).length / 2 := by rw [bytesOf_len]; have := hmk.out; omega
        have HK := Lib.hid hkl
        clear hU hms hkl
        go_wp2
        go_ret2
        exact UnPost.good HU.out HK.out ho.ints hB
end Go.Proofs.YtdlabapfcghfmaaGreatDoor
