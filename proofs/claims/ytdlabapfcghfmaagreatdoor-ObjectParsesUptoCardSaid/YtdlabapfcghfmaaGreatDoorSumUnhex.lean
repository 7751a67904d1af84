/- Unhex of package sum. -/
import Derived.Test.YtdlabapfcghfmaaGreatDoorSumHex
namespace Go.Proofs.YtdlabapfcghfmaaGreatDoor
open Go.RowKit
set_option linter.unusedVariables false

def pairV (l : List Int) (j : Nat) : Int := (dig (l.getD (2 * j) 0)).getD 0 * 16 + (dig (l.getD (2 * j + 1) 0)).getD 0
def pairOk (l : List Int) (j : Nat) : Bool := (dig (l.getD (2 * j) 0)).isSome && (dig (l.getD (2 * j + 1) 0)).isSome
def unTo (l : List Int) (k : Nat) : List Int := (List.range k).map (pairV l)
def unOk (l : List Int) : Bool := l.length % 2 == 0 && (List.range (l.length / 2)).all (pairOk l)
def unV (l : List Int) : List Int := if unOk l then unTo l (l.length / 2) else []
theorem unTo_len (l : List Int) (k : Nat) : (unTo l k).length = k := by simp [unTo]
theorem unTo_succ (l : List Int) (k : Nat) : unTo l (k + 1) = unTo l k ++ [pairV l k] := by simp [unTo, List.range_succ]
theorem dig_ok (c : Int) : 0 ≤ (dig c).getD 0 ∧ (dig c).getD 0 < 16 := by
  unfold dig
  by_cases h1 : 48 ≤ c ∧ c ≤ 57
  · rw [if_pos h1]; simp; omega
  · rw [if_neg h1]
    by_cases h2 : 97 ≤ c ∧ c ≤ 102
    · rw [if_pos h2]; simp; omega
    · rw [if_neg h2]; simp
theorem pairV_ok (l : List Int) (j : Nat) : 0 ≤ pairV l j ∧ pairV l j < 256 := by
  have h1 := dig_ok (l.getD (2 * j) 0)
  have h2 := dig_ok (l.getD (2 * j + 1) 0)
  unfold pairV
  omega
theorem unTo_ok (l : List Int) (k : Nat) : Bytes (unTo l k) := fun x hx => by
  obtain ⟨j, _, rfl⟩ := List.mem_map.1 hx
  exact pairV_ok l j
theorem unV_ok (l : List Int) : Bytes (unV l) := by
  unfold unV
  split
  · exact unTo_ok l _
  · intro x hx; cases hx
theorem unOk_bad (l : List Int) (j : Nat) (hj : 2 * j + 1 < l.length) (h : pairOk l j = false) : unOk l = false := by
  unfold unOk
  rw [Bool.and_eq_false_iff]
  right
  rw [List.all_eq_false]
  exact ⟨j, List.mem_range.2 (by omega), by simp [h]⟩
theorem unOk_odd (l : List Int) (h : l.length % 2 = 1) : unOk l = false := by
  unfold unOk; rw [h]; rfl
theorem unOk_good (l : List Int) (h : l.length % 2 = 0) (hg : ∀ j, j < l.length / 2 → pairOk l j = true) : unOk l = true := by
  unfold unOk; rw [h]; simpa using hg
def UnPost (w : World) (l : List Int) (e : Ending) (w' : World) : Prop :=
  ∃ A c, e = .returned (.tuple #[.slice A (unV l).length c, .bool (unOk l)]) ∧ Ints .u8 w' A (unV l) ∧ Below w.heap.size w w'
theorem UnPost.bad {w w' : World} {l : List Int} (h : unOk l = false) (hb : Below w.heap.size w w') : UnPost w l (.returned (.tuple #[.slice none 0 0, .bool false])) w' := by
  have e : unV l = [] := by unfold unV; rw [h]; rfl
  refine ⟨none, 0, ?_, ?_, hb⟩
  · rw [e, h]; rfl
  · rw [e]; exact Ints.nil
theorem UnPost.good {w w' : World} {l : List Int} {A : Option Addr} {c k : Nat} (h : unOk l = true) (hk : k = l.length / 2) (ho : Ints .u8 w' A (unTo l k)) (hb : Below w.heap.size w w') : UnPost w l (.returned (.tuple #[.slice A (unTo l k).length c, .bool true])) w' := by
  subst hk
  have e : unV l = unTo l (l.length / 2) := by unfold unV; rw [h]; rfl
  exact ⟨A, c, by rw [e, h], by rw [e]; exact ho, hb⟩
def PairsTo (l : List Int) (k : Nat) : Prop := ∀ j, j < k → pairOk l j = true
theorem PairsTo.succ {l : List Int} {k : Nat} (h : PairsTo l k) (hk : pairOk l k = true) : PairsTo l (k + 1) := fun j hj => by
  rcases Nat.lt_or_ge j k with h' | h'
  · exact h j h'
  · obtain rfl : j = k := by omega
    exact hk
theorem u8_join (a b : Int) (ha : 0 ≤ a ∧ a < 16) (hb : 0 ≤ b ∧ b < 16) : bits .or .u8 (a * 16) b = a * 16 + b :=
  bits_join .u8 8 (by decide) wraps_u8 4 (a * 16) b (by omega) (by omega) (by omega) hb.1 (by omega) (by omega)

set_option maxRecDepth 100000 in
set_option maxHeartbeats 2000000 in
theorem unhex_any (s : ByteArray) (w : World) (hsz : s.size ≤ 140737488355328) : Calls Tryz.prog 66 #[.string s] w (UnPost w (bytesOf s)) := by
  obtain ⟨i0, hi, hz0, hz1, hz2⟩ := info_parts Tryz.info_u8
  by_cases hodd : (s.size : Int) % 2 = 0
  case neg =>
    have hU := unOk_odd (bytesOf s) (by rw [bytesOf_len]; omega)
    have hd : ((s.size : Int) % 2 != 0) = true := by simpa using hodd
    go_enter Tryz.func66, Tryz.ntmps66
    go_wp2
    go_ret2
    exact UnPost.bad hU (Below.refl _ _)
  case pos =>
    have hmk : ∀ w : World, (Instr.makeSlice 24 (.int .i64 0) (.int .i64 ((s.size : Int) / 2))).run Tryz.prog w = .ok (.slice (some ⟨w.heap.size, 0, none⟩) 0 (s.size / 2)) (w.alloc (.cells (madeCells #[.int .u8 0] (s.size / 2)) 5)) := by
      have := make_bytes (s.size / 2) (by omega)
      rwa [Int.natCast_ediv] at this
    have HE := Lib.hid hodd
    have hd : ((s.size : Int) % 2 != 0) = false := by simpa using hodd
    clear hodd
    go_enter Tryz.func66, Tryz.ntmps66
    go_wp2
    clear hd
    have hoE : OwnS (w.alloc (.cells (madeCells #[.int .u8 0] (s.size / 2)) 5)) w.heap.size 5 1 (.slice (some ⟨w.heap.size, 0, none⟩) 0 (s.size / 2)) 0 [] := OwnS.empty (Nat.le_refl _) (heap_alloc_new w _) (by unfold maxLen; omega) (by simp [madeCells])
    have hBE := (Below.refl w.heap.size w).alloc (Nat.le_refl _) (.cells (madeCells #[.int .u8 0] (s.size / 2)) 5)
    generalize w.alloc (.cells (madeCells #[.int .u8 0] (s.size / 2)) 5) = w9 at *
    clear hmk
    go_loopw [4, 5] (fun out i wr => ∃ (k m : Nat) (A : Option Addr) (c : Nat), m ≤ s.size ∧ Hid (m = 2 * k) ∧ i = .int .i64 m ∧ out = .slice A (unTo (bytesOf s) k).length c ∧ OwnS wr w.heap.size 5 1 (.slice A (unTo (bytesOf s) k).length c) (unTo (bytesOf s) k).length ((unTo (bytesOf s) k).map (Value.int .u8)) ∧ PairsTo (bytesOf s) k ∧ Below w.heap.size w wr) (fun _ i _ => s.size - (intOf i).toNat)
    case atStart => exact ⟨0, 0, _, _, by omega, rfl, rfl, rfl, hoE, fun j hj => absurd hj (Nat.not_lt_zero _), hBE⟩
    case round =>
      clear hoE hBE
      obtain ⟨k, m, A9, c9, hm9, hmk, rfl, rfl, ho, hP, hB⟩ := hrel
      by_cases hlt : m < s.size
      · have hlt2 : m + 1 < s.size := by have := hmk.out; have := HE.out; omega
        have e1 : (bytesOf s).getD (2 * k) 0 = ((s[m]'hlt).toNat : Int) := by rw [← hmk.out]; exact bytesOf_at s m hlt
        have e2 : (bytesOf s).getD (2 * k + 1) 0 = ((s[m + 1]'hlt2).toNat : Int) := by rw [← hmk.out]; exact bytesOf_at s (m + 1) hlt2
        have hl1 : 2 * k + 1 < (bytesOf s).length := by rw [bytesOf_len, ← hmk.out]; exact hlt2
        have ha := dig_ok ((bytesOf s).getD (2 * k) 0)
        have hb := dig_ok ((bytesOf s).getD (2 * k + 1) 0)
        have hB1 := (s[m]'hlt).toNat_lt
        have hB2 := (s[m + 1]'hlt2).toNat_lt
        have HN : Hid (unTo (bytesOf s) (k + 1) = unTo (bytesOf s) k ++ [(dig ((s[m]'hlt).toNat : Int)).getD 0 * 16 + (dig ((s[m + 1]'hlt2).toNat : Int)).getD 0]) := by
          show _ = _
          rw [unTo_succ, pairV, e1, e2]
        have hPO : pairOk (bytesOf s) k = ((dig ((s[m]'hlt).toNat : Int)).isSome && (dig ((s[m + 1]'hlt2).toNat : Int)).isSome) := by unfold pairOk; rw [e1, e2]
        have hlen : (unTo (bytesOf s) k).length ≤ 140737488355000 := by rw [unTo_len]; have := hmk.out; omega
        rw [e1] at ha
        rw [e2] at hb
        have hj := u8_join _ _ ha hb
        clear e1 e2
        by_cases hg : ((dig ((s[m]'hlt).toNat : Int)).isSome && (dig ((s[m + 1]'hlt2).toNat : Int)).isSome) = true
        · rw [hg] at hPO
          have HP := Lib.hid hPO
          clear hPO
          obtain ⟨hg1, hg2⟩ := Bool.and_eq_true_iff.1 hg
          clear hg
          go_wp2_with (first
            | (have hm := hdg; go_at_call 102; refine (digit_any _ _ (by omega) (by omega)).mono ?_; rintro e w' ⟨hdg2, rfl⟩; unfold digP at hdg2; rw [hg2] at hdg2; subst hdg2)
            | (go_at_call 102; refine (digit_any _ _ (by omega) (by omega)).mono ?_; rintro e w' ⟨hdg, rfl⟩; unfold digP at hdg; rw [hg1] at hdg; subst hdg; have hdg := trivial)
            | (at_builtin; refine wpList_append_S rfl (.tmp 45) (.tmp 50) 24 24 rfl i0 (.int .u8 0) 1 (.slice 5) Tryz.underlying24 Tryz.underlying24 (fun _ h => by cases h) hi hz0 hz1 hz2 rfl rfl rfl (ho.alloc _) (Src.one_new (u := .int .u8 ((dig ((s[m]'hlt).toNat : Int)).getD 0 * 16 + (dig ((s[m + 1]'hlt2).toNat : Int)).getD 0)) rfl) ?_ ?_ ?_ ?_; (unfold maxLen; omega); omega; (have := hB.size; simp; omega); intro A2 c2 w2 ho2 hg2 hw2))
          go_roundw
          case rel =>
            have hB' := hB.size
            have hPO := HP.out
            refine ⟨k + 1, m + 2, A2, c2, by omega, by have := hmk.out; show _ = _; omega, by go_num, ?_, ?_, hP.succ hPO, ?_⟩
            · rw [HN.out, List.length_append]; first | done | rfl
            · rw [HN.out, List.length_append, List.map_append]; exact ho2
            · exact (hB.alloc (by omega) _).grown hg2 (by simp; omega) (fun q h => (ho.lt q h).1)
          case measure => simp [intOf]; omega
        · have hU : unOk (bytesOf s) = false := unOk_bad (bytesOf s) k hl1 (by rw [hPO]; simpa using hg)
          clear hPO
          rw [Bool.not_eq_true, Bool.and_eq_false_iff] at hg
          have HU := Lib.hid hU
          clear hU
          by_cases hg1 : (dig ((s[m]'hlt).toNat : Int)).isSome = true
          · have hg2 : (dig ((s[m + 1]'hlt2).toNat : Int)).isSome = false := by
              rcases hg with h | h
              · rw [hg1] at h; cases h
              · exact h
            clear hg
            go_wp2_with (first
              | (have hm := hdg; go_at_call 102; refine (digit_any _ _ (by omega) (by omega)).mono ?_; rintro e w' ⟨hdg2, rfl⟩; unfold digP at hdg2; rw [hg2] at hdg2; subst hdg2)
              | (go_at_call 102; refine (digit_any _ _ (by omega) (by omega)).mono ?_; rintro e w' ⟨hdg, rfl⟩; unfold digP at hdg; rw [hg1] at hdg; subst hdg; have hdg := trivial))
            go_ret2
            exact UnPost.bad HU.out hB
          · have hg1 : (dig ((s[m]'hlt).toNat : Int)).isSome = false := by simpa using hg1
            clear hg
            go_wp2_with (first
              | (have hm := hdg; go_at_call 102; refine (digit_any _ _ (by omega) (by omega)).mono ?_; rintro e w' ⟨hdg2, rfl⟩; unfold digP at hdg2; subst hdg2)
              | (go_at_call 102; refine (digit_any _ _ (by omega) (by omega)).mono ?_; rintro e w' ⟨hdg, rfl⟩; unfold digP at hdg; rw [hg1] at hdg; subst hdg; have hdg := trivial))
            go_ret2
            exact UnPost.bad HU.out hB
      · have hms : m = s.size := by omega
        have hU : unOk (bytesOf s) = true := unOk_good _ (by rw [bytesOf_len]; have := HE.out; omega) (fun j hj => hP j (by rw [bytesOf_len] at hj; have := hmk.out; omega))
        have HU := Lib.hid hU
        have hkl : k = (bytesOf s).length / 2 := by rw [bytesOf_len]; have := hmk.out; omega
        have HK := Lib.hid hkl
        clear hU hms hkl
        go_wp2
        go_ret2
        exact UnPost.good HU.out HK.out ho.ints hB
end Go.Proofs.YtdlabapfcghfmaaGreatDoor
