/- stemmaref14.parts, star. -/
import Derived.Test.YtbaokenjkbabnaaDoorNmA
namespace Go.Proofs.YtbaokenjkbabnaaDoor
open Go.RowKit
set_option linter.unusedVariables false

theorem Tryd.info_str : (Tryd.prog.info? 9).map (fun i => (i.zero, i.size, i.bytes)) = some (some (.string ByteArray.empty), 1, 16) := by kernel_rfl
def PtRel (s : ByteArray) (B : Nat) (W : World) (v f i : Value) (w : World) : Prop :=
  ∃ (p k : Nat) (P : List ByteArray), i = .int .i64 k ∧ f = .int .i64 p ∧ OwnS w B 9 1 v P.length (P.map Value.string) ∧ Below B W w ∧ P.length ≤ k ∧
    ((k ≤ s.size ∧ p ≤ k ∧ (∀ j, p ≤ j → j < k → s.data.toList[j]? ≠ some 47) ∧ P.map (fun b => b.data.toList) ++ partsL (s.data.toList.drop p) = partsL s.data.toList) ∨ (k = s.size + 1 ∧ P.map (fun b => b.data.toList) = partsL s.data.toList))
def PtPost (s : ByteArray) (B : Nat) (W : World) (e : Ending) (w : World) : Prop :=
  ∃ (A : Option Addr) (c : Nat) (P : List ByteArray), e = .returned (.slice A P.length c) ∧ OwnS w B 9 1 (.slice A P.length c) P.length (P.map Value.string) ∧ P.map (fun b => b.data.toList) = partsL s.data.toList ∧ Below B W w ∧ P.length ≤ s.size + 1
theorem ext_take (s : ByteArray) (p k : Nat) : (s.extract p k).data.toList = (s.data.toList.drop p).take (k - p) := Lib.extract_data s p k
theorem parts_next (s : ByteArray) (p k : Nat) (P : List ByteArray) (hpk : p ≤ k) (hk : s.data.toList[k]? = some 47) (hn : ∀ j, p ≤ j → j < k → s.data.toList[j]? ≠ some 47) (h : P.map (fun b => b.data.toList) ++ partsL (s.data.toList.drop p) = partsL s.data.toList) :
    (P ++ [s.extract p k]).map (fun b => b.data.toList) ++ partsL (s.data.toList.drop (k + 1)) = partsL s.data.toList := by
  rw [← h, partsL_cut (s.data.toList.drop p) (k - p) (by rw [List.getElem?_drop, Nat.add_sub_cancel' hpk]; exact hk) (fun j hj hh => hn (p + j) (by omega) (by omega) (by rwa [List.getElem?_drop] at hh)), List.map_append, List.append_assoc, List.drop_drop]
  have e : p + (k - p + 1) = k + 1 := by omega
  simp only [List.map_cons, List.map_nil, ext_take, e, List.singleton_append]
theorem parts_last (s : ByteArray) (p : Nat) (P : List ByteArray) (hp : p ≤ s.size) (hn : ∀ j, p ≤ j → j < s.size → s.data.toList[j]? ≠ some 47) (h : P.map (fun b => b.data.toList) ++ partsL (s.data.toList.drop p) = partsL s.data.toList) :
    (P ++ [s.extract p s.size]).map (fun b => b.data.toList) = partsL s.data.toList := by
  rw [← h, partsL_none (s.data.toList.drop p) (fun c hc hh => by
    obtain ⟨j, hj, hjc⟩ := List.mem_iff_getElem.1 hc
    rw [List.length_drop, ← Lib.size_eq] at hj
    refine hn (p + j) (by omega) (by omega) ?_
    rw [List.getElem_drop] at hjc
    rw [List.getElem?_eq_getElem (by rw [← Lib.size_eq]; omega), hjc, hh]), List.map_append]
  congr 1
  simp only [List.map_cons, List.map_nil, ext_take]
  rw [List.take_of_length_le (by rw [List.length_drop, ← Lib.size_eq]; omega)]

set_option maxRecDepth 100000 in
set_option maxHeartbeats 1000000 in
theorem parts_any (s : ByteArray) (w : World) (hs : s.size ≤ 100) :
    Calls Tryd.prog 33 #[.string s] w (PtPost s w.heap.size w) := by
  obtain ⟨i0, hi, hz0, hz1, hz2⟩ := info_parts Tryd.info_str
  go_enter Tryd.func33, Tryd.ntmps33
  go_wp2
  go_loopw [3, 4, 5] (fun v f i wr => PtRel s w.heap.size w v f i wr) (fun _ _ i _ => s.size + 1 - (intOf i).toNat)
  case atStart => exact ⟨0, 0, [], rfl, rfl, OwnS.nil _ _ _ _, Below.refl _ _, Nat.le_refl _, .inl ⟨Nat.zero_le _, Nat.le_refl _, fun j h1 h2 => by omega, by simp⟩⟩
  case round =>
    obtain ⟨p, k, P, rfl, rfl, hown, hbel, hPk, hcase⟩ := hrel
    rcases hcase with ⟨hk, hpk, hn, hP⟩ | ⟨hk, hP⟩
    · have q0 : decide (k ≤ s.size) = true := decide_eq_true hk
      obtain ⟨A, c, rfl⟩ := hown.shape
      have hkw : IntKind.i64.wrap ((k : Int) + 1) = ((k + 1 : Nat) : Int) := by rw [IntWalk.i64_in _ (by omega)]; rfl
      have p0 : (0 : Int) ≤ (p : Int) := by omega
      have p1 : (p : Int) ≤ (k : Int) := by omega
      have p2 : (k : Int) ≤ s.size := by omega
      by_cases he : k = s.size
      · subst he
        have q1 : (s.size == s.size) = true := by simp
        have hnew := parts_last s p P hpk hn hP
        clear hn hP
        go_wp2_with (at_builtin; refine wpList_append_S rfl (.tmp 22) (.tmp 27) 22 22 rfl i0 (.string ByteArray.empty) 16 (.slice 9) Tryd.underlying22 Tryd.underlying22 (fun _ h => by cases h) hi hz0 hz1 hz2 rfl rfl rfl (hown.alloc _) (Src.one_new (u := .string (s.extract p s.size)) rfl) (by unfold maxLen; omega) (by omega) (by have := hbel.size; simp; omega) ?_; intro A9 c9 w9 ho9 hg9 hw9)
        have hb9 := (hbel.alloc hbel.size _).grown hg9 (by have := hbel.size; simp; omega) (fun k hk => (hown.lt k hk).1)
        go_roundw
        case rel => exact ⟨s.size + 1, s.size + 1, P ++ [s.extract p s.size], by go_num, by go_num, by simpa using ho9, hb9, by simp; omega, .inr ⟨rfl, hnew⟩⟩
        case measure => simp [intOf]
      · have q1 : (k == s.size) = false := by simpa using he
        have q1' : ((k : Int) == (s.size : Int)) = false := by rw [beq_eq_false_iff_ne]; omega
        have hlt : k < s.size := by omega
        have p3 : (k : Int) < s.size := by omega
        have hkl : s.data.toList[k]? = some s[k] := by
          rw [get_toList s k hlt]
          congr 1
          have := get_at s k hlt; rwa [Nat.add_zero] at this
        by_cases h47 : s[k] = 47
        · have q2 : ((s[k].toNat : Int) == 47) = true := by rw [h47]; rfl
          have hnew := Lib.hid (parts_next s p k P hpk (by rw [hkl, h47]) hn hP)
          clear hn hP hkl h47
          go_wp2_with (at_builtin; refine wpList_append_S rfl (.tmp 22) (.tmp 27) 22 22 rfl i0 (.string ByteArray.empty) 16 (.slice 9) Tryd.underlying22 Tryd.underlying22 (fun _ h => by cases h) hi hz0 hz1 hz2 rfl rfl rfl (hown.alloc _) (Src.one_new (u := .string (s.extract p k)) rfl) (by unfold maxLen; omega) (by omega) (by have := hbel.size; simp; omega) ?_; intro A9 c9 w9 ho9 hg9 hw9)
          have hb9 := (hbel.alloc hbel.size _).grown hg9 (by have := hbel.size; simp; omega) (fun k hk => (hown.lt k hk).1)
          go_roundw
          case rel => exact ⟨k + 1, k + 1, P ++ [s.extract p k], by go_num, by go_num, by simpa using ho9, hb9, by simp; omega, .inl ⟨by omega, Nat.le_refl _, fun j h1 h2 => by omega, hnew.out⟩⟩
          case measure => simp [intOf]; omega
        · have q2 : ((s[k].toNat : Int) == 47) = false := by
            rw [beq_eq_false_iff_ne]
            intro h
            exact h47 (UInt8.toNat_inj.1 (by rw [show (47 : UInt8).toNat = 47 from rfl]; omega))
          have hn' : Hid (∀ j, p ≤ j → j < k + 1 → s.data.toList[j]? ≠ some 47) := fun j h1 h2 hh => by
            by_cases e : j = k
            · subst e; rw [hkl] at hh; injection hh with hh; exact h47 hh
            · exact hn j h1 (by omega) hh
          have HP := Lib.hid hP
          clear hn hP hkl h47
          go_wp2
          go_roundw
          case rel => exact ⟨p, k + 1, P, by go_num, rfl, hown, hbel, by omega, .inl ⟨by omega, by omega, hn', HP.out⟩⟩
          case measure => simp [intOf]; omega
    · have q0 : decide (k ≤ s.size) = false := decide_eq_false (by omega)
      obtain ⟨A, c, rfl⟩ := hown.shape
      go_wp2
      go_ret
      exact ⟨A, c, P, rfl, hown, hP, hbel, by omega⟩
end Go.Proofs.YtbaokenjkbabnaaDoor
