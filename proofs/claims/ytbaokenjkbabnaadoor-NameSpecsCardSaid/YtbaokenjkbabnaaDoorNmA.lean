/- stemmaref8.UTF8, stemmaref14.ends. -/
import Derived.Test.YtbaokenjkbabnaaDoorApp
import Derived.Test.YtbaokenjkbabnaaDoorNmP
import Derived.Laws.RangeString
import Derived.Laws.RangeAny
import Derived.LoopTactic
import Derived.IntWalk
namespace Go.Proofs.YtbaokenjkbabnaaDoor
open Go.RowKit
set_option linter.unusedVariables false

theorem str_eq_data (a b : ByteArray) : (a.toList == b.toList) = (a.data.toList == b.data.toList) := by rw [Lib.toList_data, Lib.toList_data]
set_option maxRecDepth 100000 in
set_option maxHeartbeats 1000000 in
theorem utf8_any (s : ByteArray) (w : World) (hs : s.size ≤ 140737488355328) :
    Calls Tryd.prog 31 #[.string s] w fun e w' => e = .returned (.bool (Lib.validD s.data.toList)) ∧ Below w.heap.size w w' := by
  go_enter Tryd.func31, Tryd.ntmps31
  go_wp2
  go_loopw [3] (fun _ w' => ∃ pos : Nat, w' = w.iter s pos ∧ Lib.validD (s.data.toList.drop pos) = Lib.validD s.data.toList) (fun _ w' => s.size - w'.iterPos w.heap.size)
  case atStart => exact ⟨0, rfl, by rw [List.drop_zero]⟩
  case round =>
    obtain ⟨pos, rfl, hv⟩ := hrel
    have HV := Lib.hid hv
    clear hv
    by_cases hp : pos < s.size
    · have hnx : ∀ ty, (Instr.next (.pointer (some ⟨w.heap.size, 0, none⟩)) true ty).run Tryd.prog (w.iter s pos) = _ := fun ty => run_next_any w s pos ty hp
      have hwd := Lib.decode_width_pos s pos hp
      have hva := valid_at s pos hp
      have hx : (s.extract pos (pos + 3)).toList = (s.data.toList.drop pos).take 3 := by rw [Lib.extract_toList, Nat.add_sub_cancel_left]
      by_cases hc : (Utf8.decode s pos).1 = 65533
      · have q1 : (((Utf8.decode s pos).1 : Int) == 65533) = true := by rw [hc]; rfl
        by_cases h3 : s.size - pos < 3
        · have q2 : decide ((s.size : Int) - (pos : Int) < 3) = true := decide_eq_true (by omega)
          rw [if_pos ⟨hc, .inl h3⟩, HV.out] at hva
          have HA := Lib.hid hva
          clear hva HV hx
          go_wp2
          go_ret
          rw [HA.out]
          exact ⟨rfl, (Below.refl _ _).alloc (Nat.le_refl _) _⟩
        · have q2 : decide ((s.size : Int) - (pos : Int) < 3) = false := decide_eq_false (by omega)
          by_cases h4 : (s.data.toList.drop pos).take 3 = [239, 191, 189]
          · have q3 : ((s.extract pos (pos + 3)).toList == [239, 191, 189]) = true := by rw [hx, h4]; rfl
            have q4 : (!(s.extract pos (pos + 3)).toList == [239, 191, 189]) = false := by rw [q3]; rfl
            rw [if_neg (by rintro ⟨_, h | h⟩; exact h3 h; exact h h4), HV.out] at hva
            have HA := Lib.hid hva
            clear hva HV hx h4
            go_wp2
            go_roundw
            case rel => exact ⟨pos + (Utf8.decode s pos).2, rfl, HA.out.symm⟩
            case measure => simp; omega
          · have q3 : ((s.extract pos (pos + 3)).toList == [239, 191, 189]) = false := by rw [hx, beq_eq_false_iff_ne]; exact h4
            have q4 : (!(s.extract pos (pos + 3)).toList == [239, 191, 189]) = true := by rw [q3]; rfl
            rw [if_pos ⟨hc, .inr h4⟩, HV.out] at hva
            have HA := Lib.hid hva
            clear hva HV hx h4
            go_wp2
            go_ret
            rw [HA.out]
            exact ⟨rfl, (Below.refl _ _).alloc (Nat.le_refl _) _⟩
      · have q1 : (((Utf8.decode s pos).1 : Int) == 65533) = false := by rw [beq_eq_false_iff_ne]; omega
        rw [if_neg (fun h => hc h.1), HV.out] at hva
        have HA := Lib.hid hva
        clear hva HV hx
        go_wp2
        go_roundw
        case rel => exact ⟨pos + (Utf8.decode s pos).2, rfl, HA.out.symm⟩
        case measure => simp; omega
    · have hnx : ∀ ty, (Instr.next (.pointer (some ⟨w.heap.size, 0, none⟩)) true ty).run Tryd.prog (w.iter s pos) = _ := fun ty => run_next_end w s pos ty hp
      rw [valid_end s pos hp] at HV
      go_wp2
      go_ret
      rw [← HV.out]
      exact ⟨rfl, (Below.refl _ _).alloc (Nat.le_refl _) _⟩
set_option maxRecDepth 100000 in
set_option maxHeartbeats 1000000 in
theorem ends_any (s t : ByteArray) (w : World) (hs : s.size ≤ 140737488355328) :
    Calls Tryd.prog 32 #[.string s, .string t] w fun e w' => e = .returned (.bool (Lib.hasSuffix s.data.toList t.data.toList)) ∧ w = w' := by
  have hr := Lib.hasSuffix_raw s t
  by_cases h : t.size ≤ s.size
  · have q1 : decide (t.size ≤ s.size) = true := decide_eq_true h
    rw [q1, Bool.true_and] at hr
    have HR := Lib.hid hr
    clear hr
    have hw : IntKind.i64.wrap ((s.size : Int) - (t.size : Int)) = ((s.size - t.size : Nat) : Int) := by rw [IntWalk.i64_in _ (by omega)]; omega
    have hw0 : (0 : Int) ≤ ((s.size - t.size : Nat) : Int) := by omega
    have hw1 : ((s.size - t.size : Nat) : Int) ≤ s.size := by omega
    go_enter Tryd.func32, Tryd.ntmps32
    go_wp2
    go_ret
    rw [← HR.out]
    exact ⟨rfl, rfl⟩
  · have q1 : decide (t.size ≤ s.size) = false := decide_eq_false h
    rw [q1, Bool.false_and] at hr
    have HR := Lib.hid hr
    clear hr
    go_enter Tryd.func32, Tryd.ntmps32
    go_wp2
    go_ret
    rw [← HR.out]
    exact ⟨rfl, rfl⟩
end Go.Proofs.YtbaokenjkbabnaaDoor
