/- strings.IndexRune at the bytes that a person's text may not have. (Printed by genobc.py out of XNmC.) -/
import Derived.Test.YtdlabapfcghfmaaDoorApp
import Derived.Lib.SplitLaws
import Derived.Lib.ValidAsc
import Derived.Lib.RuneCountTail
import Derived.Laws.RangeString
import Derived.Laws.RangeAny
import Derived.LoopTactic
import Derived.IntWalk
import Derived.Test.YtdlabapfcghfmaaDoorShelfO
import Derived.Laws.Runes
namespace Go.Proofs.YtdlabapfcghfmaaDoor
open Go.RowKit
set_option linter.unusedVariables false

def badO : ByteArray := ⟨#[60, 62, 10, 0]⟩
theorem idxByte_high (l : List UInt8) (c : UInt8) (h : c ∉ l) : Lib.indexByte l c = -1 := by
  induction l with
  | nil => rfl
  | cons b l ih =>
    unfold Lib.indexByte
    rw [if_neg (by rw [beq_iff_eq]; rintro rfl; exact h (by simp)), ih (fun hm => h (by simp [hm]))]
    rfl
theorem notBad (c : UInt8) (h : 128 ≤ c.toNat) (n : Nat) : c ∉ badO.data.toList.drop n := by
  intro hm
  have := List.mem_of_mem_drop hm
  simp [badO] at this
  rcases this with rfl | rfl | rfl | rfl <;> revert h <;> decide
theorem valid_of (c : Nat) (h : Utf8.valid (c : Int) = true) : c < 55296 ∨ (57344 ≤ c ∧ c ≤ 1114111) := by
  unfold Utf8.valid at h
  simp at h
  omega
set_option maxRecDepth 100000 in
set_option maxHeartbeats 1000000 in
theorem indexRune_errO (w : World) :
    Calls Tryd.prog 81 #[.string badO, .int .i32 65533] w fun e w' => e = .returned (.int .i64 (-1)) ∧ Below w.heap.size w w' := by
  go_enter Tryd.func81, Tryd.ntmps81
  go_wp2
  go_loopw [5] (fun _ w' => ∃ pos : Nat, pos ≤ 4 ∧ w' = w.iter badO pos) (fun _ w' => 4 - w'.iterPos w.heap.size)
  case atStart => exact ⟨0, by omega, rfl⟩
  case round =>
    obtain ⟨pos, hp7, rfl⟩ := hrel
    by_cases hp : pos < badO.size
    · have hnx : ∀ ty, (Instr.next (.pointer (some ⟨w.heap.size, 0, none⟩)) true ty).run Tryd.prog (w.iter badO pos) = _ := fun ty => run_next_any w badO pos ty hp
      have hd : Utf8.decode badO pos = ((badO[pos]'hp).toNat, 1) := decode_ascii badO pos hp (by
        have h7 : pos < 4 := hp
        have : pos = 0 ∨ pos = 1 ∨ pos = 2 ∨ pos = 3 := by omega
        rcases this with rfl | rfl | rfl | rfl <;> exact of_decide_eq_true rfl)
      have hb := (badO[pos]'hp).toNat_lt
      have q1 : (((Utf8.decode badO pos).1 : Int) == 65533) = false := by rw [hd, beq_eq_false_iff_ne]; simp only []; omega
      have hw : (Utf8.decode badO pos).2 = 1 := by rw [hd]
      have h7 : pos < 4 := hp
      have HW := Lib.hid hw
      clear hd hw
      go_wp2
      go_roundw
      case rel => exact ⟨pos + 1, by omega, by rw [HW.out]⟩
      case measure => simp; have := HW.out; omega
    · have hnx : ∀ ty, (Instr.next (.pointer (some ⟨w.heap.size, 0, none⟩)) true ty).run Tryd.prog (w.iter badO pos) = _ := fun ty => run_next_end w badO pos ty hp
      go_wp2
      go_ret
      exact ⟨rfl, (Below.refl _ _).alloc (Nat.le_refl _) _⟩
set_option maxRecDepth 1000000 in
set_option maxHeartbeats 1000000 in
theorem indexRune_badO (c : Nat) (w : World) (h1 : 128 ≤ c) (h3 : c ≠ 65533) (hr : Lib.validRune (c : Int) = false) :
    Calls Tryd.prog 81 #[.string ⟨#[60, 62, 10, 0]⟩, .int .i32 c] w fun e w' => e = .returned (.int .i64 (-1)) ∧ Below w.heap.size w w' := by
  have q0 : decide ((0 : Int) ≤ (c : Int)) = true := decide_eq_true (by omega)
  have q1 : decide ((c : Int) < 128) = false := decide_eq_false (by omega)
  have q2 : ((c : Int) == 65533) = false := by rw [beq_eq_false_iff_ne]; omega
  have hv : Calls Tryd.prog 90 #[.int .i32 c] w fun e w' => e = .returned (.bool false) ∧ w = w' := (Tryd.utf8_ValidRune (c : Int) w).mono fun _ _ ⟨h1, h2⟩ => ⟨by rw [h1, hr], h2.symm⟩
  go_enter Tryd.func81, Tryd.ntmps81
  go_wp2_with (go_at_call 90; refine hv.mono ?_; rintro e w' ⟨rfl, rfl⟩)
  go_ret
  exact ⟨rfl, Below.refl _ _⟩
set_option maxRecDepth 1000000 in
set_option maxHeartbeats 1000000 in
theorem indexRune_h2O (c : Nat) (w : World) (h1 : 128 ≤ c) (h3 : c ≠ 65533) (hr : Lib.validRune (c : Int) = true) (rs : ByteArray) (hrs : Utf8.encode (c : Int) = rs) (hn : rs.size = 2) (g2 : 1 < rs.size) (hb : 128 ≤ (rs[1]'g2).toNat) :
    Calls Tryd.prog 81 #[.string ⟨#[60, 62, 10, 0]⟩, .int .i32 c] w fun e w' => e = .returned (.int .i64 (-1)) ∧ Below w.heap.size w w' := by
  have q0 : decide ((0 : Int) ≤ (c : Int)) = true := decide_eq_true (by omega)
  have q1 : decide ((c : Int) < 128) = false := decide_eq_false (by omega)
  have q2 : ((c : Int) == 65533) = false := by rw [beq_eq_false_iff_ne]; omega
  have hv : Calls Tryd.prog 90 #[.int .i32 c] w fun e w' => e = .returned (.bool true) ∧ w = w' := (Tryd.utf8_ValidRune (c : Int) w).mono fun _ _ ⟨h1, h2⟩ => ⟨by rw [h1, hr], h2.symm⟩
  have r1 : (!((62 : Int) == ((rs[1]'g2).toNat : Int))) = true := by
    have : ((62 : Int) == ((rs[1]'g2).toNat : Int)) = false := by rw [beq_eq_false_iff_ne]; omega
    rw [this]; rfl
  have r2 : ((((⟨#[60, 62, 10, 0]⟩ : ByteArray)[1]'(by decide)).toNat : Int) != ((rs[1]'g2).toNat : Int)) = true := r1
  obtain ⟨t, ht⟩ : ∃ t : ByteArray, (⟨#[60, 62, 10, 0]⟩ : ByteArray).extract 2 4 = t := ⟨_, rfl⟩
  have hix : ∀ w', Calls Tryd.prog 36 #[.string t, .int .u8 ((rs[1]'g2).toNat : Int)] w' fun e w'' => e = .returned (.int .i64 (-1)) ∧ w'' = w' := fun w' => by
    have := Tryd.strings_IndexByte t ((rs[1]'g2).toNat : Int) w'
    rw [Int.toNat_natCast, show ((rs[1]'g2).toNat).toUInt8 = rs[1]'g2 by simp, ← ht, show ((⟨#[60, 62, 10, 0]⟩ : ByteArray).extract 2 4).data.toList = badO.data.toList.drop 2 from Lib.ext_list badO 2, idxByte_high _ _ (notBad _ hb 2), ht] at this
    exact this
  have HIX := Lib.hid hix
  clear hix hr h3 hb
  go_enter Tryd.func81, Tryd.ntmps81
  go_wp2_with (go_at_call 90; refine hv.mono ?_; rintro e w' ⟨rfl, rfl⟩)
  go_step3
  go_wp2
  go_loop [9, 10] (fun i f => i = .int .i64 1 ∧ f = .int .i64 0) (fun _ _ => 0)
  case atStart => exact ⟨rfl, rfl⟩
  case round =>
  obtain ⟨rfl, rfl⟩ := hrel
  clear hv
  go_wp2
  go_step3
  go_wp2
  go_quiet (fail)
  go_wp2
  have hB1 : Below w.heap.size w (w.drewN nq) := Below.drewN (Below.refl _ _) nq
  generalize w.drewN nq = w1 at hB1 ⊢
  go_quiet ((go_at_call 36; exact Calls.quiet_of_same (HIX.out _)))
  go_wp2
  simp only [Exit.noGoto_ret]
  go_wp2
  simp only [Exit.noGoto_ret]
  go_ret
  exact ⟨rfl, Below.drewN hB1 _⟩
set_option maxRecDepth 1000000 in
set_option maxHeartbeats 1000000 in
theorem indexRune_h3O (c : Nat) (w : World) (h1 : 128 ≤ c) (h3 : c ≠ 65533) (hr : Lib.validRune (c : Int) = true) (rs : ByteArray) (hrs : Utf8.encode (c : Int) = rs) (hn : rs.size = 3) (g2 : 2 < rs.size) (hb : 128 ≤ (rs[2]'g2).toNat) :
    Calls Tryd.prog 81 #[.string ⟨#[60, 62, 10, 0]⟩, .int .i32 c] w fun e w' => e = .returned (.int .i64 (-1)) ∧ Below w.heap.size w w' := by
  have q0 : decide ((0 : Int) ≤ (c : Int)) = true := decide_eq_true (by omega)
  have q1 : decide ((c : Int) < 128) = false := decide_eq_false (by omega)
  have q2 : ((c : Int) == 65533) = false := by rw [beq_eq_false_iff_ne]; omega
  have hv : Calls Tryd.prog 90 #[.int .i32 c] w fun e w' => e = .returned (.bool true) ∧ w = w' := (Tryd.utf8_ValidRune (c : Int) w).mono fun _ _ ⟨h1, h2⟩ => ⟨by rw [h1, hr], h2.symm⟩
  have r1 : (!((10 : Int) == ((rs[2]'g2).toNat : Int))) = true := by
    have : ((10 : Int) == ((rs[2]'g2).toNat : Int)) = false := by rw [beq_eq_false_iff_ne]; omega
    rw [this]; rfl
  have r2 : ((((⟨#[60, 62, 10, 0]⟩ : ByteArray)[2]'(by decide)).toNat : Int) != ((rs[2]'g2).toNat : Int)) = true := r1
  obtain ⟨t, ht⟩ : ∃ t : ByteArray, (⟨#[60, 62, 10, 0]⟩ : ByteArray).extract 3 4 = t := ⟨_, rfl⟩
  have hix : ∀ w', Calls Tryd.prog 36 #[.string t, .int .u8 ((rs[2]'g2).toNat : Int)] w' fun e w'' => e = .returned (.int .i64 (-1)) ∧ w'' = w' := fun w' => by
    have := Tryd.strings_IndexByte t ((rs[2]'g2).toNat : Int) w'
    rw [Int.toNat_natCast, show ((rs[2]'g2).toNat).toUInt8 = rs[2]'g2 by simp, ← ht, show ((⟨#[60, 62, 10, 0]⟩ : ByteArray).extract 3 4).data.toList = badO.data.toList.drop 3 from Lib.ext_list badO 3, idxByte_high _ _ (notBad _ hb 3), ht] at this
    exact this
  have HIX := Lib.hid hix
  clear hix hr h3 hb
  go_enter Tryd.func81, Tryd.ntmps81
  go_wp2_with (go_at_call 90; refine hv.mono ?_; rintro e w' ⟨rfl, rfl⟩)
  go_step3
  go_wp2
  go_loop [9, 10] (fun i f => i = .int .i64 2 ∧ f = .int .i64 0) (fun _ _ => 0)
  case atStart => exact ⟨rfl, rfl⟩
  case round =>
  obtain ⟨rfl, rfl⟩ := hrel
  clear hv
  go_wp2
  go_step3
  go_wp2
  go_quiet (fail)
  go_wp2
  have hB1 : Below w.heap.size w (w.drewN nq) := Below.drewN (Below.refl _ _) nq
  generalize w.drewN nq = w1 at hB1 ⊢
  go_quiet ((go_at_call 36; exact Calls.quiet_of_same (HIX.out _)))
  go_wp2
  simp only [Exit.noGoto_ret]
  go_wp2
  simp only [Exit.noGoto_ret]
  go_ret
  exact ⟨rfl, Below.drewN hB1 _⟩
set_option maxRecDepth 1000000 in
set_option maxHeartbeats 1000000 in
theorem indexRune_h4O (c : Nat) (w : World) (h1 : 128 ≤ c) (h3 : c ≠ 65533) (hr : Lib.validRune (c : Int) = true) (rs : ByteArray) (hrs : Utf8.encode (c : Int) = rs) (hn : rs.size = 4) (g2 : 3 < rs.size) (hb : 128 ≤ (rs[3]'g2).toNat) :
    Calls Tryd.prog 81 #[.string ⟨#[60, 62, 10, 0]⟩, .int .i32 c] w fun e w' => e = .returned (.int .i64 (-1)) ∧ Below w.heap.size w w' := by
  have q0 : decide ((0 : Int) ≤ (c : Int)) = true := decide_eq_true (by omega)
  have q1 : decide ((c : Int) < 128) = false := decide_eq_false (by omega)
  have q2 : ((c : Int) == 65533) = false := by rw [beq_eq_false_iff_ne]; omega
  have hv : Calls Tryd.prog 90 #[.int .i32 c] w fun e w' => e = .returned (.bool true) ∧ w = w' := (Tryd.utf8_ValidRune (c : Int) w).mono fun _ _ ⟨h1, h2⟩ => ⟨by rw [h1, hr], h2.symm⟩
  have r1 : (!((0 : Int) == ((rs[3]'g2).toNat : Int))) = true := by
    have : ((0 : Int) == ((rs[3]'g2).toNat : Int)) = false := by rw [beq_eq_false_iff_ne]; omega
    rw [this]; rfl
  have r2 : ((((⟨#[60, 62, 10, 0]⟩ : ByteArray)[3]'(by decide)).toNat : Int) != ((rs[3]'g2).toNat : Int)) = true := r1
  obtain ⟨t, ht⟩ : ∃ t : ByteArray, (⟨#[60, 62, 10, 0]⟩ : ByteArray).extract 4 4 = t := ⟨_, rfl⟩
  have hix : ∀ w', Calls Tryd.prog 36 #[.string t, .int .u8 ((rs[3]'g2).toNat : Int)] w' fun e w'' => e = .returned (.int .i64 (-1)) ∧ w'' = w' := fun w' => by
    have := Tryd.strings_IndexByte t ((rs[3]'g2).toNat : Int) w'
    rw [Int.toNat_natCast, show ((rs[3]'g2).toNat).toUInt8 = rs[3]'g2 by simp, ← ht, show ((⟨#[60, 62, 10, 0]⟩ : ByteArray).extract 4 4).data.toList = badO.data.toList.drop 4 from Lib.ext_list badO 4, idxByte_high _ _ (notBad _ hb 4), ht] at this
    exact this
  have hw4 : IntKind.i64.wrap 4 = 4 := by decide
  have hsl : ∀ w', (Instr.slice 9 (.string ⟨#[60, 62, 10, 0]⟩) (some (.int .i64 4)) none none).run Tryd.prog w' = .ok (.string t) w' := fun w' => by rw [← ht]; kernel_rfl
  have HIX := Lib.hid hix
  clear hix hr h3 hb
  go_enter Tryd.func81, Tryd.ntmps81
  go_wp2_with (go_at_call 90; refine hv.mono ?_; rintro e w' ⟨rfl, rfl⟩)
  go_step3
  go_wp2
  go_loop [9, 10] (fun i f => i = .int .i64 3 ∧ f = .int .i64 0) (fun _ _ => 0)
  case atStart => exact ⟨rfl, rfl⟩
  case round =>
  obtain ⟨rfl, rfl⟩ := hrel
  clear hv
  go_wp2
  go_step3
  go_wp2
  go_quiet (fail)
  go_wp2
  have hB1 : Below w.heap.size w (w.drewN nq) := Below.drewN (Below.refl _ _) nq
  generalize w.drewN nq = w1 at hB1 ⊢
  go_quiet ((go_at_call 36; exact Calls.quiet_of_same (HIX.out _)))
  go_wp2
  simp only [Exit.noGoto_ret]
  go_wp2
  simp only [Exit.noGoto_ret]
  go_ret
  exact ⟨rfl, Below.drewN hB1 _⟩
theorem idx_contains (l : List UInt8) (c : UInt8) : decide (0 ≤ Lib.indexByte l c) = l.contains c := by
  induction l with
  | nil => rfl
  | cons b l ih =>
    unfold Lib.indexByte
    rw [List.contains_cons]
    have hge := Lib.indexByte_ge l c
    by_cases h : b = c
    · subst h; simp
    · have h1 : (b == c) = false := by simpa using h
      have h2 : (c == b) = false := by simpa using fun e => h e.symm
      rw [h1, h2, Bool.false_or, if_neg (by decide), ← ih]
      by_cases hm : Lib.indexByte l c = -1
      · rw [hm]; rfl
      · have h3 : (Lib.indexByte l c == -1) = false := by simpa using hm
        rw [h3, if_neg (by decide)]
        rw [decide_eq_decide]; omega
theorem idxRune_low (c : UInt8) (w : World) (h : c.toNat < 128) :
    Calls Tryd.prog 81 #[.string ⟨#[60, 62, 10, 0]⟩, .int .i32 (c.toNat : Int)] w fun e w' => e = .returned (.int .i64 (Lib.indexByte [60, 62, 10, 0] c)) ∧ w = w' := by
  refine (Tryd.strings_IndexRune_ascii ⟨#[60, 62, 10, 0]⟩ (c.toNat : Int) w (by omega) (by omega)).mono fun e w' ⟨h1, h2⟩ => ⟨?_, h2.symm⟩
  rw [h1, Int.toNat_natCast, show (c.toNat).toUInt8 = c by simp]
theorem idxRune_high (c : Nat) (w : World) (h1 : 128 ≤ c) (h2 : c ≤ 1114111) :
  Calls Tryd.prog 81 #[.string ⟨#[60, 62, 10, 0]⟩, .int .i32 c] w fun e w' => e = .returned (.int .i64 (-1)) ∧ Below w.heap.size w w' := by
  by_cases h3 : c = 65533
  · subst h3; exact indexRune_errO w
  by_cases hr : Lib.validRune (c : Int) = true
  · have hv2 : Utf8.valid (c : Int) = true := by
      unfold Lib.validRune at hr
      have := of_decide_eq_true hr
      unfold Utf8.valid
      simp
      omega
    obtain ⟨f1, f2, f3⟩ := encode_facts (c : Int) hv2 (by omega)
    obtain ⟨rs, hrs⟩ : ∃ rs, Utf8.encode (c : Int) = rs := ⟨_, rfl⟩
    rw [hrs] at f1 f2
    have f3 : ∀ h : rs.size - 1 < rs.size, 128 ≤ (rs[rs.size - 1]'h).toNat := by rw [← hrs]; exact f3
    have hn : rs.size = 2 ∨ rs.size = 3 ∨ rs.size = 4 := by omega
    rcases hn with hn | hn | hn
    · exact indexRune_h2O c w h1 h3 hr rs hrs hn (by omega) (by have := f3 (by omega); simpa [hn] using this)
    · exact indexRune_h3O c w h1 h3 hr rs hrs hn (by omega) (by have := f3 (by omega); simpa [hn] using this)
    · exact indexRune_h4O c w h1 h3 hr rs hrs hn (by omega) (by have := f3 (by omega); simpa [hn] using this)
  · have hr' : Lib.validRune (c : Int) = false := by simpa using hr
    exact indexRune_badO c w h1 h3 hr'
end Go.Proofs.YtdlabapfcghfmaaDoor
