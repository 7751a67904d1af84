/- strings.IndexRune at the bytes that a person's text may not have. (Printed by genobc.py out of XNmC.) -/
import Derived.Test.YtdlabapfcghfmaaGreatDoorApp
import Derived.Lib.SplitLaws
import Derived.Lib.ValidAsc
import Derived.Lib.RuneCountTail
import Derived.Laws.RangeString
import Derived.Laws.RangeAny
import Derived.LoopTactic
import Derived.IntWalk
import Derived.Test.YtdlabapfcghfmaaGreatDoorShelfO
import Derived.Laws.Runes
import Derived.Lib.IndexAny
import Derived.Lib.OthersKept
import Derived.Test.YtdlabapfcghfmaaGreatDoorObS
import Derived.Shelf.Strings.AsciiSet
import Derived.Shelf.Strings.SlTrimAscii
import Derived.Lib.Replace
import Derived.Test.YtdlabapfcghfmaaGreatDoorRel
import Derived.Lib.IndexLaws
import Derived.Lib.ValidLaws
namespace Go.Proofs.YtdlabapfcghfmaaGreatDoor
open Go.RowKit
set_option linter.unusedVariables false

def badO : ByteArray := ⟨#[60, 62, 10, 0]⟩
theorem idxByte_high (l : List UInt8) (c : UInt8) (h : c ∉ l) : Lib.indexByte l c = -1 := by
  induction l with
  | nil => rfl
  | cons b l ih =>
    unfold Lib.indexByte
    rw [if_neg (by rw [beq_iff_eq]; rintro rfl; exact h (by simp)), ih (fun hm => h (by simp [hm]))]
    rfl
theorem notBad (c : UInt8) (h : 128 ≤ c.toNat) (n : Nat) : c ∉ badO.data.toList.drop n := by
  intro hm
  have := List.mem_of_mem_drop hm
  simp [badO] at this
  rcases this with rfl | rfl | rfl | rfl <;> revert h <;> decide
theorem valid_of (c : Nat) (h : Utf8.valid (c : Int) = true) : c < 55296 ∨ (57344 ≤ c ∧ c ≤ 1114111) := by
  unfold Utf8.valid at h
  simp at h
  omega
set_option maxRecDepth 100000 in
set_option maxHeartbeats 1000000 in
theorem indexRune_errO (w : World) :
    Calls Tryz.prog 122 #[.string badO, .int .i32 65533] w fun e w' => e = .returned (.int .i64 (-1)) ∧ Below w.heap.size w w' := by
  go_enter Tryz.func122, Tryz.ntmps122
  go_wp2
  go_loopw [5] (fun _ w' => ∃ pos : Nat, pos ≤ 4 ∧ w' = w.iter badO pos) (fun _ w' => 4 - w'.iterPos w.heap.size)
  case atStart => exact ⟨0, by omega, rfl⟩
  case round =>
    obtain ⟨pos, hp7, rfl⟩ := hrel
    by_cases hp : pos < badO.size
    · have hnx : ∀ ty, (Instr.next (.pointer (some ⟨w.heap.size, 0, none⟩)) true ty).run Tryz.prog (w.iter badO pos) = _ := fun ty => run_next_any w badO pos ty hp
      have hd : Utf8.decode badO pos = ((badO[pos]'hp).toNat, 1) := decode_ascii badO pos hp (by
        have h7 : pos < 4 := hp
        have : pos = 0 ∨ pos = 1 ∨ pos = 2 ∨ pos = 3 := by omega
        rcases this with rfl | rfl | rfl | rfl <;> exact of_decide_eq_true rfl)
      have hb := (badO[pos]'hp).toNat_lt
      have q1 : (((Utf8.decode badO pos).1 : Int) == 65533) = false := by rw [hd, beq_eq_false_iff_ne]; simp only []; omega
      have hw : (Utf8.decode badO pos).2 = 1 := by rw [hd]
      have h7 : pos < 4 := hp
      have HW := Lib.hid hw
      clear hd hw
      go_wp2
      go_roundw
      case rel => exact ⟨pos + 1, by omega, by rw [HW.out]⟩
      case measure => simp; have := HW.out; omega
    · have hnx : ∀ ty, (Instr.next (.pointer (some ⟨w.heap.size, 0, none⟩)) true ty).run Tryz.prog (w.iter badO pos) = _ := fun ty => run_next_end w badO pos ty hp
      go_wp2
      go_ret
      exact ⟨rfl, (Below.refl _ _).alloc (Nat.le_refl _) _⟩
set_option maxRecDepth 1000000 in
set_option maxHeartbeats 1000000 in
theorem indexRune_badO (c : Nat) (w : World) (h1 : 128 ≤ c) (h3 : c ≠ 65533) (hr : Lib.validRune (c : Int) = false) :
    Calls Tryz.prog 122 #[.string ⟨#[60, 62, 10, 0]⟩, .int .i32 c] w fun e w' => e = .returned (.int .i64 (-1)) ∧ Below w.heap.size w w' := by
  have q0 : decide ((0 : Int) ≤ (c : Int)) = true := decide_eq_true (by omega)
  have q1 : decide ((c : Int) < 128) = false := decide_eq_false (by omega)
  have q2 : ((c : Int) == 65533) = false := by rw [beq_eq_false_iff_ne]; omega
  have hv : Calls Tryz.prog 132 #[.int .i32 c] w fun e w' => e = .returned (.bool false) ∧ w = w' := (Tryz.utf8_ValidRune (c : Int) w).mono fun _ _ ⟨h1, h2⟩ => ⟨by rw [h1, hr], h2.symm⟩
  go_enter Tryz.func122, Tryz.ntmps122
  go_wp2_with (go_at_call 132; refine hv.mono ?_; rintro e w' ⟨rfl, rfl⟩)
  go_ret
  exact ⟨rfl, Below.refl _ _⟩
set_option maxRecDepth 1000000 in
set_option maxHeartbeats 1000000 in
theorem indexRune_h2O (c : Nat) (w : World) (h1 : 128 ≤ c) (h3 : c ≠ 65533) (hr : Lib.validRune (c : Int) = true) (rs : ByteArray) (hrs : Utf8.encode (c : Int) = rs) (hn : rs.size = 2) (g2 : 1 < rs.size) (hb : 128 ≤ (rs[1]'g2).toNat) :
    Calls Tryz.prog 122 #[.string ⟨#[60, 62, 10, 0]⟩, .int .i32 c] w fun e w' => e = .returned (.int .i64 (-1)) ∧ Below w.heap.size w w' := by
  have q0 : decide ((0 : Int) ≤ (c : Int)) = true := decide_eq_true (by omega)
  have q1 : decide ((c : Int) < 128) = false := decide_eq_false (by omega)
  have q2 : ((c : Int) == 65533) = false := by rw [beq_eq_false_iff_ne]; omega
  have hv : Calls Tryz.prog 132 #[.int .i32 c] w fun e w' => e = .returned (.bool true) ∧ w = w' := (Tryz.utf8_ValidRune (c : Int) w).mono fun _ _ ⟨h1, h2⟩ => ⟨by rw [h1, hr], h2.symm⟩
  have r1 : (!((62 : Int) == ((rs[1]'g2).toNat : Int))) = true := by
    have : ((62 : Int) == ((rs[1]'g2).toNat : Int)) = false := by rw [beq_eq_false_iff_ne]; omega
    rw [this]; rfl
  have r2 : ((((⟨#[60, 62, 10, 0]⟩ : ByteArray)[1]'(by decide)).toNat : Int) != ((rs[1]'g2).toNat : Int)) = true := r1
  obtain ⟨t, ht⟩ : ∃ t : ByteArray, (⟨#[60, 62, 10, 0]⟩ : ByteArray).extract 2 4 = t := ⟨_, rfl⟩
  have hix : ∀ w', Calls Tryz.prog 43 #[.string t, .int .u8 ((rs[1]'g2).toNat : Int)] w' fun e w'' => e = .returned (.int .i64 (-1)) ∧ w'' = w' := fun w' => by
    have := Tryz.strings_IndexByte t ((rs[1]'g2).toNat : Int) w'
    rw [Int.toNat_natCast, show ((rs[1]'g2).toNat).toUInt8 = rs[1]'g2 by simp, ← ht, show ((⟨#[60, 62, 10, 0]⟩ : ByteArray).extract 2 4).data.toList = badO.data.toList.drop 2 from Lib.ext_list badO 2, idxByte_high _ _ (notBad _ hb 2), ht] at this
    exact this
  have HIX := Lib.hid hix
  clear hix hr h3 hb
  go_enter Tryz.func122, Tryz.ntmps122
  go_wp2_with (go_at_call 132; refine hv.mono ?_; rintro e w' ⟨rfl, rfl⟩)
  go_step3
  go_wp2
  go_loop [9, 10] (fun i f => i = .int .i64 1 ∧ f = .int .i64 0) (fun _ _ => 0)
  case atStart => exact ⟨rfl, rfl⟩
  case round =>
  obtain ⟨rfl, rfl⟩ := hrel
  clear hv
  go_wp2
  go_step3
  go_wp2
  go_quiet (fail)
  go_wp2
  have hB1 : Below w.heap.size w (w.drewN nq) := Below.drewN (Below.refl _ _) nq
  generalize w.drewN nq = w1 at hB1 ⊢
  go_quiet ((go_at_call 43; exact Calls.quiet_of_same (HIX.out _)))
  go_wp2
  simp only [Exit.noGoto_ret]
  go_wp2
  simp only [Exit.noGoto_ret]
  go_ret
  exact ⟨rfl, Below.drewN hB1 _⟩
set_option maxRecDepth 1000000 in
set_option maxHeartbeats 1000000 in
theorem indexRune_h3O (c : Nat) (w : World) (h1 : 128 ≤ c) (h3 : c ≠ 65533) (hr : Lib.validRune (c : Int) = true) (rs : ByteArray) (hrs : Utf8.encode (c : Int) = rs) (hn : rs.size = 3) (g2 : 2 < rs.size) (hb : 128 ≤ (rs[2]'g2).toNat) :
    Calls Tryz.prog 122 #[.string ⟨#[60, 62, 10, 0]⟩, .int .i32 c] w fun e w' => e = .returned (.int .i64 (-1)) ∧ Below w.heap.size w w' := by
  have q0 : decide ((0 : Int) ≤ (c : Int)) = true := decide_eq_true (by omega)
  have q1 : decide ((c : Int) < 128) = false := decide_eq_false (by omega)
  have q2 : ((c : Int) == 65533) = false := by rw [beq_eq_false_iff_ne]; omega
  have hv : Calls Tryz.prog 132 #[.int .i32 c] w fun e w' => e = .returned (.bool true) ∧ w = w' := (Tryz.utf8_ValidRune (c : Int) w).mono fun _ _ ⟨h1, h2⟩ => ⟨by rw [h1, hr], h2.symm⟩
  have r1 : (!((10 : Int) == ((rs[2]'g2).toNat : Int))) = true := by
    have : ((10 : Int) == ((rs[2]'g2).toNat : Int)) = false := by rw [beq_eq_false_iff_ne]; omega
    rw [this]; rfl
  have r2 : ((((⟨#[60, 62, 10, 0]⟩ : ByteArray)[2]'(by decide)).toNat : Int) != ((rs[2]'g2).toNat : Int)) = true := r1
  obtain ⟨t, ht⟩ : ∃ t : ByteArray, (⟨#[60, 62, 10, 0]⟩ : ByteArray).extract 3 4 = t := ⟨_, rfl⟩
  have hix : ∀ w', Calls Tryz.prog 43 #[.string t, .int .u8 ((rs[2]'g2).toNat : Int)] w' fun e w'' => e = .returned (.int .i64 (-1)) ∧ w'' = w' := fun w' => by
    have := Tryz.strings_IndexByte t ((rs[2]'g2).toNat : Int) w'
    rw [Int.toNat_natCast, show ((rs[2]'g2).toNat).toUInt8 = rs[2]'g2 by simp, ← ht, show ((⟨#[60, 62, 10, 0]⟩ : ByteArray).extract 3 4).data.toList = badO.data.toList.drop 3 from Lib.ext_list badO 3, idxByte_high _ _ (notBad _ hb 3), ht] at this
    exact this
  have HIX := Lib.hid hix
  clear hix hr h3 hb
  go_enter Tryz.func122, Tryz.ntmps122
  go_wp2_with (go_at_call 132; refine hv.mono ?_; rintro e w' ⟨rfl, rfl⟩)
  go_step3
  go_wp2
  go_loop [9, 10] (fun i f => i = .int .i64 2 ∧ f = .int .i64 0) (fun _ _ => 0)
  case atStart => exact ⟨rfl, rfl⟩
  case round =>
  obtain ⟨rfl, rfl⟩ := hrel
  clear hv
  go_wp2
  go_step3
  go_wp2
  go_quiet (fail)
  go_wp2
  have hB1 : Below w.heap.size w (w.drewN nq) := Below.drewN (Below.refl _ _) nq
  generalize w.drewN nq = w1 at hB1 ⊢
  go_quiet ((go_at_call 43; exact Calls.quiet_of_same (HIX.out _)))
  go_wp2
  simp only [Exit.noGoto_ret]
  go_wp2
  simp only [Exit.noGoto_ret]
  go_ret
  exact ⟨rfl, Below.drewN hB1 _⟩
set_option maxRecDepth 1000000 in
set_option maxHeartbeats 1000000 in
theorem indexRune_h4O (c : Nat) (w : World) (h1 : 128 ≤ c) (h3 : c ≠ 65533) (hr : Lib.validRune (c : Int) = true) (rs : ByteArray) (hrs : Utf8.encode (c : Int) = rs) (hn : rs.size = 4) (g2 : 3 < rs.size) (hb : 128 ≤ (rs[3]'g2).toNat) :
    Calls Tryz.prog 122 #[.string ⟨#[60, 62, 10, 0]⟩, .int .i32 c] w fun e w' => e = .returned (.int .i64 (-1)) ∧ Below w.heap.size w w' := by
  have q0 : decide ((0 : Int) ≤ (c : Int)) = true := decide_eq_true (by omega)
  have q1 : decide ((c : Int) < 128) = false := decide_eq_false (by omega)
  have q2 : ((c : Int) == 65533) = false := by rw [beq_eq_false_iff_ne]; omega
  have hv : Calls Tryz.prog 132 #[.int .i32 c] w fun e w' => e = .returned (.bool true) ∧ w = w' := (Tryz.utf8_ValidRune (c : Int) w).mono fun _ _ ⟨h1, h2⟩ => ⟨by rw [h1, hr], h2.symm⟩
  have r1 : (!((0 : Int) == ((rs[3]'g2).toNat : Int))) = true := by
    have : ((0 : Int) == ((rs[3]'g2).toNat : Int)) = false := by rw [beq_eq_false_iff_ne]; omega
    rw [this]; rfl
  have r2 : ((((⟨#[60, 62, 10, 0]⟩ : ByteArray)[3]'(by decide)).toNat : Int) != ((rs[3]'g2).toNat : Int)) = true := r1
  obtain ⟨t, ht⟩ : ∃ t : ByteArray, (⟨#[60, 62, 10, 0]⟩ : ByteArray).extract 4 4 = t := ⟨_, rfl⟩
  have hix : ∀ w', Calls Tryz.prog 43 #[.string t, .int .u8 ((rs[3]'g2).toNat : Int)] w' fun e w'' => e = .returned (.int .i64 (-1)) ∧ w'' = w' := fun w' => by
    have := Tryz.strings_IndexByte t ((rs[3]'g2).toNat : Int) w'
    rw [Int.toNat_natCast, show ((rs[3]'g2).toNat).toUInt8 = rs[3]'g2 by simp, ← ht, show ((⟨#[60, 62, 10, 0]⟩ : ByteArray).extract 4 4).data.toList = badO.data.toList.drop 4 from Lib.ext_list badO 4, idxByte_high _ _ (notBad _ hb 4), ht] at this
    exact this
  have hw4 : IntKind.i64.wrap 4 = 4 := by decide
  have hsl : ∀ w', (Instr.slice 9 (.string ⟨#[60, 62, 10, 0]⟩) (some (.int .i64 4)) none none).run Tryz.prog w' = .ok (.string t) w' := fun w' => by rw [← ht]; kernel_rfl
  have HIX := Lib.hid hix
  clear hix hr h3 hb
  go_enter Tryz.func122, Tryz.ntmps122
  go_wp2_with (go_at_call 132; refine hv.mono ?_; rintro e w' ⟨rfl, rfl⟩)
  go_step3
  go_wp2
  go_loop [9, 10] (fun i f => i = .int .i64 3 ∧ f = .int .i64 0) (fun _ _ => 0)
  case atStart => exact ⟨rfl, rfl⟩
  case round =>
  obtain ⟨rfl, rfl⟩ := hrel
  clear hv
  go_wp2
  go_step3
  go_wp2
  go_quiet (fail)
  go_wp2
  have hB1 : Below w.heap.size w (w.drewN nq) := Below.drewN (Below.refl _ _) nq
  generalize w.drewN nq = w1 at hB1 ⊢
  go_quiet ((go_at_call 43; exact Calls.quiet_of_same (HIX.out _)))
  go_wp2
  simp only [Exit.noGoto_ret]
  go_wp2
  simp only [Exit.noGoto_ret]
  go_ret
  exact ⟨rfl, Below.drewN hB1 _⟩
theorem idx_contains (l : List UInt8) (c : UInt8) : decide (0 ≤ Lib.indexByte l c) = l.contains c := by
  induction l with
  | nil => rfl
  | cons b l ih =>
    unfold Lib.indexByte
    rw [List.contains_cons]
    have hge := Lib.indexByte_ge l c
    by_cases h : b = c
    · subst h; simp
    · have h1 : (b == c) = false := by simpa using h
      have h2 : (c == b) = false := by simpa using fun e => h e.symm
      rw [h1, h2, Bool.false_or, if_neg (by decide), ← ih]
      by_cases hm : Lib.indexByte l c = -1
      · rw [hm]; rfl
      · have h3 : (Lib.indexByte l c == -1) = false := by simpa using hm
        rw [h3, if_neg (by decide)]
        rw [decide_eq_decide]; omega
theorem idxRune_low (c : UInt8) (w : World) (h : c.toNat < 128) :
    Calls Tryz.prog 122 #[.string ⟨#[60, 62, 10, 0]⟩, .int .i32 (c.toNat : Int)] w fun e w' => e = .returned (.int .i64 (Lib.indexByte [60, 62, 10, 0] c)) ∧ w = w' := by
  refine (Tryz.strings_IndexRune_ascii ⟨#[60, 62, 10, 0]⟩ (c.toNat : Int) w (by omega) (by omega)).mono fun e w' ⟨h1, h2⟩ => ⟨?_, h2.symm⟩
  rw [h1, Int.toNat_natCast, show (c.toNat).toUInt8 = c by simp]
theorem idxRune_high (c : Nat) (w : World) (h1 : 128 ≤ c) (h2 : c ≤ 1114111) :
  Calls Tryz.prog 122 #[.string ⟨#[60, 62, 10, 0]⟩, .int .i32 c] w fun e w' => e = .returned (.int .i64 (-1)) ∧ Below w.heap.size w w' := by
  by_cases h3 : c = 65533
  · subst h3; exact indexRune_errO w
  by_cases hr : Lib.validRune (c : Int) = true
  · have hv2 : Utf8.valid (c : Int) = true := by
      unfold Lib.validRune at hr
      have := of_decide_eq_true hr
      unfold Utf8.valid
      simp
      omega
    obtain ⟨f1, f2, f3⟩ := encode_facts (c : Int) hv2 (by omega)
    obtain ⟨rs, hrs⟩ : ∃ rs, Utf8.encode (c : Int) = rs := ⟨_, rfl⟩
    rw [hrs] at f1 f2
    have f3 : ∀ h : rs.size - 1 < rs.size, 128 ≤ (rs[rs.size - 1]'h).toNat := by rw [← hrs]; exact f3
    have hn : rs.size = 2 ∨ rs.size = 3 ∨ rs.size = 4 := by omega
    rcases hn with hn | hn | hn
    · exact indexRune_h2O c w h1 h3 hr rs hrs hn (by omega) (by have := f3 (by omega); simpa [hn] using this)
    · exact indexRune_h3O c w h1 h3 hr rs hrs hn (by omega) (by have := f3 (by omega); simpa [hn] using this)
    · exact indexRune_h4O c w h1 h3 hr rs hrs hn (by omega) (by have := f3 (by omega); simpa [hn] using this)
  · have hr' : Lib.validRune (c : Int) = false := by simpa using hr
    exact indexRune_badO c w h1 h3 hr'
end Go.Proofs.YtdlabapfcghfmaaGreatDoor
namespace Go.Proofs.YtdlabapfcghfmaaGreatDoor
open Go.RowKit
set_option linter.unusedVariables false
set_option linter.unusedSimpArgs false

def badL : List UInt8 := [60, 62, 10, 0]
theorem badL_low (c : UInt8) (h : 128 ≤ c.toNat) : badL.contains c = false := by
  cases hc : badL.contains c
  · rfl
  · simp [badL] at hc
    rcases hc with rfl | rfl | rfl | rfl <;> revert h <;> decide
theorem getO_toList (s : ByteArray) (i : Nat) (h : i < s.size) : s.data.toList[i]? = some (s.get! i) := by
  have hl : i < s.data.toList.length := by rw [← Lib.size_eq]; exact h
  have := Lib.getD_get!' s i
  rw [List.getD_eq_getElem?_getD, List.getElem?_eq_getElem hl] at this
  rw [List.getElem?_eq_getElem hl]
  simpa using this
/-- A step of the decoder at a byte from 128 on: the rune is one too, and so are the bytes that it takes. -/
theorem decO_high (n b0 b1 b2 b3 : Nat) (h0 : 128 ≤ b0) (hn : 1 ≤ n) (h1 : b0 < 256) (h2 : b1 < 256) (h3 : b2 < 256) (h4 : b3 < 256) :
    128 ≤ (Lib.decodeN n b0 b1 b2 b3).1 ∧ (Lib.decodeN n b0 b1 b2 b3).1 ≤ 1114111 ∧ (Lib.decodeN n b0 b1 b2 b3).2 ≤ n ∧ (Lib.decodeN n b0 b1 b2 b3).2 ≤ 4 ∧ (1 < (Lib.decodeN n b0 b1 b2 b3).2 → 128 ≤ b1) ∧ (2 < (Lib.decodeN n b0 b1 b2 b3).2 → 128 ≤ b2) ∧ (3 < (Lib.decodeN n b0 b1 b2 b3).2 → 128 ≤ b3) := by
  unfold Lib.decodeN
  rw [if_neg (by omega)]
  repeat' split
  all_goals (refine ⟨?_, ?_, ?_, ?_, ?_, ?_, ?_⟩ <;> simp only [] <;> omega)
theorem decO_low (s : ByteArray) (pos : Nat) (h : pos < s.size) (ha : (s.get! pos).toNat < 128) : Utf8.decode s pos = ((s.get! pos).toNat, 1) := by
  rw [Lib.decode_at]; unfold Lib.decodeN; rw [if_pos ha]
theorem noAny_high (s : ByteArray) (pos : Nat) (h : pos < s.size) (ha : 128 ≤ (s.get! pos).toNat) (hN : Lib.NoAny s.data.toList badL pos) :
    Lib.NoAny s.data.toList badL (pos + (Utf8.decode s pos).2) ∧ pos + (Utf8.decode s pos).2 ≤ s.size ∧ 128 ≤ (Utf8.decode s pos).1 ∧ (Utf8.decode s pos).1 ≤ 1114111 := by
  have hd := decO_high (s.size - pos) (s.get! pos).toNat (s.get! (pos + 1)).toNat (s.get! (pos + 2)).toNat (s.get! (pos + 3)).toNat ha (by omega) (UInt8.toNat_lt _) (UInt8.toNat_lt _) (UInt8.toNat_lt _) (UInt8.toNat_lt _)
  rw [← Lib.decode_at] at hd
  generalize (Utf8.decode s pos).1 = c at hd ⊢
  generalize (Utf8.decode s pos).2 = m at hd ⊢
  refine ⟨fun j b hj hb => ?_, by omega, hd.1, hd.2.1⟩
  by_cases hjp : j < pos
  · exact hN j b hjp hb
  · have hlt : j < s.size := by rw [Lib.size_eq]; exact (List.getElem?_eq_some_iff.1 hb).1
    rw [getO_toList s j hlt] at hb
    injection hb with hb
    subst hb
    apply badL_low
    have : j = pos ∨ j = pos + 1 ∨ j = pos + 2 ∨ j = pos + 3 := by omega
    rcases this with rfl | rfl | rfl | rfl
    · exact ha
    · exact hd.2.2.2.2.1 (by omega)
    · exact hd.2.2.2.2.2.1 (by omega)
    · exact hd.2.2.2.2.2.2 (by omega)
def AnyPost (s : ByteArray) (w : World) (e : Ending) (w' : World) : Prop := e = .returned (.int .i64 (Lib.indexAny s.data.toList badL)) ∧ Below w.heap.size w w'
set_option maxRecDepth 1000000 in
set_option maxHeartbeats 4000000 in
theorem indexAny_short (s : ByteArray) (w : World) (h8 : s.size ≤ 8) :
    Calls Tryz.prog 106 #[.string s, .string ⟨#[60, 62, 10, 0]⟩] w (AnyPost s w) := by
  have h8z : decide ((8 : Int) < (s.size : Int)) = false := decide_eq_false (by omega)
  go_enter Tryz.func106, Tryz.ntmps106
  go_wp2_with (go_at_call 123; refine (Tryz.strings_shouldUseASCIISet (s.size : Int) _).mono ?_; rintro e w' ⟨rfl, hw⟩; rw [hw, h8z])
  have hB0 : Below w.heap.size w (w.iter s 0) := (Below.refl _ _).alloc (Nat.le_refl _) _
  have hi0 : (w.iter s 0).heap[w.heap.size]? = some (.stringIter s 0) := heap_alloc_new w _
  generalize hkk : w.heap.size = kk at *
  generalize w.iter s 0 = w0 at *
  have HKK := Lib.hid hkk
  clear hkk
  go_loopw [9, 10] (fun _ _ wr => ∃ pos : Nat, wr.heap[kk]? = some (.stringIter s pos) ∧ Below kk w wr ∧ pos ≤ s.size ∧ Lib.NoAny s.data.toList badL pos) (fun _ _ wr => s.size - wr.iterPos kk)
  case atStart => exact ⟨0, hi0, hB0, by omega, Lib.NoAny.zero _ _⟩
  case round =>
    obtain ⟨pos, hit, hB, hps, hno⟩ := hrel
    clear hi0 hB0
    have HN := Lib.hid hno
    clear hno
    by_cases hp : pos < s.size
    · obtain ⟨r, hr⟩ : ∃ r, (Utf8.decode s pos).1 = r := ⟨_, rfl⟩
      obtain ⟨m, hm⟩ : ∃ m, (Utf8.decode s pos).2 = m := ⟨_, rfl⟩
      have hm1 : 1 ≤ m := by rw [← hm]; exact Lib.decode_width_pos s pos hp
      have hnx : ∀ ty, (Instr.next (.pointer (some ⟨kk, 0, none⟩)) true ty).run Tryz.prog wr = .ok (.tuple #[.bool true, .int .i64 pos, .int .i32 r]) (wr.iterAt kk s (pos + m)) := fun ty => by rw [Lib.run_next_any_at (P := Tryz.prog) wr kk s pos ty hit hp, hr, hm]
      have hit2 := Lib.iterAt_heap wr kk s pos (pos + m) hit
      have hB2 : Below kk w (wr.iterAt kk s (pos + m)) := Lib.below_iterAt hB (Nat.le_refl _) s (pos + m)
      have hkk : kk < (wr.iterAt kk s (pos + m)).heap.size := by
        rw [Lib.iterAt_size]
        exact (Array.getElem?_eq_some_iff.1 hit).1
      by_cases ha : (s.get! pos).toNat < 128
      · have hd := decO_low s pos hp ha
        rw [hd] at hr hm
        simp only [] at hr hm
        subst hr
        subst hm
        have hcr := idxRune_low (s.get! pos) (wr.iterAt kk s (pos + 1)) ha
        have hxl := getO_toList s pos hp
        have hcon := Lib.contains_iff_indexByte badL (s.get! pos)
        cases hin : badL.contains (s.get! pos)
        · rw [hin] at hcon
          have hlt : ¬ ((0 : Int) ≤ Lib.indexByte [60, 62, 10, 0] (s.get! pos)) := of_decide_eq_false hcon.symm
          have HS := Lib.hid (HN.out.succ hxl hin)
          clear hcon hxl hin hd
          go_wp2_with (go_at_call 122; refine hcr.mono ?_; rintro e w' ⟨rfl, rfl⟩)
          go_roundw
          case rel => exact ⟨pos + 1, hit2, hB2, by omega, HS.out⟩
          case measure =>
            rw [World.iterPos, World.iterPos, hit, hit2]
            simp
            omega
        · rw [hin] at hcon
          have hge : (0 : Int) ≤ Lib.indexByte [60, 62, 10, 0] (s.get! pos) := of_decide_eq_true hcon.symm
          have HS := Lib.hid (Lib.indexAny_hit HN.out hxl hin)
          clear hcon hxl hin hd
          go_wp2_with (go_at_call 122; refine hcr.mono ?_; rintro e w' ⟨rfl, rfl⟩)
          go_ret
          unfold AnyPost
          rw [HS.out]
          exact ⟨rfl, by rw [HKK.out]; exact hB2⟩
      · obtain ⟨g1, g2, g3, g4⟩ := noAny_high s pos hp (by omega) HN.out
        rw [hm] at g1 g2
        rw [hr] at g3 g4
        have HS := Lib.hid g1
        clear hr hm g1 ha
        have hcr := idxRune_high r (wr.iterAt kk s (pos + m)) g3 g4
        go_wp2_with (go_at_call 122; refine hcr.mono ?_; rintro e w' ⟨rfl, hb⟩)
        have hit3 : w'.heap[kk]? = some (.stringIter s (pos + m)) := (hb.block kk hkk).trans hit2
        have hB3 : Below kk w w' := hB2.trans (hb.mono (Nat.le_of_lt hkk))
        go_roundw
        case rel => exact ⟨pos + m, hit3, hB3, g2, HS.out⟩
        case measure =>
          rw [World.iterPos, World.iterPos, hit, hit3]
          simp
          omega
    · obtain rfl : pos = s.size := by omega
      have hnx : ∀ ty, (Instr.next (.pointer (some ⟨kk, 0, none⟩)) true ty).run Tryz.prog wr = _ := fun ty => Lib.run_next_end_at (P := Tryz.prog) wr kk s s.size ty hit hp
      have HS := Lib.hid (Lib.indexAny_none (by rw [← Lib.size_eq]; exact HN.out))
      go_wp2
      go_ret
      unfold AnyPost
      rw [HS.out]
      exact ⟨rfl, by rw [HKK.out]; exact hB⟩
end Go.Proofs.YtdlabapfcghfmaaGreatDoor
namespace Go.Proofs.YtdlabapfcghfmaaGreatDoor
open Go.RowKit
set_option linter.unusedVariables false
set_option linter.unusedSimpArgs false

def setO : Array Value := Lib.setCells badL
theorem setO_size : setO.size = 256 := Lib.setCells_size _
theorem setO_at (x : UInt8) : setO[x.toNat]? = some (.bool (badL.contains x)) := Lib.setCells_at _ x
theorem set_info : (Tryz.prog.info? 129).map (fun i => (i.zero, i.size)) = some (some (.agg (Array.replicate 256 (.bool false))), 256) := by kernel_rfl
theorem makeSet (w : World) : Calls Tryz.prog 77 #[.string ⟨#[60, 62, 10, 0]⟩] w fun e w' => e = .returned (.tuple #[.agg setO, .bool true]) ∧ w' = w.alloc (.cells setO 129) :=
  Tryz.strings_makeASCIISet (zero_of_info set_info).1 ⟨#[60, 62, 10, 0]⟩ w (by decide) (fun j b hb => by
    have : j = 0 ∨ j = 1 ∨ j = 2 ∨ j = 3 := by
      have := (List.getElem?_eq_some_iff.1 hb).1
      simp at this; omega
    rcases this with rfl | rfl | rfl | rfl <;> (simp at hb; subst hb; decide))
set_option maxRecDepth 1000000 in
set_option maxHeartbeats 4000000 in
theorem indexAny_long (s : ByteArray) (w : World) (h8 : 8 < s.size) (hs : s.size ≤ 140737488355328) :
    Calls Tryz.prog 106 #[.string s, .string ⟨#[60, 62, 10, 0]⟩] w (AnyPost s w) := by
  have h8z : decide ((8 : Int) < (s.size : Int)) = true := decide_eq_true (by omega)
  have HM := Lib.hid (fun w => makeSet w)
  have hsc : Lib.Kept ((storeCells ⟨w.heap.size + 1, 0, none⟩ setO.toList 0).run Tryz.prog ((w.alloc (.cells setO 129)).alloc (.cells Tryz.zeroCells129 129)) = .ok () ((w.alloc (.cells setO 129)).alloc (.cells setO 129))) := by
    have h := run_storeCells_new (P := Tryz.prog) (w.alloc (.cells setO 129)) 129 Tryz.zeroCells129 setO (by rw [setO_size]; exact (zero_of_info set_info).2) (by rw [setO_size]; kernel_rfl) (Lib.setCells_one _)
    rw [show (w.alloc (.cells setO 129)).heap.size = w.heap.size + 1 by simp] at h
    exact h
  have HSZ := Lib.hid setO_size
  have HAT := Lib.hid setO_at
  go_enter Tryz.func106, Tryz.ntmps106
  go_wp2_with (first
    | (go_at_call 123; refine (Tryz.strings_shouldUseASCIISet (s.size : Int) _).mono ?_; rintro e w' ⟨rfl, hw⟩; rw [hw, h8z])
    | (go_at_call 77; refine (HM.out _).mono ?_; rintro e w1 ⟨rfl, hw1⟩))
  have hsc' : (storeCells ⟨w.heap.size + 1, 0, none⟩ setO.toList 0).run Tryz.prog ((w.alloc (.cells setO 129)).alloc (.cells Tryz.zeroCells129 129)) = .ok () ((w.alloc (.cells setO 129)).alloc (.cells setO 129)) := hsc
  rw [hsc']
  simp only [Result.andThen]
  rw [Oper.upon_skip]
  clear hsc hsc'
  have hcl : ∀ x : UInt8, ((w.alloc (.cells setO 129)).alloc (.cells setO 129)).cell? ⟨w.heap.size + 1, x.toNat, none⟩ = some (.bool (badL.contains x)) := fun x => by
    rw [World.cell?_alloc_at _ _ _ _ (by simp)]; exact setO_at x
  have hbl : Below w.heap.size w ((w.alloc (.cells setO 129)).alloc (.cells setO 129)) := ((Below.refl _ _).alloc (Nat.le_refl _) _).alloc (by simp) _
  have HC := Lib.hid hcl
  have HB := Lib.hid hbl
  generalize (w.alloc (.cells setO 129)).alloc (.cells setO 129) = w0 at *
  generalize hgg : w.heap.size + 1 = gg at *
  clear hcl hbl HAT hgg
  go_wp2
  go_loopw [8] (fun v wr => ∃ i : Nat, i ≤ s.size ∧ v = .int .i64 (i : Int) ∧ wr = w0 ∧ Lib.NoAny s.data.toList badL i) (fun v _ => s.size - (intOf v).toNat)
  case atStart => exact ⟨0, by omega, rfl, rfl, Lib.NoAny.zero _ _⟩
  case round =>
    obtain ⟨i, hi, rfl, rfl, hno⟩ := hrel
    have HN := Lib.hid hno
    clear hno
    by_cases hlt : i < s.size
    · have d0 : decide ((i : Int) < (s.size : Int)) = true := decide_eq_true (by omega)
      have hxl : s.data.toList[i]? = some (s[i]'hlt) := Lib.data_getElem? s i hlt
      have hcx := Tryz.asciiSet_contains gg (s[i]'hlt) _ wr (HC.out (s[i]'hlt))
      cases hin : badL.contains (s[i]'hlt)
      · rw [hin] at hcx
        have HS := Lib.hid (HN.out.succ hxl hin)
        clear hxl hin
        go_wp2_with (go_at_call 107; refine hcx.mono ?_; rintro e w' ⟨rfl, rfl⟩)
        go_roundw
        case rel => exact ⟨i + 1, by omega, by go_num, by first | rfl | trivial, HS.out⟩
        case measure => simp [intOf]; omega
      · rw [hin] at hcx
        have HS := Lib.hid (Lib.indexAny_hit HN.out hxl hin)
        clear hxl hin
        go_wp2_with (go_at_call 107; refine hcx.mono ?_; rintro e w' ⟨rfl, rfl⟩)
        go_ret
        unfold AnyPost
        rw [HS.out]
        exact ⟨rfl, HB.out⟩
    · obtain rfl : i = s.size := by omega
      have d0 : decide ((s.size : Int) < (s.size : Int)) = false := decide_eq_false (by omega)
      have HS := Lib.hid (Lib.indexAny_none (by rw [← Lib.size_eq]; exact HN.out))
      go_wp2
      go_ret
      unfold AnyPost
      rw [HS.out]
      exact ⟨rfl, HB.out⟩
end Go.Proofs.YtdlabapfcghfmaaGreatDoor
namespace Go.Proofs.YtdlabapfcghfmaaGreatDoor
open Go.RowKit
set_option linter.unusedVariables false
set_option linter.unusedSimpArgs false

theorem indexAny_any (s : ByteArray) (w : World) (hs : s.size ≤ 140737488355328) :
    Calls Tryz.prog 106 #[.string s, .string ⟨#[60, 62, 10, 0]⟩] w (AnyPost s w) := by
  by_cases h : 8 < s.size
  · exact indexAny_long s w h hs
  · exact indexAny_short s w (by omega)
set_option maxRecDepth 100000 in
theorem containsAny_any (s : ByteArray) (w : World) (hs : s.size ≤ 140737488355328) :
    Calls Tryz.prog 74 #[.string s, .string ⟨#[60, 62, 10, 0]⟩] w fun e w' => e = .returned (.bool (Lib.containsAny s.data.toList badL)) ∧ Below w.heap.size w w' := by
  have H := Lib.hid (indexAny_any s w hs)
  unfold Lib.containsAny
  unfold AnyPost at H
  generalize Lib.indexAny s.data.toList badL = X at *
  go_enter Tryz.func74, Tryz.ntmps74
  go_wp2_with (go_at_call 106; refine H.out.mono ?_; rintro e w1 ⟨rfl, hb⟩)
  go_ret
  exact ⟨rfl, hb⟩
/-- A text of valid characters, none of them one of those. -/
def textB (l : List UInt8) : Bool := Lib.validD l && !Lib.containsAny l badL
set_option maxRecDepth 100000 in
theorem text_any (s : ByteArray) (w : World) (hE : EnvO w) (hs : s.size ≤ 140737488355328) :
    Calls Tryz.prog 44 #[.string s, .string ⟨#[60, 62, 10, 0]⟩] w fun e w' => e = .returned (.bool (textB s.data.toList)) ∧ Below w.heap.size w w' := by
  have hv := Any.utf8_ValidString Tryz.lays196 s w (by omega) hE.tabs
  have hv : Calls Tryz.prog 73 #[.string s] w fun e w' => e = .returned (.bool (Lib.validD s.data.toList)) ∧ Below w.heap.size w w' := hv
  have HC := Lib.hid (fun w => containsAny_any s w hs)
  unfold textB
  cases h1 : Lib.validD s.data.toList
  · rw [h1] at hv
    clear h1
    go_enter Tryz.func44, Tryz.ntmps44
    go_wp2_with (go_at_call 73; refine hv.mono ?_; rintro e w1 ⟨rfl, hb1⟩)
    go_ret
    exact ⟨rfl, hb1⟩
  · rw [h1] at hv
    clear h1
    generalize Lib.containsAny s.data.toList badL = X at *
    go_enter Tryz.func44, Tryz.ntmps44
    go_wp2_with (first
      | (go_at_call 74; have hx := hb1; refine (HC.out w1).mono ?_; rintro e w2 ⟨rfl, hb2⟩)
      | (go_at_call 73; refine hv.mono ?_; rintro e w1 ⟨rfl, hb1⟩))
    go_ret
    exact ⟨by simp, hb1.trans (hb2.mono hb1.size)⟩
theorem trim_any (s : ByteArray) (w : World) (hs : s.size ≤ 9223372036854775807) :
    Calls Tryz.prog 45 #[.string s, .string ⟨#[48, 49, 50, 51, 52, 53, 54, 55, 56, 57]⟩] w fun e w' => e = .returned (.string ⟨(Lib.trimS s.data.toList [48, 49, 50, 51, 52, 53, 54, 55, 56, 57]).toArray⟩) ∧ Below w.heap.size w w' :=
  Any.strings_Trim_laid Tryz.lays160 (by kernel_rfl) s ⟨#[48, 49, 50, 51, 52, 53, 54, 55, 56, 57]⟩ w hs (by decide) (fun j b hb => by
    have : j < 10 := by
      have := (List.getElem?_eq_some_iff.1 hb).1
      simpa using this
    have : b ∈ ([48, 49, 50, 51, 52, 53, 54, 55, 56, 57] : List UInt8) := List.mem_of_getElem? hb
    revert this
    generalize b = b
    intro hm
    simp only [List.mem_cons, List.not_mem_nil, or_false] at hm
    rcases hm with rfl | rfl | rfl | rfl | rfl | rfl | rfl | rfl | rfl | rfl <;> decide)
end Go.Proofs.YtdlabapfcghfmaaGreatDoor
namespace Go.Proofs.YtdlabapfcghfmaaGreatDoor
set_option linter.unusedVariables false

/-- A byte that no name may have. -/
def badB (c : UInt8) : Bool := decide (c.toNat < 33) || c == 127 || [126, 94, 58, 63, 42, 91, 92].contains c
/-- A part that no name may have. -/
def partB (p : List UInt8) : Bool := p.isEmpty || p.head? == some 46 || Lib.hasSuffix p [46, 108, 111, 99, 107]
def partsL : List UInt8 → List (List UInt8)
  | [] => [[]]
  | c :: l => if c = 47 then [] :: partsL l else match partsL l with | [] => [[c]] | p :: ps => (c :: p) :: ps
def dotsB : List UInt8 → Bool
  | a :: b :: l => (a == 46 && b == 46) || (a == 64 && b == 123) || dotsB (b :: l)
  | _ => false
def validN (l : List UInt8) : Bool :=
  Lib.validD l && (decide (l.length ≤ 100) && (Lib.hasPrefix l [114, 101, 102, 115, 47] && (!l.any badB && (!(partsL l).any partB && (!dotsB l && !Lib.hasSuffix l [46])))))

theorem badB_high (c : UInt8) (h : 128 ≤ c.toNat) : badB c = false := by
  unfold badB
  have h2 : ∀ k : UInt8, k.toNat < 128 → (c == k) = false := fun k hk => by
    rw [beq_eq_false_iff_ne]; rintro rfl; omega
  simp only [List.contains_cons, List.contains_nil, Bool.or_false, Bool.or_eq_false_iff, decide_eq_false_iff_not]
  refine ⟨⟨by omega, h2 _ (by decide)⟩, h2 _ (by decide), h2 _ (by decide), h2 _ (by decide), h2 _ (by decide), h2 _ (by decide), h2 _ (by decide), h2 _ (by decide)⟩
theorem partsL_ne (l : List UInt8) : partsL l ≠ [] := by
  cases l with
  | nil => simp [partsL]
  | cons c l => rw [partsL]; split; simp; split <;> simp
theorem partsL_slash (l : List UInt8) : partsL (47 :: l) = [] :: partsL l := by rw [partsL, if_pos rfl]
theorem partsL_head (c : UInt8) (l p : List UInt8) (ps : List (List UInt8)) (h : c ≠ 47) (hp : partsL l = p :: ps) : partsL (c :: l) = (c :: p) :: ps := by rw [partsL, if_neg h, hp]
theorem partsL_app : ∀ (a l p : List UInt8) (ps : List (List UInt8)), (∀ c ∈ a, c ≠ 47) → partsL l = p :: ps → partsL (a ++ l) = (a ++ p) :: ps
  | [], l, p, ps, _, hp => hp
  | c :: a, l, p, ps, ha, hp => partsL_head c _ _ _ (ha c (by simp)) (partsL_app a l p ps (fun x hx => ha x (by simp [hx])) hp)
theorem partsL_none : ∀ (a : List UInt8), (∀ c ∈ a, c ≠ 47) → partsL a = [a]
  | [], _ => rfl
  | c :: a, ha => partsL_head c _ _ _ (ha c (by simp)) (partsL_none a (fun x hx => ha x (by simp [hx])))
/-- At a slash at place i: what stands ahead is the first part. -/
theorem partsL_cut (l : List UInt8) (i : Nat) (hi : l[i]? = some 47) (hn : ∀ j, j < i → l[j]? ≠ some 47) : partsL l = l.take i :: partsL (l.drop (i + 1)) := by
  have hl := (List.getElem?_eq_some_iff.1 hi).1
  have e : l = l.take i ++ (47 :: l.drop (i + 1)) := by
    conv => lhs; rw [← List.take_append_drop i l]
    rw [List.drop_eq_getElem_cons hl, (List.getElem?_eq_some_iff.1 hi).2]
  have hno : ∀ c ∈ l.take i, c ≠ 47 := by
    intro c hc h
    obtain ⟨j, hj, hjc⟩ := List.mem_iff_getElem.1 hc
    rw [List.length_take] at hj
    refine hn j (by omega) ?_
    rw [List.getElem_take] at hjc
    rw [List.getElem?_eq_getElem (by omega), hjc, h]
  conv => lhs; rw [e]
  rw [partsL_app _ _ [] (partsL (l.drop (i + 1))) hno (partsL_slash _), List.append_nil]

theorem partsL_le : ∀ (l : List UInt8), ∀ p ∈ partsL l, p.length ≤ l.length
  | [], p, h => by simp [partsL] at h; subst h; exact Nat.le_refl _
  | c :: l, p, h => by
    have ih := partsL_le l
    rw [partsL] at h
    split at h
    · rcases List.mem_cons.1 h with rfl | h
      · exact Nat.zero_le _
      · have := ih p h; simp only [List.length_cons]; omega
    · split at h
      · rename_i h0; exact absurd h0 (partsL_ne l)
      · rename_i q qs hq
        rcases List.mem_cons.1 h with rfl | h
        · have := ih q (by rw [hq]; simp); simp only [List.length_cons]; omega
        · have := ih p (by rw [hq]; simp [h]); simp only [List.length_cons]; omega
/-- strings.Split at a slash is these parts. -/
theorem index_slash (l : List UInt8) : (Lib.index l [47] = -1 ∧ ∀ c ∈ l, c ≠ 47) ∨ ∃ i : Nat, Lib.index l [47] = i ∧ l[i]? = some 47 ∧ ∀ j, j < i → l[j]? ≠ some 47 := by
  have occ : ∀ j, Lib.occAt l [47] j = true ↔ l[j]? = some 47 := by
    intro j
    unfold Lib.occAt
    rw [List.isPrefixOf_iff_prefix]
    constructor
    · rintro ⟨t, ht⟩
      have : (l.drop j)[0]? = some 47 := by rw [← ht]; rfl
      simpa using this
    · intro h
      have hl := (List.getElem?_eq_some_iff.1 h).1
      exact ⟨l.drop (j + 1), by rw [List.drop_eq_getElem_cons hl, (List.getElem?_eq_some_iff.1 h).2]; rfl⟩
  rcases Lib.index_spec l [47] with ⟨h1, h2⟩ | ⟨i, h1, h2, h3, h4⟩
  · refine .inl ⟨h1, fun c hc h => ?_⟩
    obtain ⟨j, hj, hjc⟩ := List.mem_iff_getElem.1 hc
    have := h2 j (by omega)
    have h5 := (occ j).2 (by rw [List.getElem?_eq_getElem hj, hjc, h])
    rw [h5] at this
    cases this
  · refine .inr ⟨i, h1, (occ i).1 h3, fun j hj h => ?_⟩
    have := h4 j hj
    rw [(occ j).2 h] at this
    cases this
theorem splitK_slash : ∀ (k : Nat) (l : List UInt8), Lib.count l [47] ≤ k → Lib.splitK [47] 0 k l = partsL l
  | 0, l, h => by
    rcases index_slash l with ⟨_, h2⟩ | ⟨i, h1, _, _⟩
    · rw [partsL_none l h2]; rfl
    · rw [Lib.count_hit (by simp) h1] at h; omega
  | k + 1, l, h => by
    unfold Lib.splitK
    rcases index_slash l with ⟨h1, h2⟩ | ⟨i, h1, h2, h3⟩
    · rw [h1, if_pos (by decide), partsL_none l h2]
    · rw [if_neg (by rw [h1, beq_iff_eq]; omega), h1, Int.toNat_natCast, splitK_slash k _ (by
        rw [Lib.count_hit (by simp) h1] at h
        simp only [List.length_singleton] at h ⊢
        omega), partsL_cut l i h2 h3]
      rfl
theorem split_slash (l : List UInt8) : Lib.split l [47] = partsL l := splitK_slash _ _ (Nat.le_refl _)
/-- "..", "@{" are found just where two such bytes stand side by side. -/
theorem index_two (a b : UInt8) : ∀ (l : List UInt8), (0 ≤ Lib.index l [a, b]) ↔ ∃ i : Nat, l[i]? = some a ∧ l[i + 1]? = some b := by
  intro l
  have occ : ∀ j, Lib.occAt l [a, b] j = true ↔ (l[j]? = some a ∧ l[j + 1]? = some b) := by
    intro j
    unfold Lib.occAt
    rw [List.isPrefixOf_iff_prefix]
    constructor
    · rintro ⟨t, ht⟩
      have h0 : (l.drop j)[0]? = some a := by rw [← ht]; rfl
      have h1 : (l.drop j)[1]? = some b := by rw [← ht]; rfl
      rw [List.getElem?_drop] at h0 h1
      exact ⟨by simpa using h0, h1⟩
    · rintro ⟨h, h'⟩
      have hl := (List.getElem?_eq_some_iff.1 h).1
      have hl' := (List.getElem?_eq_some_iff.1 h').1
      exact ⟨l.drop (j + 1 + 1), by rw [List.drop_eq_getElem_cons hl, (List.getElem?_eq_some_iff.1 h).2, List.drop_eq_getElem_cons hl', (List.getElem?_eq_some_iff.1 h').2]; rfl⟩
  rcases Lib.index_spec l [a, b] with ⟨h1, h2⟩ | ⟨i, h1, h2, h3, h4⟩
  · constructor
    · intro h; omega
    · rintro ⟨i, h5, h6⟩
      have hl := (List.getElem?_eq_some_iff.1 h5).1
      have := h2 i (by omega)
      rw [(occ i).2 ⟨h5, h6⟩] at this
      cases this
  · exact ⟨fun _ => ⟨i, (occ i).1 h3⟩, fun _ => by omega⟩
theorem dotsB_iff : ∀ (l : List UInt8), dotsB l = true ↔ ∃ i : Nat, (l[i]? = some 46 ∧ l[i + 1]? = some 46) ∨ (l[i]? = some 64 ∧ l[i + 1]? = some 123)
  | [] => by simp [dotsB]
  | [a] => by
    simp only [dotsB, Bool.false_eq_true, false_iff, not_exists]
    rintro i (⟨h, h'⟩ | ⟨h, h'⟩) <;> · simp at h'
  | a :: b :: l => by
    rw [dotsB, Bool.or_eq_true, dotsB_iff (b :: l)]
    constructor
    · rintro (h | ⟨i, h⟩)
      · refine ⟨0, ?_⟩
        simpa using h
      · exact ⟨i + 1, by simpa using h⟩
    · rintro ⟨i, h⟩
      cases i with
      | zero => left; simpa using h
      | succ i => right; exact ⟨i, by simpa using h⟩
theorem dots_contains (l : List UInt8) : dotsB l = (Lib.contains l [46, 46] || Lib.contains l [64, 123]) := by
  rw [Bool.eq_iff_iff, dotsB_iff]
  unfold Lib.contains
  rw [Bool.or_eq_true, decide_eq_true_eq, decide_eq_true_eq, index_two, index_two]
  constructor
  · rintro ⟨i, h | h⟩
    · exact .inl ⟨i, h⟩
    · exact .inr ⟨i, h⟩
  · rintro (⟨i, h⟩ | ⟨i, h⟩)
    · exact ⟨i, .inl h⟩
    · exact ⟨i, .inr h⟩

/-- A step of the decoder at a byte from 128 on: the rune is one too, and so are the bytes that it takes. -/
theorem decodeN_high (n b0 b1 b2 b3 : Nat) (h0 : 128 ≤ b0) (hn : 1 ≤ n) :
    128 ≤ (Lib.decodeN n b0 b1 b2 b3).1 ∧ (Lib.decodeN n b0 b1 b2 b3).2 ≤ n ∧ (Lib.decodeN n b0 b1 b2 b3).2 ≤ 4 ∧ (1 < (Lib.decodeN n b0 b1 b2 b3).2 → 128 ≤ b1) ∧ (2 < (Lib.decodeN n b0 b1 b2 b3).2 → 128 ≤ b2) ∧ (3 < (Lib.decodeN n b0 b1 b2 b3).2 → 128 ≤ b3) := by
  unfold Lib.decodeN
  rw [if_neg (by omega)]
  repeat' split
  all_goals (refine ⟨?_, ?_, ?_, ?_, ?_, ?_⟩ <;> simp only [] <;> omega)
/-- U+FFFD is an error's or its own three bytes'. -/
theorem decodeN_err (n b0 b1 b2 b3 : Nat) (h0 : b0 < 256) (h1 : b1 < 256) (h2 : b2 < 256) :
    ((Lib.decodeN n b0 b1 b2 b3).1 = 65533 ∧ (Lib.decodeN n b0 b1 b2 b3).2 = 1) ↔ ((Lib.decodeN n b0 b1 b2 b3).1 = 65533 ∧ (n < 3 ∨ ¬ (b0 = 239 ∧ b1 = 191 ∧ b2 = 189))) := by
  unfold Lib.decodeN
  repeat' split
  all_goals first | (simp only []; omega) | (refine iff_of_true ⟨rfl, rfl⟩ ⟨rfl, ?_⟩; omega)

section
variable (s : ByteArray)
theorem get_toList (i : Nat) (h : i < s.size) : s.data.toList[i]? = some (s.get! i) := by
  have hl : i < s.data.toList.length := by rw [← Lib.size_eq]; exact h
  have := Lib.getD_get!' s i
  rw [List.getD_eq_getElem?_getD, List.getElem?_eq_getElem hl] at this
  rw [List.getElem?_eq_getElem hl]
  simpa using this
theorem decodeL_drop (pos : Nat) : Lib.decodeL (s.data.toList.drop pos) = Utf8.decode s pos := by
  have h := Lib.tail_decode s pos 0
  rw [Nat.add_zero] at h
  rw [← h]
  unfold Lib.decodeL
  congr 1
  rw [← Lib.ext_list, Lib.mk_data]
/-- What the loop over the runes of a name comes to. -/
theorem bad_low (pos : Nat) (h : pos < s.size) (ha : (s.get! pos).toNat < 128) : (s.data.toList.drop pos).any badB = (badB (s.get! pos) || (s.data.toList.drop (pos + (Utf8.decode s pos).2)).any badB) ∧ (Utf8.decode s pos).1 = (s.get! pos).toNat ∧ (Utf8.decode s pos).2 = 1 := by
  have hl : pos < s.data.toList.length := by rw [← Lib.size_eq]; exact h
  have hg := get_toList s pos h
  have hd : Utf8.decode s pos = ((s.get! pos).toNat, 1) := by
    rw [Lib.decode_at]; unfold Lib.decodeN; rw [if_pos ha]
  rw [hd]
  refine ⟨?_, rfl, rfl⟩
  rw [List.drop_eq_getElem_cons hl, List.any_cons, (List.getElem?_eq_some_iff.1 hg).2]
theorem any_skip : ∀ (k : Nat) (l : List UInt8), (∀ j c, j < k → l[j]? = some c → badB c = false) → l.any badB = (l.drop k).any badB
  | 0, _, _ => rfl
  | k + 1, [], _ => rfl
  | k + 1, c :: l, h => by
    rw [List.any_cons, h 0 c (by omega) rfl, Bool.false_or, List.drop_succ_cons]
    exact any_skip k l (fun j c hj hc => h (j + 1) c (by omega) (by simpa using hc))
theorem bad_high (pos : Nat) (h : pos < s.size) (ha : 128 ≤ (s.get! pos).toNat) : (s.data.toList.drop pos).any badB = (s.data.toList.drop (pos + (Utf8.decode s pos).2)).any badB ∧ 128 ≤ (Utf8.decode s pos).1 := by
  have hd := decodeN_high (s.size - pos) (s.get! pos).toNat (s.get! (pos + 1)).toNat (s.get! (pos + 2)).toNat (s.get! (pos + 3)).toNat ha (by omega)
  rw [← Lib.decode_at] at hd
  generalize (Utf8.decode s pos).1 = c at hd ⊢
  generalize (Utf8.decode s pos).2 = m at hd ⊢
  refine ⟨?_, hd.1⟩
  rw [any_skip m]
  · rw [List.drop_drop]
  · intro j c hj hc
    rw [List.getElem?_drop] at hc
    have hlt : pos + j < s.size := by rw [Lib.size_eq]; exact (List.getElem?_eq_some_iff.1 hc).1
    rw [get_toList s (pos + j) hlt] at hc
    injection hc with hc
    subst hc
    apply badB_high
    have : j = 0 ∨ j = 1 ∨ j = 2 ∨ j = 3 := by omega
    rcases this with rfl | rfl | rfl | rfl
    · exact ha
    · exact hd.2.2.2.1 (by omega)
    · exact hd.2.2.2.2.1 (by omega)
    · exact hd.2.2.2.2.2 (by omega)
/-- What the document's loop over the runes comes to. -/
theorem valid_at (pos : Nat) (h : pos < s.size) : Lib.validD (s.data.toList.drop pos) = if (Utf8.decode s pos).1 = 65533 ∧ (s.size - pos < 3 ∨ (s.data.toList.drop pos).take 3 ≠ [239, 191, 189]) then false else Lib.validD (s.data.toList.drop (pos + (Utf8.decode s pos).2)) := by
  have hl : pos < s.data.toList.length := by rw [← Lib.size_eq]; exact h
  rw [Lib.validD_step _ (by intro he; have := congrArg List.length he; rw [List.length_drop] at this; simp at this; omega), decodeL_drop, List.drop_drop]
  have hd := decodeN_err (s.size - pos) (s.get! pos).toNat (s.get! (pos + 1)).toNat (s.get! (pos + 2)).toNat (s.get! (pos + 3)).toNat (UInt8.toNat_lt _) (UInt8.toNat_lt _) (UInt8.toNat_lt _)
  rw [← Lib.decode_at] at hd
  have he : ((Utf8.decode s pos).1 = 65533 ∧ (Utf8.decode s pos).2 = 1) ↔ ((Utf8.decode s pos).1 = 65533 ∧ (s.size - pos < 3 ∨ (s.data.toList.drop pos).take 3 ≠ [239, 191, 189])) := by
    rw [hd]
    refine and_congr_right fun _ => ?_
    by_cases h3 : s.size - pos < 3
    · simp [h3]
    · have e : (s.data.toList.drop pos).take 3 = [s.get! pos, s.get! (pos + 1), s.get! (pos + 2)] := by
        apply List.ext_getElem?
        intro j
        rw [List.getElem?_take]
        by_cases hj : j < 3
        · rw [if_pos hj, List.getElem?_drop, get_toList s (pos + j) (by omega)]
          have : j = 0 ∨ j = 1 ∨ j = 2 := by omega
          rcases this with rfl | rfl | rfl <;> rfl
        · rw [if_neg hj, List.getElem?_eq_none (by simp; omega)]
      rw [e]
      have u : ∀ (x : UInt8) (k : Nat) (hk : k < 256), x.toNat = k ↔ x = UInt8.ofNat k := fun x k hk => by
        constructor
        · rintro rfl; simp
        · rintro rfl; simp [Nat.mod_eq_of_lt hk]
      rw [u _ 239 (by omega), u _ 191 (by omega), u _ 189 (by omega)]
      simp only [h3, false_or, ne_eq, List.cons.injEq, and_true]
      exact Iff.rfl
  by_cases hx : (Utf8.decode s pos).1 = 65533 ∧ (Utf8.decode s pos).2 = 1
  · rw [if_pos hx, if_pos (he.1 hx)]
  · rw [if_neg hx, if_neg (fun h' => hx (he.2 h'))]
theorem valid_end (pos : Nat) (h : ¬ pos < s.size) : Lib.validD (s.data.toList.drop pos) = true := by
  rw [List.drop_eq_nil_of_le (by rw [← Lib.size_eq]; omega)]
  rfl
end
end Go.Proofs.YtdlabapfcghfmaaGreatDoor
namespace Go.Proofs.YtdlabapfcghfmaaGreatDoor
open Go.RowKit
set_option linter.unusedVariables false

theorem str_eq_data (a b : ByteArray) : (a.toList == b.toList) = (a.data.toList == b.data.toList) := by rw [Lib.toList_data, Lib.toList_data]
set_option maxRecDepth 100000 in
set_option maxHeartbeats 1000000 in
theorem utf8_any (s : ByteArray) (w : World) (hs : s.size ≤ 140737488355328) :
    Calls Tryz.prog 115 #[.string s] w fun e w' => e = .returned (.bool (Lib.validD s.data.toList)) ∧ Below w.heap.size w w' := by
  go_enter Tryz.func115, Tryz.ntmps115
  go_wp2
  go_loopw [3] (fun _ w' => ∃ pos : Nat, w' = w.iter s pos ∧ Lib.validD (s.data.toList.drop pos) = Lib.validD s.data.toList) (fun _ w' => s.size - w'.iterPos w.heap.size)
  case atStart => exact ⟨0, rfl, by rw [List.drop_zero]⟩
  case round =>
    obtain ⟨pos, rfl, hv⟩ := hrel
    have HV := Lib.hid hv
    clear hv
    by_cases hp : pos < s.size
    · have hnx : ∀ ty, (Instr.next (.pointer (some ⟨w.heap.size, 0, none⟩)) true ty).run Tryz.prog (w.iter s pos) = _ := fun ty => run_next_any w s pos ty hp
      have hwd := Lib.decode_width_pos s pos hp
      have hva := valid_at s pos hp
      have hx : (s.extract pos (pos + 3)).toList = (s.data.toList.drop pos).take 3 := by rw [Lib.extract_toList, Nat.add_sub_cancel_left]
      by_cases hc : (Utf8.decode s pos).1 = 65533
      · have q1 : (((Utf8.decode s pos).1 : Int) == 65533) = true := by rw [hc]; rfl
        by_cases h3 : s.size - pos < 3
        · have q2 : decide ((s.size : Int) - (pos : Int) < 3) = true := decide_eq_true (by omega)
          rw [if_pos ⟨hc, .inl h3⟩, HV.out] at hva
          have HA := Lib.hid hva
          clear hva HV hx
          go_wp2
          go_ret
          rw [HA.out]
          exact ⟨rfl, (Below.refl _ _).alloc (Nat.le_refl _) _⟩
        · have q2 : decide ((s.size : Int) - (pos : Int) < 3) = false := decide_eq_false (by omega)
          by_cases h4 : (s.data.toList.drop pos).take 3 = [239, 191, 189]
          · have q3 : ((s.extract pos (pos + 3)).toList == [239, 191, 189]) = true := by rw [hx, h4]; rfl
            have q4 : (!(s.extract pos (pos + 3)).toList == [239, 191, 189]) = false := by rw [q3]; rfl
            rw [if_neg (by rintro ⟨_, h | h⟩; exact h3 h; exact h h4), HV.out] at hva
            have HA := Lib.hid hva
            clear hva HV hx h4
            go_wp2
            go_roundw
            case rel => exact ⟨pos + (Utf8.decode s pos).2, rfl, HA.out.symm⟩
            case measure => simp; omega
          · have q3 : ((s.extract pos (pos + 3)).toList == [239, 191, 189]) = false := by rw [hx, beq_eq_false_iff_ne]; exact h4
            have q4 : (!(s.extract pos (pos + 3)).toList == [239, 191, 189]) = true := by rw [q3]; rfl
            rw [if_pos ⟨hc, .inr h4⟩, HV.out] at hva
            have HA := Lib.hid hva
            clear hva HV hx h4
            go_wp2
            go_ret
            rw [HA.out]
            exact ⟨rfl, (Below.refl _ _).alloc (Nat.le_refl _) _⟩
      · have q1 : (((Utf8.decode s pos).1 : Int) == 65533) = false := by rw [beq_eq_false_iff_ne]; omega
        rw [if_neg (fun h => hc h.1), HV.out] at hva
        have HA := Lib.hid hva
        clear hva HV hx
        go_wp2
        go_roundw
        case rel => exact ⟨pos + (Utf8.decode s pos).2, rfl, HA.out.symm⟩
        case measure => simp; omega
    · have hnx : ∀ ty, (Instr.next (.pointer (some ⟨w.heap.size, 0, none⟩)) true ty).run Tryz.prog (w.iter s pos) = _ := fun ty => run_next_end w s pos ty hp
      rw [valid_end s pos hp] at HV
      go_wp2
      go_ret
      rw [← HV.out]
      exact ⟨rfl, (Below.refl _ _).alloc (Nat.le_refl _) _⟩
end Go.Proofs.YtdlabapfcghfmaaGreatDoor
namespace Go.Proofs.YtdlabapfcghfmaaGreatDoor
open Go.RowKit
set_option linter.unusedVariables false
set_option linter.unusedSimpArgs false

/-- What upto tells. -/
def UptoPost (s : ByteArray) (c : UInt8) (w : World) (e : Ending) (w' : World) : Prop :=
  Below w.heap.size w w' ∧ ((c ∉ s.data.toList ∧ e = .returned (.tuple #[.string ⟨#[]⟩, .string ⟨#[]⟩, .bool false])) ∨
    ∃ i : Nat, i < s.size ∧ s.data.toList[i]? = some c ∧ (∀ j, j < i → s.data.toList[j]? ≠ some c) ∧ e = .returned (.tuple #[.string (s.extract 0 i), .string (s.extract (i + 1) s.size), .bool true]))
set_option maxRecDepth 100000 in
theorem upto_any (s : ByteArray) (c : UInt8) (w : World) (hs : s.size ≤ 140737488355328) : Calls Tryz.prog 82 #[.string s, .int .u8 (c.toNat : Int)] w (UptoPost s c w) := by
  go_enter Tryz.func82, Tryz.ntmps82
  go_wp2
  go_loopw [7] (fun v wr => ∃ i : Nat, v = .int .i64 (i : Int) ∧ i ≤ s.size ∧ (∃ m, wr = w.drewN m) ∧ ∀ j, j < i → s.data.toList[j]? ≠ some c) (fun v _ => s.size - (intOf v).toNat)
  case atStart => exact ⟨0, rfl, by omega, ⟨0, rfl⟩, fun j h => by omega⟩
  case round =>
    obtain ⟨i, rfl, hi, ⟨m, rfl⟩, hno⟩ := hrel
    have HN := Lib.hid hno
    clear hno
    by_cases hlt : i < s.size
    · have d0 : decide ((i : Int) < (s.size : Int)) = true := decide_eq_true (by omega)
      have hx := Lib.data_getElem? s i hlt
      by_cases hc : s[i]'hlt = c
      · have q : ((((s[i]'hlt).toNat : Nat) : Int) == (c.toNat : Int)) = true := by rw [hc]; simp
        have HX : Hid (s.data.toList[i]? = some c) := Lib.hid (by rw [hx, hc])
        clear hx hc
        go_wp2
        go_quiet (fail)
        go_wp2
        go_ret3
        exact ⟨Below.drewN (Below.drewN (Below.refl _ _) _) _, .inr ⟨i, hlt, HX.out, HN.out, rfl⟩⟩
      · have q : ((((s[i]'hlt).toNat : Nat) : Int) == (c.toNat : Int)) = false := by
          rw [beq_eq_false_iff_ne]
          intro h
          exact hc (UInt8.toNat_inj.1 (by omega))
        have HS : Hid (∀ j, j < i + 1 → s.data.toList[j]? ≠ some c) := Lib.hid (fun j hj => by
          by_cases e : j = i
          · rw [e, hx]; intro h; exact hc (Option.some.inj h)
          · exact HN.out j (by omega))
        clear hx hc
        go_wp2
        go_roundw
        case rel => exact ⟨i + 1, by go_num, by omega, ⟨m, rfl⟩, HS.out⟩
        case measure => simp [intOf]; omega
    · obtain rfl : i = s.size := by omega
      have d0 : decide ((s.size : Int) < (s.size : Int)) = false := decide_eq_false (by omega)
      go_wp2
      go_ret3
      refine ⟨Below.drewN (Below.refl _ _) _, .inl ⟨fun hm => ?_, rfl⟩⟩
      obtain ⟨j, hj, e⟩ := List.mem_iff_getElem.1 hm
      exact HN.out j (by rw [Lib.size_eq]; exact hj) (by rw [List.getElem?_eq_getElem hj, e])
/-- A text of valid characters, none of its bytes one of those. -/
def withoutB (l bad : List UInt8) : Bool := Lib.validD l && !Lib.containsAny l bad
theorem withoutB_hit {l bad : List UInt8} {i : Nat} {x : UInt8} (hN : Lib.NoAny l bad i) (hx : l[i]? = some x) (hc : bad.contains x = true) : withoutB l bad = false := by
  unfold withoutB Lib.containsAny
  rw [Lib.indexAny_hit hN hx hc, decide_eq_true (by omega)]
  simp
set_option maxRecDepth 100000 in
theorem without_any (s bad : ByteArray) (w : World) (hs : s.size ≤ 140737488355328) (hbs : bad.size ≤ 100) : Calls Tryz.prog 90 #[.string s, .string bad] w fun e w' => e = .returned (.bool (withoutB s.data.toList bad.data.toList)) ∧ Below w.heap.size w w' := by
  have HU := Lib.hid (fun w => utf8_any s w hs)
  have HRES : Hid (withoutB s.data.toList bad.data.toList = withoutB s.data.toList bad.data.toList) := Lib.hid rfl
  generalize hR : withoutB s.data.toList bad.data.toList = R at *
  have HR := Lib.hid hR
  clear hR HRES
  go_enter Tryz.func90, Tryz.ntmps90
  go_wp2
  go_loopw [5, 6] (fun v _ wr => ∃ i : Nat, v = .int .i64 (i : Int) ∧ i ≤ s.size ∧ Below w.heap.size w wr ∧ Lib.NoAny s.data.toList bad.data.toList i) (fun v _ _ => s.size - (intOf v).toNat)
  case atStart => exact ⟨0, rfl, by omega, Below.refl _ _, Lib.NoAny.zero _ _⟩
  case round =>
    obtain ⟨i, rfl, hi, hB, hno⟩ := hrel
    have HN := Lib.hid hno
    have HB := Lib.hid hB
    clear hno hB
    by_cases hlt : i < s.size
    · have d0 : decide ((i : Int) < (s.size : Int)) = true := decide_eq_true (by omega)
      have hx := Lib.data_getElem? s i hlt
      have HX := Lib.hid hx
      clear hx
      go_wp2
      go_loopw [6] (fun v wx => ∃ k : Nat, v = .int .i64 (k : Int) ∧ k ≤ bad.size ∧ Below w.heap.size w wx ∧ ∀ j, j < k → bad.data.toList[j]? ≠ some (s[i]'hlt)) (fun v _ => bad.size - (intOf v).toNat)
      case atStart => exact ⟨0, rfl, by omega, HB.out, fun j h => by omega⟩
      case round =>
        obtain ⟨k, rfl, hk, hB2, hno2⟩ := hrel
        have HN2 := Lib.hid hno2
        have HB2 := Lib.hid hB2
        clear hno2 hB2
        by_cases hkl : k < bad.size
        · have d1 : decide ((k : Int) < (bad.size : Int)) = true := decide_eq_true (by omega)
          have hy := Lib.data_getElem? bad k hkl
          by_cases hc : s[i]'hlt = bad[k]'hkl
          · have q : ((((s[i]'hlt).toNat : Nat) : Int) == (((bad[k]'hkl).toNat : Nat) : Int)) = true := by rw [hc]; simp
            have HC : Hid (bad.data.toList.contains (s[i]'hlt) = true) := Lib.hid (by
              rw [List.contains_iff_mem, hc]; exact List.mem_of_getElem? hy)
            have HS := Lib.hid (HR.out.symm.trans (withoutB_hit HN.out HX.out HC.out))
            clear hy hc
            go_wp2
            go_quiet (fail)
            go_wp2
            go_ret
            exact ⟨by rw [HS.out]; rfl, Below.drewN HB2.out _⟩
          · have q : ((((s[i]'hlt).toNat : Nat) : Int) == (((bad[k]'hkl).toNat : Nat) : Int)) = false := by
              rw [beq_eq_false_iff_ne]
              intro h
              exact hc (UInt8.toNat_inj.1 (by omega))
            have HS : Hid (∀ j, j < k + 1 → bad.data.toList[j]? ≠ some (s[i]'hlt)) := Lib.hid (fun j hj => by
              by_cases e : j = k
              · rw [e, hy]; intro h; exact hc (Option.some.inj h).symm
              · exact HN2.out j (by omega))
            clear hy hc
            go_wp2
            go_quiet (fail)
            go_wp2
            go_roundw
            case rel => exact ⟨k + 1, by go_num, by omega, Below.drewN HB2.out _, HS.out⟩
            case measure => simp [intOf]; omega
        · obtain rfl : k = bad.size := by omega
          have d1 : decide ((bad.size : Int) < (bad.size : Int)) = false := decide_eq_false (by omega)
          have HS : Hid (Lib.NoAny s.data.toList bad.data.toList (i + 1)) := Lib.hid (HN.out.succ HX.out (by
            cases hc : bad.data.toList.contains (s[i]'hlt)
            · rfl
            · rw [List.contains_iff_mem] at hc
              obtain ⟨j, hj, e⟩ := List.mem_iff_getElem.1 hc
              exact absurd (by rw [List.getElem?_eq_getElem hj, e]) (HN2.out j (by rw [Lib.size_eq]; exact hj))))
          go_wp2
          go_roundw
          case rel => exact ⟨i + 1, by go_num, by omega, HB2.out, HS.out⟩
          case measure => simp [intOf]; omega
    · obtain rfl : i = s.size := by omega
      have d0 : decide ((s.size : Int) < (s.size : Int)) = false := decide_eq_false (by omega)
      have HS : Hid (R = Lib.validD s.data.toList) := Lib.hid (by
        rw [← HR.out]
        unfold withoutB Lib.containsAny
        rw [Lib.indexAny_none (by rw [← Lib.size_eq]; exact HN.out)]
        simp)
      go_wp2_with (refine (HU.out wr).mono ?_; rintro e w1 ⟨rfl, hb1⟩)
      go_ret
      exact ⟨by rw [HS.out]; rfl, HB.out.trans (hb1.mono HB.out.size)⟩
end Go.Proofs.YtdlabapfcghfmaaGreatDoor
namespace Go.Proofs.YtdlabapfcghfmaaGreatDoor
open Go.RowKit
set_option linter.unusedVariables false
set_option linter.unusedSimpArgs false

def digTen : List UInt8 := [48, 49, 50, 51, 52, 53, 54, 55, 56, 57]
/-- All of a text digits? -/
def allDig (l : List UInt8) : Bool := (Lib.trimS l digTen).toArray.toList == []
/-- What stands behind the mail: a blank, the time, a blank, the zone. -/
def timeB (z : ByteArray) : Bool :=
  decide (8 ≤ z.size) && decide (z.size ≤ 19) && (z.get! 0 == 32) && (z.get! (z.size - 6) == 32) && (z.get! (z.size - 5) == 43 || z.get! (z.size - 5) == 45) &&
  allDig ((z.extract 1 (z.size - 6)).data.toList ++ (z.extract (z.size - 4) z.size).data.toList) && ((z.extract 1 (z.size - 6)).toList == [48] || !(z.get! 1 == 48))
/-- What stands behind the name. -/
def mailB (y : ByteArray) : Bool :=
  match Lib.indexByte y.data.toList 62 with
  | .ofNat j => textB (y.extract 0 j).data.toList && timeB (y.extract (j + 1) y.size)
  | .negSucc _ => false
/-- Does a text tell who and when? -/
def persB (s : ByteArray) : Bool :=
  match Lib.indexByte s.data.toList 60 with
  | .ofNat i => decide (1 ≤ i) && (s.get! (i - 1) == 32) && textB (s.extract 0 (i - 1)).data.toList && mailB (s.extract (i + 1) s.size)
  | .negSucc _ => false
def PersPost (b : Bool) (w : World) (e : Ending) (w' : World) : Prop := e = .returned (.bool b) ∧ Below w.heap.size w w'
theorem get_eq (s : ByteArray) (i : Nat) (h : i < s.size) : s[i]'h = s.get! i := by
  have h1 := getO_toList s i h
  have h2 := Lib.data_getElem? s i h
  rw [h2] at h1
  exact Option.some.inj h1
theorem byte_is (s : ByteArray) (i : Nat) (h : i < s.size) (c : UInt8) : (((s[i]'h).toNat : Int) == (c.toNat : Int)) = (s.get! i == c) := by
  rw [get_eq]
  generalize s.get! i = x
  by_cases e : x = c
  · subst e; simp
  · have : (x == c) = false := by simpa using e
    rw [this, beq_eq_false_iff_ne]
    intro hh
    exact e (UInt8.toNat_inj.1 (by omega))
theorem pers_ex : persB ⟨#[65, 32, 60, 97, 62, 32, 49, 32, 43, 48, 48, 48, 48]⟩ = true ∧ persB ⟨#[65, 32, 60, 97, 62, 32, 48, 49, 32, 43, 48, 48, 48, 48]⟩ = false := by
  refine ⟨by kernel_rfl, by kernel_rfl⟩
set_option maxRecDepth 1000000 in
set_option maxHeartbeats 4000000 in
theorem person_any (s : ByteArray) (w : World) (hE : EnvO w) (hs : s.size ≤ 140737488355000) : Calls Tryz.prog 18 #[.string s] w (PersPost (persB s) w) := by
  have HE := Lib.hid hE
  have hi := fun w' => Tryz.strings_IndexByte s 60 w'
  have HP : Hid (persB s = (match Lib.indexByte s.data.toList 60 with
    | .ofNat i => decide (1 ≤ i) && (s.get! (i - 1) == 32) && textB (s.extract 0 (i - 1)).data.toList && mailB (s.extract (i + 1) s.size)
    | .negSucc _ => false)) := Lib.hid rfl
  rw [show (60 : Int).toNat.toUInt8 = 60 from rfl] at hi
  generalize persB s = PB at *
  cases hix : Lib.indexByte s.data.toList 60 with
  | negSucc k =>
    rw [hix] at hi HP
    have hneg : (Int.negSucc k) < 1 := by omega
    have hp := HP.out
    simp only [] at hp
    subst hp
    clear HP hix
    generalize Int.negSucc k = X at *
    go_enter Tryz.func18, Tryz.ntmps18
    go_wp2_with (go_at_call 43; refine (hi _).mono ?_; rintro e w1 ⟨rfl, rfl⟩)
    go_ret
    exact ⟨rfl, Below.refl _ _⟩
  | ofNat i =>
    have hil : i < s.size := by
      have h := (Lib.indexByte_some (o := i) hix).1
      rw [Lib.size_eq]; exact (List.getElem?_eq_some_iff.1 h).1
    rw [hix] at hi HP
    have hi : ∀ w', Calls Tryz.prog 43 #[.string s, .int .u8 60] w' fun e w'' => e = .returned (.int .i64 (i : Int)) ∧ w'' = w' := hi
    clear hix
    by_cases h1 : 1 ≤ i
    · obtain ⟨k, rfl⟩ : ∃ k, i = k + 1 := ⟨i - 1, by omega⟩
      have hk : k < s.size := by omega
      have hn1 : decide ((k : Int) + 1 < 1) = false := decide_eq_false (by omega)
      have HP : Hid (PB = ((s.get! k == 32) && textB (s.extract 0 k).data.toList && mailB (s.extract (k + 1 + 1) s.size))) := Lib.hid (by
        have h := HP.out
        simp only [] at h
        rw [h, decide_eq_true h1, Bool.true_and]
        rfl)
      have hq := byte_is s k hk 32
      rw [show (((32 : UInt8).toNat : Nat) : Int) = 32 from rfl] at hq
      have hq : (((s[k]'hk).toNat : Int) != 32) = !(s.get! k == 32) := by rw [← hq]; rfl
      cases hb : (s.get! k == 32)
      · rw [hb] at hq HP
        have hp := HP.out
        simp only [Bool.false_and] at hp
        subst hp
        clear HP hb h1
        go_enter Tryz.func18, Tryz.ntmps18
        go_wp2_with (go_at_call 43; refine (hi _).mono ?_; rintro e w1 ⟨rfl, rfl⟩)
        go_ret
        exact ⟨rfl, Below.refl _ _⟩
      · rw [hb] at hq HP
        have hp := HP.out
        simp only [Bool.true_and] at hp
        have HP := Lib.hid hp
        clear hp hb h1
        obtain ⟨t, ht⟩ : ∃ t, s.extract 0 k = t := ⟨_, rfl⟩
        have hts : t.size ≤ 140737488355000 := by rw [← ht, ByteArray.size_extract]; omega
        have hT := fun w' hE' => text_any t w' hE' (by omega)
        rw [ht] at HP
        obtain ⟨y, hy⟩ : ∃ y, s.extract (k + 1 + 1) s.size = y := ⟨_, rfl⟩
        have hys : y.size ≤ 140737488355000 := by rw [← hy, ByteArray.size_extract]; omega
        rw [hy] at HP
        have HT := Lib.hid hT
        clear hT
        cases hb : textB t.data.toList
        · rw [hb] at HP HT
          have hp := HP.out
          simp only [Bool.false_and] at hp
          subst hp
          clear HP hb
          go_enter Tryz.func18, Tryz.ntmps18
          go_wp2_with (first
            | (go_at_call 44; refine (HT.out _ HE.out).mono ?_; rintro e w2 ⟨rfl, hb2⟩)
            | (go_at_call 43; refine (hi _).mono ?_; rintro e w1 ⟨rfl, rfl⟩))
          go_ret
          exact ⟨rfl, hb2⟩
        · rw [hb] at HP HT
          have hp := HP.out
          simp only [Bool.true_and] at hp
          have HP := Lib.hid hp
          clear hp hb
          go_enter Tryz.func18, Tryz.ntmps18
          have HPM : Hid (PB = mailB y) := HP
          have hj := fun w' => Tryz.strings_IndexByte y 62 w'
          rw [show (62 : Int).toNat.toUInt8 = 62 from rfl] at hj
          have HPM := HPM.out
          unfold mailB at HPM
          have HP := Lib.hid HPM
          clear HPM
          cases hix : Lib.indexByte y.data.toList 62 with
          | negSucc m =>
            rw [hix] at hj HP
            have hneg : (Int.negSucc m) < 0 := by omega
            have hp := HP.out
            simp only [] at hp
            subst hp
            clear HP hix
            generalize Int.negSucc m = X at *
            go_wp2_with (first
              | (go_at_call 43; have hx2 := hb2; refine (hj _).mono ?_; rintro e w3 ⟨rfl, rfl⟩)
              | (go_at_call 44; refine (HT.out _ HE.out).mono ?_; rintro e w2 ⟨rfl, hb2⟩)
              | (go_at_call 43; refine (hi _).mono ?_; rintro e w1 ⟨rfl, rfl⟩))
            go_ret
            exact ⟨rfl, hb2⟩
          | ofNat j =>
            have hjl : j < y.size := by
              have h := (Lib.indexByte_some (o := j) hix).1
              rw [Lib.size_eq]; exact (List.getElem?_eq_some_iff.1 h).1
            rw [hix] at hj HP
            have hj : ∀ w', Calls Tryz.prog 43 #[.string y, .int .u8 62] w' fun e w'' => e = .returned (.int .i64 (j : Int)) ∧ w'' = w' := hj
            clear hix
            have hj0 : ¬ ((j : Int) < 0) := by omega
            obtain ⟨t2, ht2⟩ : ∃ t2, y.extract 0 j = t2 := ⟨_, rfl⟩
            have hts2 : t2.size ≤ 140737488355000 := by rw [← ht2, ByteArray.size_extract]; omega
            have HT2 := Lib.hid (fun w' hE' => text_any t2 w' hE' (by omega))
            obtain ⟨z, hz⟩ : ∃ z, y.extract (j + 1) y.size = z := ⟨_, rfl⟩
            have hzs : z.size ≤ 140737488355000 := by rw [← hz, ByteArray.size_extract]; omega
            have hp := HP.out
            simp only [] at hp
            rw [ht2, hz] at hp
            have HP := Lib.hid hp
            clear hp
            cases hb : textB t2.data.toList
            · rw [hb] at HP HT2
              have hp := HP.out
              simp only [Bool.false_and] at hp
              subst hp
              clear HP hb
              go_wp2_with (first
                | (go_at_call 44; have hx2 := hb2; refine (HT2.out _ (HE.out.below hb2)).mono ?_; rintro e w4 ⟨rfl, hb4⟩)
                | (go_at_call 43; have hx2 := hb2; refine (hj _).mono ?_; rintro e w3 ⟨rfl, rfl⟩)
                | (go_at_call 44; refine (HT.out _ HE.out).mono ?_; rintro e w2 ⟨rfl, hb2⟩)
                | (go_at_call 43; refine (hi _).mono ?_; rintro e w1 ⟨rfl, rfl⟩))
              go_ret
              exact ⟨rfl, hb2.trans (hb4.mono hb2.size)⟩
            · rw [hb] at HP HT2
              have hp := HP.out
              simp only [Bool.true_and] at hp
              have HP := Lib.hid hp
              clear hp hb
              unfold timeB at HP
              by_cases h8 : 8 ≤ z.size
              · by_cases h19 : z.size ≤ 19
                · obtain ⟨n, hn⟩ : ∃ n, z.size = n + 7 := ⟨z.size - 7, by omega⟩
                  have hp := HP.out
                  rw [decide_eq_true h8, decide_eq_true h19, hn, show n + 7 - 6 = n + 1 by omega, show n + 7 - 5 = n + 2 by omega, show n + 7 - 4 = n + 3 by omega] at hp
                  simp only [Bool.true_and] at hp
                  have hn1 : 1 ≤ n := by omega
                  have hn12 : n ≤ 12 := by omega
                  have m1 : decide ((n : Int) < 1) = false := decide_eq_false (by omega)
                  have m2 : decide (12 < (n : Int)) = false := decide_eq_false (by omega)
                  have g0 : 0 < z.size := by omega
                  have g1 : n + 1 < z.size := by omega
                  have g2 : n + 2 < z.size := by omega
                  have q0 : (((z[0]'g0).toNat : Int) != 32) = !(z.get! 0 == 32) := by rw [← byte_is z 0 g0 32]; rfl
                  have q1 : (((z[n + 1]'g1).toNat : Int) != 32) = !(z.get! (n + 1) == 32) := by rw [← byte_is z (n + 1) g1 32]; rfl
                  have q2 : (((z[n + 2]'g2).toNat : Int) != 43) = !(z.get! (n + 2) == 43) := by rw [← byte_is z (n + 2) g2 43]; rfl
                  have q3 : (((z[n + 2]'g2).toNat : Int) != 45) = !(z.get! (n + 2) == 45) := by rw [← byte_is z (n + 2) g2 45]; rfl
                  clear h8 h19 HP
                  cases c0 : (z.get! 0 == 32)
                  · rw [c0] at q0 hp
                    simp only [Bool.false_and] at hp
                    subst hp
                    clear c0 q1 q2 q3
                    go_wp2_with (first
                      | (go_at_call 44; have hx2 := hb2; refine (HT2.out _ (HE.out.below hb2)).mono ?_; rintro e w4 ⟨rfl, hb4⟩)
                      | (go_at_call 43; have hx2 := hb2; refine (hj _).mono ?_; rintro e w3 ⟨rfl, rfl⟩)
                      | (go_at_call 44; refine (HT.out _ HE.out).mono ?_; rintro e w2 ⟨rfl, hb2⟩)
                      | (go_at_call 43; refine (hi _).mono ?_; rintro e w1 ⟨rfl, rfl⟩))
                    go_ret
                    exact ⟨rfl, hb2.trans (hb4.mono hb2.size)⟩
                  · rw [c0] at q0 hp
                    simp only [Bool.true_and] at hp
                    clear c0
                    cases c1 : (z.get! (n + 1) == 32)
                    · rw [c1] at q1 hp
                      simp only [Bool.false_and] at hp
                      subst hp
                      clear c1 q2 q3
                      go_wp2_with (first
                        | (go_at_call 44; have hx2 := hb2; refine (HT2.out _ (HE.out.below hb2)).mono ?_; rintro e w4 ⟨rfl, hb4⟩)
                        | (go_at_call 43; have hx2 := hb2; refine (hj _).mono ?_; rintro e w3 ⟨rfl, rfl⟩)
                        | (go_at_call 44; refine (HT.out _ HE.out).mono ?_; rintro e w2 ⟨rfl, hb2⟩)
                        | (go_at_call 43; refine (hi _).mono ?_; rintro e w1 ⟨rfl, rfl⟩))
                      go_ret
                      exact ⟨rfl, hb2.trans (hb4.mono hb2.size)⟩
                    · rw [c1] at q1 hp
                      simp only [Bool.true_and] at hp
                      clear c1
                      cases c2 : (z.get! (n + 2) == 43)
                      · rw [c2] at q2 hp
                        simp only [Bool.false_or] at hp
                        clear c2
                        cases c3 : (z.get! (n + 2) == 45)
                        · rw [c3] at q3 hp
                          simp only [Bool.false_and] at hp
                          subst hp
                          clear c3
                          go_wp2_with (first
                            | (go_at_call 44; have hx2 := hb2; refine (HT2.out _ (HE.out.below hb2)).mono ?_; rintro e w4 ⟨rfl, hb4⟩)
                            | (go_at_call 43; have hx2 := hb2; refine (hj _).mono ?_; rintro e w3 ⟨rfl, rfl⟩)
                            | (go_at_call 44; refine (HT.out _ HE.out).mono ?_; rintro e w2 ⟨rfl, hb2⟩)
                            | (go_at_call 43; refine (hi _).mono ?_; rintro e w1 ⟨rfl, rfl⟩))
                          go_ret
                          exact ⟨rfl, hb2.trans (hb4.mono hb2.size)⟩
                        · rw [c3] at q3 hp
                          simp only [Bool.true_and] at hp
                          clear c3
                          obtain ⟨d, hd⟩ : ∃ d, z.extract 1 (n + 1) = d := ⟨_, rfl⟩
                          obtain ⟨q, hqq⟩ : ∃ q, z.extract (n + 3) (n + 7) = q := ⟨_, rfl⟩
                          have hds : d.size = n := by rw [← hd, ByteArray.size_extract]; omega
                          have hqs : q.size = 4 := by rw [← hqq, ByteArray.size_extract]; omega
                          obtain ⟨t5, ht5⟩ : ∃ t5 : ByteArray, (⟨(Lib.trimS (d ++ q).data.toList digTen).toArray⟩ : ByteArray) = t5 := ⟨_, rfl⟩
                          have hdq : (d ++ q).size ≤ 9223372036854775807 := by rw [ByteArray.size_append]; omega
                          have HTR : Hid (∀ w', Calls Tryz.prog 45 #[.string (d ++ q), .string ⟨#[48, 49, 50, 51, 52, 53, 54, 55, 56, 57]⟩] w' fun e w'' => e = .returned (.string t5) ∧ Below w'.heap.size w' w'') := Lib.hid (fun w' => by
                            have h := trim_any (d ++ q) w' hdq
                            rw [show ([48, 49, 50, 51, 52, 53, 54, 55, 56, 57] : List UInt8) = digTen from rfl, ht5] at h
                            exact h)
                          have hA : allDig (d.data.toList ++ q.data.toList) = t5.toList.isEmpty := by
                            rw [← ht5, Lib.toList_data]
                            unfold allDig
                            rw [show (d ++ q).data.toList = d.data.toList ++ q.data.toList by rw [ByteArray.data_append, Array.toList_append]]
                            show ((Lib.trimS (d.data.toList ++ q.data.toList) digTen).toArray.toList == []) = (Lib.trimS (d.data.toList ++ q.data.toList) digTen).toArray.toList.isEmpty
                            generalize (Lib.trimS (d.data.toList ++ q.data.toList) digTen).toArray.toList = L
                            cases L <;> rfl
                          have hd0 : 0 < d.size := by omega
                          have q5 : (((d[0]'hd0).toNat : Int) != 48) = !(z.get! 1 == 48) := by
                            rw [← byte_is z 1 (by omega) 48]
                            have e : d[0]'hd0 = z[1]'(by omega) := by
                              subst hd
                              exact ByteArray.getElem_extract hd0
                            rw [e]; rfl
                          rw [hd, hqq, hA] at hp
                          clear hA ht5 hdq
                          cases c4 : t5.toList.isEmpty
                          · rw [c4] at hp
                            simp only [Bool.false_and] at hp
                            subst hp
                            go_wp2_with (first
                              | (go_at_call 45; have hx4 := hb4; refine (HTR.out w4).mono ?_; rintro e w5 ⟨rfl, hb5⟩)
                              | (go_at_call 44; have hx2 := hb2; refine (HT2.out _ (HE.out.below hb2)).mono ?_; rintro e w4 ⟨rfl, hb4⟩)
                              | (go_at_call 43; have hx2 := hb2; refine (hj _).mono ?_; rintro e w3 ⟨rfl, rfl⟩)
                              | (go_at_call 44; refine (HT.out _ HE.out).mono ?_; rintro e w2 ⟨rfl, hb2⟩)
                              | (go_at_call 43; refine (hi _).mono ?_; rintro e w1 ⟨rfl, rfl⟩))
                            go_ret
                            exact ⟨rfl, (hb2.trans (hb4.mono hb2.size)).trans (hb5.mono (Nat.le_trans hb2.size hb4.size))⟩
                          · rw [c4] at hp
                            simp only [Bool.true_and] at hp
                            cases c5 : (d.toList == [48])
                            · rw [c5] at hp
                              simp only [Bool.false_or] at hp
                              subst hp
                              cases c6 : (z.get! 1 == 48)
                              · rw [c6] at q5
                                clear c6
                                go_wp2_with (first
                                  | (go_at_call 45; have hx4 := hb4; refine (HTR.out w4).mono ?_; rintro e w5 ⟨rfl, hb5⟩)
                                  | (go_at_call 44; have hx2 := hb2; refine (HT2.out _ (HE.out.below hb2)).mono ?_; rintro e w4 ⟨rfl, hb4⟩)
                                  | (go_at_call 43; have hx2 := hb2; refine (hj _).mono ?_; rintro e w3 ⟨rfl, rfl⟩)
                                  | (go_at_call 44; refine (HT.out _ HE.out).mono ?_; rintro e w2 ⟨rfl, hb2⟩)
                                  | (go_at_call 43; refine (hi _).mono ?_; rintro e w1 ⟨rfl, rfl⟩))
                                go_ret
                                exact ⟨rfl, (hb2.trans (hb4.mono hb2.size)).trans (hb5.mono (Nat.le_trans hb2.size hb4.size))⟩
                              · rw [c6] at q5
                                clear c6
                                go_wp2_with (first
                                  | (go_at_call 45; have hx4 := hb4; refine (HTR.out w4).mono ?_; rintro e w5 ⟨rfl, hb5⟩)
                                  | (go_at_call 44; have hx2 := hb2; refine (HT2.out _ (HE.out.below hb2)).mono ?_; rintro e w4 ⟨rfl, hb4⟩)
                                  | (go_at_call 43; have hx2 := hb2; refine (hj _).mono ?_; rintro e w3 ⟨rfl, rfl⟩)
                                  | (go_at_call 44; refine (HT.out _ HE.out).mono ?_; rintro e w2 ⟨rfl, hb2⟩)
                                  | (go_at_call 43; refine (hi _).mono ?_; rintro e w1 ⟨rfl, rfl⟩))
                                go_ret
                                exact ⟨rfl, (hb2.trans (hb4.mono hb2.size)).trans (hb5.mono (Nat.le_trans hb2.size hb4.size))⟩
                            · rw [c5] at hp
                              simp only [Bool.true_or] at hp
                              subst hp
                              go_wp2_with (first
                                | (go_at_call 45; have hx4 := hb4; refine (HTR.out w4).mono ?_; rintro e w5 ⟨rfl, hb5⟩)
                                | (go_at_call 44; have hx2 := hb2; refine (HT2.out _ (HE.out.below hb2)).mono ?_; rintro e w4 ⟨rfl, hb4⟩)
                                | (go_at_call 43; have hx2 := hb2; refine (hj _).mono ?_; rintro e w3 ⟨rfl, rfl⟩)
                                | (go_at_call 44; refine (HT.out _ HE.out).mono ?_; rintro e w2 ⟨rfl, hb2⟩)
                                | (go_at_call 43; refine (hi _).mono ?_; rintro e w1 ⟨rfl, rfl⟩))
                              go_ret
                              exact ⟨rfl, (hb2.trans (hb4.mono hb2.size)).trans (hb5.mono (Nat.le_trans hb2.size hb4.size))⟩
                      · rw [c2] at q2 hp
                        simp only [Bool.true_or, Bool.true_and] at hp
                        clear c2 q3
                        obtain ⟨d, hd⟩ : ∃ d, z.extract 1 (n + 1) = d := ⟨_, rfl⟩
                        obtain ⟨q, hqq⟩ : ∃ q, z.extract (n + 3) (n + 7) = q := ⟨_, rfl⟩
                        have hds : d.size = n := by rw [← hd, ByteArray.size_extract]; omega
                        have hqs : q.size = 4 := by rw [← hqq, ByteArray.size_extract]; omega
                        obtain ⟨t5, ht5⟩ : ∃ t5 : ByteArray, (⟨(Lib.trimS (d ++ q).data.toList digTen).toArray⟩ : ByteArray) = t5 := ⟨_, rfl⟩
                        have hdq : (d ++ q).size ≤ 9223372036854775807 := by rw [ByteArray.size_append]; omega
                        have HTR : Hid (∀ w', Calls Tryz.prog 45 #[.string (d ++ q), .string ⟨#[48, 49, 50, 51, 52, 53, 54, 55, 56, 57]⟩] w' fun e w'' => e = .returned (.string t5) ∧ Below w'.heap.size w' w'') := Lib.hid (fun w' => by
                          have h := trim_any (d ++ q) w' hdq
                          rw [show ([48, 49, 50, 51, 52, 53, 54, 55, 56, 57] : List UInt8) = digTen from rfl, ht5] at h
                          exact h)
                        have hA : allDig (d.data.toList ++ q.data.toList) = t5.toList.isEmpty := by
                          rw [← ht5, Lib.toList_data]
                          unfold allDig
                          rw [show (d ++ q).data.toList = d.data.toList ++ q.data.toList by rw [ByteArray.data_append, Array.toList_append]]
                          show ((Lib.trimS (d.data.toList ++ q.data.toList) digTen).toArray.toList == []) = (Lib.trimS (d.data.toList ++ q.data.toList) digTen).toArray.toList.isEmpty
                          generalize (Lib.trimS (d.data.toList ++ q.data.toList) digTen).toArray.toList = L
                          cases L <;> rfl
                        have hd0 : 0 < d.size := by omega
                        have q5 : (((d[0]'hd0).toNat : Int) != 48) = !(z.get! 1 == 48) := by
                          rw [← byte_is z 1 (by omega) 48]
                          have e : d[0]'hd0 = z[1]'(by omega) := by
                            subst hd
                            exact ByteArray.getElem_extract hd0
                          rw [e]; rfl
                        rw [hd, hqq, hA] at hp
                        clear hA ht5 hdq
                        cases c4 : t5.toList.isEmpty
                        · rw [c4] at hp
                          simp only [Bool.false_and] at hp
                          subst hp
                          go_wp2_with (first
                            | (go_at_call 45; have hx4 := hb4; refine (HTR.out w4).mono ?_; rintro e w5 ⟨rfl, hb5⟩)
                            | (go_at_call 44; have hx2 := hb2; refine (HT2.out _ (HE.out.below hb2)).mono ?_; rintro e w4 ⟨rfl, hb4⟩)
                            | (go_at_call 43; have hx2 := hb2; refine (hj _).mono ?_; rintro e w3 ⟨rfl, rfl⟩)
                            | (go_at_call 44; refine (HT.out _ HE.out).mono ?_; rintro e w2 ⟨rfl, hb2⟩)
                            | (go_at_call 43; refine (hi _).mono ?_; rintro e w1 ⟨rfl, rfl⟩))
                          go_ret
                          exact ⟨rfl, (hb2.trans (hb4.mono hb2.size)).trans (hb5.mono (Nat.le_trans hb2.size hb4.size))⟩
                        · rw [c4] at hp
                          simp only [Bool.true_and] at hp
                          cases c5 : (d.toList == [48])
                          · rw [c5] at hp
                            simp only [Bool.false_or] at hp
                            subst hp
                            cases c6 : (z.get! 1 == 48)
                            · rw [c6] at q5
                              clear c6
                              go_wp2_with (first
                                | (go_at_call 45; have hx4 := hb4; refine (HTR.out w4).mono ?_; rintro e w5 ⟨rfl, hb5⟩)
                                | (go_at_call 44; have hx2 := hb2; refine (HT2.out _ (HE.out.below hb2)).mono ?_; rintro e w4 ⟨rfl, hb4⟩)
                                | (go_at_call 43; have hx2 := hb2; refine (hj _).mono ?_; rintro e w3 ⟨rfl, rfl⟩)
                                | (go_at_call 44; refine (HT.out _ HE.out).mono ?_; rintro e w2 ⟨rfl, hb2⟩)
                                | (go_at_call 43; refine (hi _).mono ?_; rintro e w1 ⟨rfl, rfl⟩))
                              go_ret
                              exact ⟨rfl, (hb2.trans (hb4.mono hb2.size)).trans (hb5.mono (Nat.le_trans hb2.size hb4.size))⟩
                            · rw [c6] at q5
                              clear c6
                              go_wp2_with (first
                                | (go_at_call 45; have hx4 := hb4; refine (HTR.out w4).mono ?_; rintro e w5 ⟨rfl, hb5⟩)
                                | (go_at_call 44; have hx2 := hb2; refine (HT2.out _ (HE.out.below hb2)).mono ?_; rintro e w4 ⟨rfl, hb4⟩)
                                | (go_at_call 43; have hx2 := hb2; refine (hj _).mono ?_; rintro e w3 ⟨rfl, rfl⟩)
                                | (go_at_call 44; refine (HT.out _ HE.out).mono ?_; rintro e w2 ⟨rfl, hb2⟩)
                                | (go_at_call 43; refine (hi _).mono ?_; rintro e w1 ⟨rfl, rfl⟩))
                              go_ret
                              exact ⟨rfl, (hb2.trans (hb4.mono hb2.size)).trans (hb5.mono (Nat.le_trans hb2.size hb4.size))⟩
                          · rw [c5] at hp
                            simp only [Bool.true_or] at hp
                            subst hp
                            go_wp2_with (first
                              | (go_at_call 45; have hx4 := hb4; refine (HTR.out w4).mono ?_; rintro e w5 ⟨rfl, hb5⟩)
                              | (go_at_call 44; have hx2 := hb2; refine (HT2.out _ (HE.out.below hb2)).mono ?_; rintro e w4 ⟨rfl, hb4⟩)
                              | (go_at_call 43; have hx2 := hb2; refine (hj _).mono ?_; rintro e w3 ⟨rfl, rfl⟩)
                              | (go_at_call 44; refine (HT.out _ HE.out).mono ?_; rintro e w2 ⟨rfl, hb2⟩)
                              | (go_at_call 43; refine (hi _).mono ?_; rintro e w1 ⟨rfl, rfl⟩))
                            go_ret
                            exact ⟨rfl, (hb2.trans (hb4.mono hb2.size)).trans (hb5.mono (Nat.le_trans hb2.size hb4.size))⟩
                · have hp := HP.out
                  rw [decide_eq_false h19] at hp
                  simp only [Bool.and_false, Bool.false_and] at hp
                  subst hp
                  have m1 : decide ((z.size : Int) - 7 < 1) = false := decide_eq_false (by omega)
                  have m2 : decide (12 < (z.size : Int) - 7) = true := decide_eq_true (by omega)
                  clear HP
                  go_wp2_with (first
                    | (go_at_call 44; have hx2 := hb2; refine (HT2.out _ (HE.out.below hb2)).mono ?_; rintro e w4 ⟨rfl, hb4⟩)
                    | (go_at_call 43; have hx2 := hb2; refine (hj _).mono ?_; rintro e w3 ⟨rfl, rfl⟩)
                    | (go_at_call 44; refine (HT.out _ HE.out).mono ?_; rintro e w2 ⟨rfl, hb2⟩)
                    | (go_at_call 43; refine (hi _).mono ?_; rintro e w1 ⟨rfl, rfl⟩))
                  go_ret
                  exact ⟨rfl, hb2.trans (hb4.mono hb2.size)⟩
              · have hp := HP.out
                rw [decide_eq_false h8] at hp
                simp only [Bool.and_false, Bool.false_and] at hp
                subst hp
                have m1 : decide ((z.size : Int) - 7 < 1) = true := decide_eq_true (by omega)
                clear HP
                go_wp2_with (first
                  | (go_at_call 44; have hx2 := hb2; refine (HT2.out _ (HE.out.below hb2)).mono ?_; rintro e w4 ⟨rfl, hb4⟩)
                  | (go_at_call 43; have hx2 := hb2; refine (hj _).mono ?_; rintro e w3 ⟨rfl, rfl⟩)
                  | (go_at_call 44; refine (HT.out _ HE.out).mono ?_; rintro e w2 ⟨rfl, hb2⟩)
                  | (go_at_call 43; refine (hi _).mono ?_; rintro e w1 ⟨rfl, rfl⟩))
                go_ret
                exact ⟨rfl, hb2.trans (hb4.mono hb2.size)⟩
    · obtain rfl : i = 0 := by omega
      have hp := HP.out
      simp at hp
      subst hp
      clear HP
      go_enter Tryz.func18, Tryz.ntmps18
      go_wp2_with (go_at_call 43; refine (hi _).mono ?_; rintro e w1 ⟨rfl, rfl⟩)
      go_ret
      exact ⟨rfl, Below.refl _ _⟩
end Go.Proofs.YtdlabapfcghfmaaGreatDoor
namespace Go.Proofs.YtdlabapfcghfmaaGreatDoor
open Go.RowKit
set_option linter.unusedVariables false
set_option linter.unusedSimpArgs false

def isDig (c : UInt8) : Bool := decide (48 ≤ c.toNat) && decide (c.toNat ≤ 57)
theorem isDig_ten (c : UInt8) : digTen.contains c = isDig c := by
  revert c
  have h : ∀ n : Fin 256, digTen.contains (UInt8.ofNat n.val) = isDig (UInt8.ofNat n.val) := by decide +kernel
  intro c
  have := h ⟨c.toNat, c.toNat_lt⟩
  simpa using this
theorem dropW_nil (l : List UInt8) (p : UInt8 → Bool) : l.dropWhile p = [] ↔ l.all p = true := by
  induction l with
  | nil => simp
  | cons c l ih =>
    rw [List.dropWhile_cons, List.all_cons]
    cases h : p c
    · simp
    · simp only [if_true, Bool.true_and]; exact ih
theorem all_dropW (l : List UInt8) (p : UInt8 → Bool) : (l.dropWhile p).all p = l.all p := by
  induction l with
  | nil => rfl
  | cons c l ih =>
    rw [List.dropWhile_cons]
    cases h : p c
    · simp
    · simp only [if_true, List.all_cons, h, Bool.true_and]; exact ih
theorem allDig_all (l : List UInt8) : allDig l = l.all isDig := by
  unfold allDig Lib.trimS Lib.trimLeftS Lib.trimRightS
  have e : (fun x => digTen.contains x) = isDig := by funext c; exact isDig_ten c
  rw [e]
  have key : ((l.reverse.dropWhile isDig).reverse.dropWhile isDig = []) ↔ l.all isDig = true := by
    rw [dropW_nil, List.all_reverse, all_dropW, List.all_reverse]
  show ((l.reverse.dropWhile isDig).reverse.dropWhile isDig == []) = l.all isDig
  cases h : l.all isDig
  · rw [beq_eq_false_iff_ne]
    intro hh
    rw [key.1 hh] at h; cases h
  · rw [key.2 h]; rfl
def numB (s : ByteArray) : Bool := s.data.toList.all isDig && (decide (0 < s.size) && decide (s.size ≤ 12) && (!(s.get! 0 == 48) || decide (s.size = 1)))
theorem all_hit {l : List UInt8} {i : Nat} {c : UInt8} (h : l[i]? = some c) (hc : isDig c = false) : l.all isDig = false := by
  cases ha : l.all isDig
  · rfl
  · rw [List.all_eq_true] at ha
    rw [ha c (List.mem_of_getElem? h)] at hc; cases hc
set_option maxRecDepth 100000 in
set_option maxHeartbeats 1000000 in
theorem number_any (s : ByteArray) (w : World) (hs : s.size ≤ 140737488355328) : Calls Tryz.prog 114 #[.string s] w fun e w' => e = .returned (.bool (numB s)) ∧ w = w' := by
  generalize hR : numB s = R
  have HR := Lib.hid hR
  clear hR
  go_enter Tryz.func114, Tryz.ntmps114
  go_wp2
  go_loopw [3] (fun v wr => ∃ i : Nat, v = .int .i64 (i : Int) ∧ i ≤ s.size ∧ wr = w ∧ ∀ (j : Nat) c, j < i → s.data.toList[j]? = some c → isDig c = true) (fun v _ => s.size - (intOf v).toNat)
  case atStart => exact ⟨0, rfl, by omega, rfl, fun j c h => by omega⟩
  case round =>
    obtain ⟨i, rfl, hi, rfl, hno⟩ := hrel
    have HN := Lib.hid hno
    clear hno
    by_cases hlt : i < s.size
    · have d0 : decide ((i : Int) < (s.size : Int)) = true := decide_eq_true (by omega)
      have hx := Lib.data_getElem? s i hlt
      by_cases c1 : (s[i]'hlt).toNat < 48
      · have q1 : decide ((((s[i]'hlt).toNat : Nat) : Int) < 48) = true := decide_eq_true (by omega)
        have HS : Hid (R = false) := Lib.hid (by
          rw [← HR.out]; unfold numB
          rw [all_hit hx (by unfold isDig; rw [decide_eq_false (by omega)]; rfl)]; rfl)
        clear hx c1
        go_wp2
        go_ret
        exact ⟨by rw [HS.out]; rfl, rfl⟩
      · have q1 : decide ((((s[i]'hlt).toNat : Nat) : Int) < 48) = false := decide_eq_false (by omega)
        by_cases c2 : 57 < (s[i]'hlt).toNat
        · have q2 : decide ((57 : Int) < (((s[i]'hlt).toNat : Nat) : Int)) = true := decide_eq_true (by omega)
          have HS : Hid (R = false) := Lib.hid (by
            rw [← HR.out]; unfold numB
            rw [all_hit hx (by unfold isDig; rw [show decide ((s[i]'hlt).toNat ≤ 57) = false from decide_eq_false (by omega), Bool.and_false])]; rfl)
          clear hx c1 c2
          go_wp2
          go_ret
          exact ⟨by rw [HS.out]; rfl, rfl⟩
        · have q2 : decide ((57 : Int) < (((s[i]'hlt).toNat : Nat) : Int)) = false := decide_eq_false (by omega)
          have HS : Hid (∀ (j : Nat) c, j < i + 1 → s.data.toList[j]? = some c → isDig c = true) := Lib.hid (fun j c hj h => by
            by_cases e : j = i
            · rw [e, hx] at h
              rw [← Option.some.inj h]
              unfold isDig
              rw [decide_eq_true (by omega), decide_eq_true (by omega)]; rfl
            · exact HN.out j c (by omega) h)
          clear hx c1 c2
          go_wp2
          go_roundw
          case rel => exact ⟨i + 1, by go_num, by omega, by first | rfl | trivial, HS.out⟩
          case measure => simp [intOf]; omega
    · obtain rfl : i = s.size := by omega
      have d0 : decide ((s.size : Int) < (s.size : Int)) = false := decide_eq_false (by omega)
      have hall : s.data.toList.all isDig = true := by
        rw [List.all_eq_true]
        intro c hc
        obtain ⟨j, hj, e⟩ := List.mem_iff_getElem.1 hc
        exact HN.out j c (by rw [Lib.size_eq]; exact hj) (by rw [List.getElem?_eq_getElem hj, e])
      have HR2 : Hid (R = (decide (0 < s.size) && decide (s.size ≤ 12) && (!(s.get! 0 == 48) || decide (s.size = 1)))) := Lib.hid (by
        rw [← HR.out]; unfold numB; rw [hall, Bool.true_and])
      clear hall
      by_cases z0 : 0 < s.size
      · have m0 : decide ((0 : Int) < (s.size : Int)) = true := decide_eq_true (by omega)
        by_cases z12 : s.size ≤ 12
        · have m1 : decide ((s.size : Int) ≤ 12) = true := decide_eq_true (by omega)
          have q := byte_is s 0 z0 48
          rw [show (((48 : UInt8).toNat : Nat) : Int) = 48 from rfl] at q
          have q : (((s[0]'z0).toNat : Int) != 48) = !(s.get! 0 == 48) := by rw [← q]; rfl
          have h := HR2.out
          rw [decide_eq_true z0, decide_eq_true z12] at h
          simp only [Bool.true_and] at h
          have HR3 := Lib.hid h
          clear h HR2
          cases hb : (s.get! 0 == 48)
          · rw [hb] at q HR3
            clear hb
            go_wp2
            go_ret
            exact ⟨by rw [HR3.out]; rfl, rfl⟩
          · rw [hb] at q HR3
            clear hb
            by_cases z1 : s.size = 1
            · have m2 : ((s.size : Int) == 1) = true := by rw [beq_iff_eq]; omega
              have h := HR3.out
              rw [decide_eq_true z1] at h
              have HR4 := Lib.hid h
              clear h HR3 z1
              go_wp2
              go_ret
              exact ⟨by rw [HR4.out]; rfl, rfl⟩
            · have m2 : ((s.size : Int) == 1) = false := by rw [beq_eq_false_iff_ne]; omega
              have h := HR3.out
              rw [decide_eq_false z1] at h
              have HR4 := Lib.hid h
              clear h HR3 z1
              go_wp2
              go_ret
              exact ⟨by rw [HR4.out]; rfl, rfl⟩
        · have m1 : decide ((s.size : Int) ≤ 12) = false := decide_eq_false (by omega)
          have h := HR2.out
          rw [decide_eq_false z12] at h
          simp only [Bool.and_false, Bool.false_and] at h
          have HR3 := Lib.hid h
          clear h HR2
          go_wp2
          go_ret
          exact ⟨by rw [HR3.out]; rfl, rfl⟩
      · have m0 : decide ((0 : Int) < (s.size : Int)) = false := decide_eq_false (by omega)
        have h := HR2.out
        rw [decide_eq_false z0] at h
        simp only [Bool.false_and] at h
        have HR3 := Lib.hid h
        clear h HR2
        go_wp2
        go_ret
        exact ⟨by rw [HR3.out]; rfl, rfl⟩
end Go.Proofs.YtdlabapfcghfmaaGreatDoor
namespace Go.Proofs.YtdlabapfcghfmaaGreatDoor
open Go.RowKit
set_option linter.unusedVariables false
set_option linter.unusedSimpArgs false

theorem decodeL_N (l : List UInt8) : Lib.decodeL l = Lib.decodeN l.length (l.getD 0 0).toNat (l.getD 1 0).toNat (l.getD 2 0).toNat (l.getD 3 0).toNat := by
  have g : ∀ k, (⟨l.toArray⟩ : ByteArray).get! k = l.getD k 0 := fun k => by
    have := Lib.getD_get!' ⟨l.toArray⟩ k
    simpa using this.symm
  unfold Lib.decodeL
  rw [Lib.decode_at, Nat.sub_zero, g, g, g, g, Lib.size_eq]
theorem decodeN_snoc (n b0 b1 b2 b3 c1 c2 c3 : Nat) (hn : 1 ≤ n) (h1 : c1 = if n = 1 then 32 else b1) (h2 : c2 = if n = 2 then 32 else b2) (h3 : c3 = if n = 3 then 32 else b3) :
    Lib.decodeN (n + 1) b0 c1 c2 c3 = Lib.decodeN n b0 b1 b2 b3 := by
  have hc : n = 1 ∨ n = 2 ∨ n = 3 ∨ 4 ≤ n := by omega
  unfold Lib.decodeN
  rcases hc with rfl | rfl | rfl | hn4
  · simp at h1; subst h1; simp
  · simp at h1 h2; subst h1; subst h2; simp
  · simp at h1 h2 h3; subst h1; subst h2; subst h3; simp
  · rw [if_neg (by omega)] at h1 h2 h3
    subst h1; subst h2; subst h3
    simp only [show (1 < n + 1) = (1 < n) from propext ⟨fun _ => by omega, fun _ => by omega⟩, show (2 < n + 1) = (2 < n) from propext ⟨fun _ => by omega, fun _ => by omega⟩, show (3 < n + 1) = (3 < n) from propext ⟨fun _ => by omega, fun _ => by omega⟩]
theorem decodeL_snoc (l : List UInt8) (hne : l ≠ []) : Lib.decodeL (l ++ [32]) = Lib.decodeL l := by
  have hl : 1 ≤ l.length := by cases l with | nil => exact absurd rfl hne | cons _ _ => simp
  have g : ∀ k, ((l ++ [32]).getD k 0).toNat = if l.length = k then 32 else (l.getD k 0).toNat := fun k => by
    by_cases h : k < l.length
    · rw [if_neg (by omega), List.getD_eq_getElem?_getD, List.getElem?_append_left h, List.getD_eq_getElem?_getD]
    · by_cases e : l.length = k
      · rw [if_pos e, List.getD_eq_getElem?_getD, List.getElem?_append_right (by omega), e, Nat.sub_self]; rfl
      · rw [if_neg e, List.getD_eq_getElem?_getD, List.getElem?_append_right (by omega), List.getElem?_eq_none (by simp; omega), List.getD_eq_getElem?_getD, List.getElem?_eq_none (by omega)]
  rw [decodeL_N, decodeL_N, List.length_append]
  have g0 := g 0
  rw [if_neg (by omega)] at g0
  rw [g0]
  exact decodeN_snoc l.length _ _ _ _ _ _ _ hl (g 1) (g 2) (g 3)
theorem decodeL_width (l : List UInt8) (hne : l ≠ []) : 1 ≤ (Lib.decodeL l).2 ∧ (Lib.decodeL l).2 ≤ l.length := by
  have hl : 1 ≤ l.length := by cases l with | nil => exact absurd rfl hne | cons _ _ => simp
  rw [decodeL_N]
  unfold Lib.decodeN
  repeat' split
  all_goals (simp only []; omega)
theorem validD_snoc : ∀ (n : Nat) (l : List UInt8), l.length ≤ n → Lib.validD (l ++ [32]) = Lib.validD l
  | n, [], _ => by rw [List.nil_append, Lib.validD_cons _ _ (by decide)]
  | 0, _ :: _, h => by simp at h
  | n + 1, c :: l, h => by
    have hw := decodeL_width (c :: l) (by simp)
    rw [Lib.validD_step _ (by simp), Lib.validD_step (c :: l) (by simp), decodeL_snoc _ (by simp)]
    split
    · rfl
    · rw [List.drop_append_of_le_length hw.2]
      exact validD_snoc n _ (by rw [List.length_drop]; simp at h hw ⊢; omega)
theorem indexByte_at {l : List UInt8} {c : UInt8} {i : Nat} (h : l[i]? = some c) (hn : ∀ j, j < i → l[j]? ≠ some c) : Lib.indexByte l c = i := by
  cases hx : Lib.indexByte l c with
  | negSucc k =>
    have hge := Lib.indexByte_ge l c
    rw [hx] at hge
    have e : Lib.indexByte l c = -1 := by rw [hx]; omega
    exact absurd h (Lib.indexByte_none e i)
  | ofNat o =>
    obtain ⟨h1, h2⟩ := Lib.indexByte_some (o := o) hx
    have : o = i := by
      rcases Nat.lt_trichotomy o i with h' | h' | h'
      · exact absurd h1 (hn o h')
      · exact h'
      · exact absurd h (h2 i h')
    rw [this]; rfl
theorem indexByte_not {l : List UInt8} {c : UInt8} (h : c ∉ l) : Lib.indexByte l c = -1 := idxByte_high l c h
theorem containsAny_any' (l cs : List UInt8) : Lib.containsAny l cs = l.any fun x => cs.contains x := by
  unfold Lib.containsAny
  induction l with
  | nil => rfl
  | cons b l ih =>
    rw [List.any_cons, Lib.indexAny]
    cases h : cs.contains b
    · simp only [Bool.false_eq_true, if_false, Bool.false_or]
      rw [← ih]
      have hge := Lib.indexAny_ge cs l
      by_cases hm : Lib.indexAny l cs = -1
      · rw [hm]; rfl
      · have h3 : (Lib.indexAny l cs == -1) = false := by simpa using hm
        rw [h3, if_neg (by decide)]
        rw [decide_eq_decide]; omega
    · simp
/-- A person's name: what is asked of it, with the blank behind it or without. -/
theorem name_same (l : List UInt8) (h : 60 ∉ l) : withoutB (l ++ [32]) [62, 10, 0] = textB l := by
  unfold withoutB textB
  rw [validD_snoc l.length l (Nat.le_refl _), containsAny_any', containsAny_any']
  congr 2
  rw [List.any_append]
  simp only [List.any_cons, List.any_nil, show ([62, 10, 0] : List UInt8).contains 32 = false by decide, Bool.or_false]
  induction l with
  | nil => rfl
  | cons c l ih =>
    rw [List.any_cons, List.any_cons, ih (fun hm => h (by simp [hm]))]
    congr 1
    have hc : ¬ c = 60 := fun e => h (by simp [e])
    unfold badL
    simp only [List.contains_cons]
    rw [show (c == 60) = false by simpa using hc, Bool.false_or]
theorem mail_same (l : List UInt8) (h : 62 ∉ l) : withoutB l [60, 10, 0] = textB l := by
  unfold withoutB textB
  rw [containsAny_any', containsAny_any']
  congr 2
  induction l with
  | nil => rfl
  | cons c l ih =>
    rw [List.any_cons, List.any_cons, ih (fun hm => h (by simp [hm]))]
    congr 1
    have hc : ¬ c = 62 := fun e => h (by simp [e])
    unfold badL
    simp only [List.contains_cons]
    rw [show (c == 62) = false by simpa using hc, Bool.false_or]
end Go.Proofs.YtdlabapfcghfmaaGreatDoor
namespace Go.Proofs.YtdlabapfcghfmaaGreatDoor
open Go.RowKit
set_option linter.unusedVariables false
set_option linter.unusedSimpArgs false

def zoneB (q : ByteArray) : Bool := decide (q.size = 5) && (q.get! 0 == 43 || q.get! 0 == 45) && (q.data.toList.drop 1).all isDig
theorem ext_list' (s : ByteArray) (p k : Nat) : (s.extract p k).data.toList = (s.data.toList.drop p).take (k - p) := Lib.extract_data s p k
theorem get_ext (s : ByteArray) (a b k : Nat) (hb : b ≤ s.size) (hk : a + k < b) : (s.extract a b).get! k = s.get! (a + k) := by
  have h1 := getO_toList (s.extract a b) k (by rw [ByteArray.size_extract]; omega)
  rw [ext_list', List.getElem?_take, if_pos (by omega), List.getElem?_drop, getO_toList s (a + k) (by omega)] at h1
  exact (Option.some.inj h1).symm
theorem time_same (z : ByteArray) (p : Nat) (h0 : z.get! 0 = 32) (hp1 : p + 1 < z.size) (hp : z.get! (p + 1) = 32) (hn : ∀ j, j < p → z.get! (j + 1) ≠ 32) :
    timeB z = (numB (z.extract 1 (p + 1)) && zoneB (z.extract (p + 2) z.size)) := by
  by_cases hs : z.size = p + 7
  · have a1 : (z.extract 1 (p + 1)).size = p := by rw [ByteArray.size_extract]; omega
    have a2 : (z.extract (p + 2) (p + 7)).size = 5 := by rw [ByteArray.size_extract]; omega
    have a3 : (z.extract (p + 2) (p + 7)).get! 0 = z.get! (p + 2) := get_ext z _ _ 0 (by omega) (by omega)
    have a4 : (z.extract (p + 2) (p + 7)).data.toList.drop 1 = (z.extract (p + 3) (p + 7)).data.toList := by
      rw [ext_list', ext_list', List.drop_take, List.drop_drop]
      congr 1
    unfold timeB numB zoneB
    rw [hs, show p + 7 - 6 = p + 1 by omega, show p + 7 - 5 = p + 2 by omega, show p + 7 - 4 = p + 3 by omega, h0, hp, allDig_all, List.all_append, a1, a2, a3, a4, Lib.toList_data]
    cases c1 : (z.extract 1 (p + 1)).data.toList.all isDig
    · simp
    · by_cases hp0 : 0 < p
      · have b0 : (z.extract 1 (p + 1)).get! 0 = z.get! 1 := get_ext z _ _ 0 (by omega) (by omega)
        rw [b0]
        have e1 : decide (8 ≤ p + 7) = true := decide_eq_true (by omega)
        have e2 : decide (p + 7 ≤ 19) = decide (p ≤ 12) := by rw [decide_eq_decide]; omega
        have e3 : decide (0 < p) = true := decide_eq_true hp0
        have e4 : ((z.extract 1 (p + 1)).data.toList == [48]) = (decide (p = 1) && (z.get! 1 == 48)) := by
          by_cases hq : p = 1
          · have hL := getO_toList (z.extract 1 (p + 1)) 0 (by omega)
            rw [b0] at hL
            have hlen : (z.extract 1 (p + 1)).data.toList.length = 1 := by rw [← Lib.size_eq, a1, hq]
            rw [decide_eq_true hq, Bool.true_and]
            generalize (z.extract 1 (p + 1)).data.toList = L at hL hlen
            match L, hlen with
            | [c], _ =>
              simp at hL
              rw [hL]
              cases h : (z.get! 1 == 48)
              · rw [beq_eq_false_iff_ne] at h ⊢
                intro hh; exact h (by simpa using hh)
              · rw [beq_iff_eq] at h; rw [h]; rfl
          · rw [decide_eq_false hq, Bool.false_and, beq_eq_false_iff_ne]
            intro hh
            have := congrArg List.length hh
            rw [← Lib.size_eq, a1] at this
            exact hq (by simpa using this)
        rw [e1, e2, e3, e4]
        cases decide (p ≤ 12) <;> cases (z.get! 1 == 48) <;> cases decide (p = 1) <;> cases (z.get! (p + 2) == 43) <;> cases (z.get! (p + 2) == 45) <;> cases (z.extract (p + 3) (p + 7)).data.toList.all isDig <;> rfl
      · have e1 : decide (8 ≤ p + 7) = false := decide_eq_false (by omega)
        have e3 : decide (0 < p) = false := decide_eq_false hp0
        rw [e1, e3]
        simp
  · have r : zoneB (z.extract (p + 2) z.size) = false := by
      unfold zoneB
      rw [decide_eq_false (by rw [ByteArray.size_extract]; omega)]
      rfl
    rw [r, Bool.and_false]
    cases ht : timeB z
    · rfl
    · exfalso
      unfold timeB at ht
      simp only [Bool.and_eq_true, decide_eq_true_eq, beq_iff_eq] at ht
      obtain ⟨⟨⟨⟨⟨⟨t1, t2⟩, t3⟩, t4⟩, t5⟩, t6⟩, t7⟩ := ht
      rw [allDig_all, List.all_append, Bool.and_eq_true] at t6
      have hpn : ¬ (z.size - 7 < p) := fun h => by
        have := hn (z.size - 7) h
        rw [show z.size - 7 + 1 = z.size - 6 by omega] at this
        exact this t4
      have hlt : p < z.size - 7 := by omega
      have hm := getO_toList (z.extract 1 (z.size - 6)) p (by rw [ByteArray.size_extract]; omega)
      rw [get_ext z _ _ p (by omega) (by omega), Nat.add_comm 1 p, hp] at hm
      have := List.all_eq_true.1 t6.1 _ (List.mem_of_getElem? hm)
      revert this; decide
end Go.Proofs.YtdlabapfcghfmaaGreatDoor
namespace Go.Proofs.YtdlabapfcghfmaaGreatDoor
open Go.RowKit
set_option linter.unusedVariables false
set_option linter.unusedSimpArgs false

theorem time_none (z : ByteArray) (h : 32 ∉ (z.extract 1 z.size).data.toList) : timeB z = false := by
  cases ht : timeB z
  · rfl
  · exfalso
    unfold timeB at ht
    simp only [Bool.and_eq_true, decide_eq_true_eq, beq_iff_eq] at ht
    obtain ⟨⟨⟨⟨⟨⟨t1, t2⟩, t3⟩, t4⟩, t5⟩, t6⟩, t7⟩ := ht
    have hm := getO_toList (z.extract 1 z.size) (z.size - 7) (by rw [ByteArray.size_extract]; omega)
    rw [get_ext z _ _ _ (by omega) (by omega), show 1 + (z.size - 7) = z.size - 6 by omega, t4] at hm
    exact h (List.mem_of_getElem? hm)
theorem time_short (z : ByteArray) (h : ¬ 1 ≤ z.size) : timeB z = false := by
  unfold timeB; rw [decide_eq_false (by omega)]; rfl
theorem time_blank (z : ByteArray) (h : (z.get! 0 == 32) = false) : timeB z = false := by
  unfold timeB; rw [h]; simp
theorem ext_ext (z : ByteArray) (a b : Nat) (hb : b ≤ z.size - 1) (h1 : 1 ≤ z.size) : (z.extract 1 z.size).extract a b = z.extract (a + 1) (b + 1) := by
  apply ByteArray.ext
  apply Array.toList_inj.1
  rw [ext_list', ext_list', ext_list', List.drop_take, List.drop_drop, List.take_take, Nat.add_comm 1 a]
  congr 1
  omega
theorem upto60 (s : ByteArray) (w : World) (hs : s.size ≤ 140737488355328) : Calls Tryz.prog 82 #[.string s, .int .u8 60] w (UptoPost s 60 w) := upto_any s 60 w hs
theorem upto62 (s : ByteArray) (w : World) (hs : s.size ≤ 140737488355328) : Calls Tryz.prog 82 #[.string s, .int .u8 62] w (UptoPost s 62 w) := upto_any s 62 w hs
theorem upto32 (s : ByteArray) (w : World) (hs : s.size ≤ 140737488355328) : Calls Tryz.prog 82 #[.string s, .int .u8 32] w (UptoPost s 32 w) := upto_any s 32 w hs
theorem persB_no (s : ByteArray) (h : 60 ∉ s.data.toList) : persB s = false := by
  unfold persB; rw [indexByte_not h]; rfl
theorem persB_at (s : ByteArray) (i : Nat) (h : s.data.toList[i]? = some 60) (hf : ∀ j, j < i → s.data.toList[j]? ≠ some 60) : persB s = (decide (1 ≤ i) && (s.get! (i - 1) == 32) && textB (s.extract 0 (i - 1)).data.toList && mailB (s.extract (i + 1) s.size)) := by
  unfold persB; rw [indexByte_at h hf]
theorem mailB_no (s : ByteArray) (h : 62 ∉ s.data.toList) : mailB s = false := by
  unfold mailB; rw [indexByte_not h]; rfl
theorem mailB_at (s : ByteArray) (i : Nat) (h : s.data.toList[i]? = some 62) (hf : ∀ j, j < i → s.data.toList[j]? ≠ some 62) : mailB s = (textB (s.extract 0 i).data.toList && timeB (s.extract (i + 1) s.size)) := by
  unfold mailB; rw [indexByte_at h hf]
theorem name_at (s : ByteArray) (k : Nat) (hk : k + 1 ≤ s.size) (hb : s.get! k = 32) (hf : ∀ j, j < k + 1 → s.data.toList[j]? ≠ some 60) : withoutB (s.extract 0 (k + 1)).data.toList [62, 10, 0] = textB (s.extract 0 k).data.toList := by
  have e : (s.extract 0 (k + 1)).data.toList = (s.extract 0 k).data.toList ++ [32] := by
    rw [ext_list', ext_list', List.drop_zero, Nat.sub_zero, Nat.sub_zero, List.take_add_one, getO_toList s k (by omega), hb]; rfl
  rw [e]
  refine name_same _ (fun hm => ?_)
  rw [ext_list', List.drop_zero, Nat.sub_zero] at hm
  obtain ⟨j, hj, he⟩ := List.mem_iff_getElem.1 hm
  rw [List.length_take] at hj
  refine hf j (by omega) ?_
  rw [List.getElem_take] at he
  rw [List.getElem?_eq_getElem (by omega), he]
theorem mail_at (y : ByteArray) (j : Nat) (hf : ∀ i, i < j → y.data.toList[i]? ≠ some 62) : withoutB (y.extract 0 j).data.toList [60, 10, 0] = textB (y.extract 0 j).data.toList := by
  refine mail_same _ (fun hm => ?_)
  rw [ext_list', List.drop_zero, Nat.sub_zero] at hm
  obtain ⟨i, hi, he⟩ := List.mem_iff_getElem.1 hm
  rw [List.length_take] at hi
  refine hf i (by omega) ?_
  rw [List.getElem_take] at he
  rw [List.getElem?_eq_getElem (by omega), he]
theorem drop1_all (q : ByteArray) (h5 : q.size = 5) (h : ∀ j, 1 ≤ j → j < 5 → isDig (q.get! j) = true) : (q.data.toList.drop 1).all isDig = true := by
  rw [List.all_eq_true]
  intro c hc
  obtain ⟨j, hj, e⟩ := List.mem_iff_getElem.1 hc
  rw [List.length_drop, ← Lib.size_eq, h5] at hj
  have hg := getO_toList q (j + 1) (by omega)
  have hd : (q.data.toList.drop 1)[j]? = some (q.get! (j + 1)) := by rw [List.getElem?_drop, Nat.add_comm 1 j]; exact hg
  rw [List.getElem?_eq_getElem (by rw [List.length_drop, ← Lib.size_eq]; omega), e] at hd
  rw [Option.some.inj hd]
  exact h (j + 1) (by omega) (by omega)
theorem drop1_not (q : ByteArray) (h5 : q.size = 5) (j : Nat) (h1 : 1 ≤ j) (hj : j < 5) (h : isDig (q.get! j) = false) : (q.data.toList.drop 1).all isDig = false := by
  have hg := getO_toList q j (by omega)
  refine all_hit (i := j - 1) (c := q.get! j) ?_ h
  rw [List.getElem?_drop, show 1 + (j - 1) = j by omega]; exact hg
set_option maxRecDepth 1000000 in
set_option maxHeartbeats 4000000 in
theorem personR_any (s : ByteArray) (w : World) (hs : s.size ≤ 140737488355000) : Calls Tryz.prog 89 #[.string s] w (PersPost (persB s) w) := by
  generalize hR : persB s = R
  have HR := Lib.hid hR
  clear hR
  have HW1 := Lib.hid (fun (s : ByteArray) w hs => without_any s ⟨#[62, 10, 0]⟩ w hs (by decide))
  have HW2 := Lib.hid (fun (s : ByteArray) w hs => without_any s ⟨#[60, 10, 0]⟩ w hs (by decide))
  go_enter Tryz.func89, Tryz.ntmps89
  go_wp2_with fail
  refine (upto60 s w (by omega)).mono ?_
  rintro e w1 ⟨hb1, h⟩
  have HB1 := Lib.hid hb1
  clear hb1
  rcases h with ⟨hno, rfl⟩ | ⟨i, hi, hx, hf, rfl⟩
  · have HS := Lib.hid (HR.out.symm.trans (persB_no s hno))
    clear hno
    go_wp2
    go_ret
    exact ⟨by rw [HS.out]; rfl, HB1.out⟩
  · have HP := Lib.hid (HR.out.symm.trans (persB_at s i hx hf))
    have HF := Lib.hid hf
    clear hx hf
    obtain ⟨y, hy⟩ : ∃ y, s.extract (i + 1) s.size = y := ⟨_, rfl⟩
    have hys : y.size ≤ 140737488355000 := by rw [← hy, ByteArray.size_extract]; omega
    rw [hy] at HP
    rw [hy]
    clear hy
    rcases i with _ | k
    · have HS : Hid (R = false) := Lib.hid (by rw [HP.out]; rfl)
      obtain ⟨nm, hnm⟩ : ∃ nm, s.extract 0 0 = nm := ⟨_, rfl⟩
      have hz : nm.size = 0 := by rw [← hnm, ByteArray.size_extract]; omega
      rw [hnm]
      clear HP HF hnm
      have m0 : ((nm.size : Int) == 0) = true := by rw [beq_iff_eq]; omega
      go_wp2
      go_ret
      exact ⟨by rw [HS.out]; rfl, HB1.out⟩
    · have hp := HP.out
      rw [decide_eq_true (by omega), Bool.true_and, Nat.add_sub_cancel] at hp
      obtain ⟨nm, hnm⟩ : ∃ nm, s.extract 0 (k + 1) = nm := ⟨_, rfl⟩
      have hz : nm.size = k + 1 := by rw [← hnm, ByteArray.size_extract]; omega
      have hg : nm.get! k = s.get! k := by rw [← hnm, get_ext s _ _ k (by omega) (by omega), Nat.zero_add]
      have hkn : k < nm.size := by omega
      have m0 : ((nm.size : Int) == 0) = false := by rw [beq_eq_false_iff_ne]; omega
      have m1 : (((k : Int) + 1) == 0) = false := by rw [beq_eq_false_iff_ne]; omega
      have q := byte_is nm k hkn 32
      rw [show (((32 : UInt8).toNat : Nat) : Int) = 32 from rfl] at q
      have q : (((nm[k]'hkn).toNat : Int) != 32) = !(nm.get! k == 32) := by rw [← q]; rfl
      rw [hg] at q
      clear HP
      have hns : nm.size ≤ 140737488355000 := by omega
      cases hb : (s.get! k == 32)
      · rw [hb] at q hp
        simp only [Bool.false_and] at hp
        have HS := Lib.hid hp
        rw [hnm]
        clear hp hb HF hnm hg
        go_wp2
        go_ret
        exact ⟨by rw [HS.out]; rfl, HB1.out⟩
      · rw [hb] at q hp
        simp only [Bool.true_and] at hp
        have hw1 := HW1.out nm w1 (by omega)
        rw [← hnm, name_at s k (by omega) (by simpa using hb) HF.out, hnm] at hw1
        rw [hnm]
        clear hb HF hnm hg HW1
        cases ht : textB (s.extract 0 k).data.toList
        · rw [ht] at hw1 hp
          simp only [Bool.false_and] at hp
          have HS := Lib.hid hp
          clear hp ht
          go_wp2_with (refine hw1.mono ?_; rintro e w2 ⟨rfl, hb2⟩)
          go_ret
          exact ⟨by rw [HS.out]; rfl, HB1.out.trans (hb2.mono HB1.out.size)⟩
        · rw [ht] at hw1 hp
          simp only [Bool.true_and] at hp
          have HP := Lib.hid hp
          clear hp ht
          go_wp2_with fail
          refine hw1.mono ?_
          rintro e w2 ⟨rfl, hb2⟩
          have HB2 := Lib.hid (HB1.out.trans (hb2.mono HB1.out.size))
          clear hb2 hw1
          go_wp2_with fail
          refine (upto62 y w2 (by omega)).mono ?_
          rintro e w3 ⟨hb3, h⟩
          have HB3 := Lib.hid (HB2.out.trans (hb3.mono HB2.out.size))
          clear hb3
          rcases h with ⟨hno, rfl⟩ | ⟨j, hj, hx, hf, rfl⟩
          · have HS := Lib.hid (HP.out.trans (mailB_no y hno))
            clear hno
            go_wp2
            go_ret
            exact ⟨by rw [HS.out]; rfl, HB3.out⟩
          · have HP2 := Lib.hid (HP.out.trans (mailB_at y j hx hf))
            have HT := Lib.hid (mail_at y j hf)
            clear hx hf HP
            obtain ⟨z, hzz⟩ : ∃ z, y.extract (j + 1) y.size = z := ⟨_, rfl⟩
            obtain ⟨ml, hml⟩ : ∃ ml, y.extract 0 j = ml := ⟨_, rfl⟩
            have hzs : z.size ≤ 140737488355000 := by rw [← hzz, ByteArray.size_extract]; omega
            have hms : ml.size ≤ 140737488355000 := by rw [← hml, ByteArray.size_extract]; omega
            rw [hzz, hml] at HP2
            rw [hml] at HT
            rw [hzz, hml]
            clear hzz hml
            have hw2 := HW2.out ml w3 (by omega)
            rw [HT.out] at hw2
            clear HT HW2
            have hp := HP2.out
            cases ht : textB ml.data.toList
            · rw [ht] at hw2 hp
              simp only [Bool.false_and] at hp
              have HS := Lib.hid hp
              clear hp ht HP2
              go_wp2_with (refine hw2.mono ?_; rintro e w4 ⟨rfl, hb4⟩)
              go_ret
              exact ⟨by rw [HS.out]; rfl, HB3.out.trans (hb4.mono HB3.out.size)⟩
            · rw [ht] at hw2 hp
              simp only [Bool.true_and] at hp
              have HP := Lib.hid hp
              clear hp ht HP2
              by_cases hz1 : 1 ≤ z.size
              · have n1 : decide ((z.size : Int) < 1) = false := decide_eq_false (by omega)
                have hz0 : 0 < z.size := by omega
                have q := byte_is z 0 hz0 32
                rw [show (((32 : UInt8).toNat : Nat) : Int) = 32 from rfl] at q
                have q : (((z[0]'hz0).toNat : Int) != 32) = !(z.get! 0 == 32) := by rw [← q]; rfl
                cases hb : (z.get! 0 == 32)
                · rw [hb] at q
                  have HS := Lib.hid (HP.out.trans (time_blank z hb))
                  clear hb
                  go_wp2_with (refine hw2.mono ?_; rintro e w4 ⟨rfl, hb4⟩)
                  go_ret
                  exact ⟨by rw [HS.out]; rfl, HB3.out.trans (hb4.mono HB3.out.size)⟩
                · rw [hb] at q
                  have HZ0 : Hid (z.get! 0 = 32) := Lib.hid (by simpa using hb)
                  clear hb
                  obtain ⟨x, hxx⟩ : ∃ x, z.extract 1 z.size = x := ⟨_, rfl⟩
                  have HX := Lib.hid hxx
                  have hxs : x.size = z.size - 1 := by rw [← hxx, ByteArray.size_extract]; omega
                  go_wp2_with fail
                  refine hw2.mono ?_
                  rintro e w4 ⟨rfl, hb4⟩
                  have HB4 := Lib.hid (HB3.out.trans (hb4.mono HB3.out.size))
                  clear hb4 hw2
                  go_wp2_with fail
                  refine (upto32 x w4 (by omega)).mono ?_
                  rintro e w5 ⟨hb5, h⟩
                  have HB5 := Lib.hid (HB4.out.trans (hb5.mono HB4.out.size))
                  clear hb5
                  rcases h with ⟨hno, rfl⟩ | ⟨p, hpl, hx, hf, rfl⟩
                  · have HS := Lib.hid (HP.out.trans (time_none z (by rw [HX.out]; exact hno)))
                    clear hno hxx hxs
                    go_wp2
                    go_ret
                    exact ⟨by rw [HS.out]; rfl, HB5.out⟩
                  · have hgx : ∀ j, j < x.size → x.get! j = z.get! (j + 1) := fun j hj => by rw [← HX.out, get_ext z _ _ j (by omega) (by omega), Nat.add_comm 1 j]
                    have ht := time_same z p HZ0.out (by omega) (by
                      have h := getO_toList x p hpl
                      rw [hx] at h
                      rw [← hgx p hpl]; exact (Option.some.inj h).symm) (fun j hj hh => hf j hj (by rw [getO_toList x j (by omega), hgx j (by omega), hh]))
                    have e1 : x.extract 0 p = z.extract 1 (p + 1) := by rw [← HX.out, ext_ext z 0 p (by omega) (by omega)]
                    have e2 : x.extract (p + 1) x.size = z.extract (p + 2) z.size := by rw [← HX.out, ext_ext z (p + 1) _ (by rw [HX.out]; omega) (by omega), HX.out, hxs, show z.size - 1 + 1 = z.size by omega]
                    rw [← e1, ← e2] at ht
                    have HP2 := Lib.hid (HP.out.trans ht)
                    clear hgx ht e1 e2 hx hf HP hxx
                    obtain ⟨tm, htm⟩ : ∃ tm, x.extract 0 p = tm := ⟨_, rfl⟩
                    obtain ⟨zn, hzn⟩ : ∃ zn, x.extract (p + 1) x.size = zn := ⟨_, rfl⟩
                    have hts : tm.size ≤ 140737488355000 := by rw [← htm, ByteArray.size_extract]; omega
                    have hzz : zn.size ≤ 140737488355000 := by rw [← hzn, ByteArray.size_extract]; omega
                    rw [htm, hzn] at HP2
                    rw [htm, hzn]
                    clear htm hzn hxs hpl
                    have hnum := number_any tm w5 (by omega)
                    have hp := HP2.out
                    cases hb : numB tm
                    · rw [hb] at hnum hp
                      simp only [Bool.false_and] at hp
                      have HS := Lib.hid hp
                      clear hp hb HP2
                      go_wp2_with (refine hnum.mono ?_; rintro e w6 ⟨rfl, rfl⟩)
                      go_ret
                      exact ⟨by rw [HS.out]; rfl, HB5.out⟩
                    · rw [hb] at hnum hp
                      simp only [Bool.true_and] at hp
                      have HP := Lib.hid hp
                      clear hp hb HP2
                      by_cases h5 : zn.size = 5
                      · have H5 := Lib.hid h5
                        have n5 : ((zn.size : Int) != 5) = false := by
                          have : ((zn.size : Int) == 5) = true := by rw [beq_iff_eq]; omega
                          show (!((zn.size : Int) == 5)) = false
                          rw [this]; rfl
                        have hz0' : 0 < zn.size := by omega
                        have r3 : (((zn[0]'hz0').toNat : Int) != 43) = !(zn.get! 0 == 43) := by rw [← byte_is zn 0 hz0' 43]; rfl
                        have r4 : (((zn[0]'hz0').toNat : Int) != 45) = !(zn.get! 0 == 45) := by rw [← byte_is zn 0 hz0' 45]; rfl
                        have hp := HP.out
                        unfold zoneB at hp
                        rw [decide_eq_true h5, Bool.true_and] at hp
                        clear HP
                        cases c3 : (zn.get! 0 == 43)
                        · rw [c3] at r3 hp
                          simp only [Bool.false_or] at hp
                          cases c4 : (zn.get! 0 == 45)
                          · rw [c4] at r4 hp
                            simp only [Bool.false_and] at hp
                            have HS := Lib.hid hp
                            clear hp c3 c4
                            go_wp2_with (refine hnum.mono ?_; rintro e w6 ⟨rfl, rfl⟩)
                            go_ret
                            exact ⟨by rw [HS.out]; rfl, HB5.out⟩
                          · rw [c4] at r4 hp
                            simp only [Bool.true_and] at hp
                            have HPZ := Lib.hid hp
                            clear hp c3 c4
                            go_wp2_with (refine hnum.mono ?_; rintro e w6 ⟨rfl, rfl⟩)
                            clear hnum
                            go_loopw [9] (fun v wr => ∃ i : Nat, v = .int .i64 (i : Int) ∧ 1 ≤ i ∧ i ≤ 5 ∧ Below w.heap.size w wr ∧ ∀ j, 1 ≤ j → j < i → isDig (zn.get! j) = true) (fun v _ => 5 - (intOf v).toNat)
                            case atStart => exact ⟨1, rfl, by omega, by omega, HB5.out, fun j h1 h2 => by omega⟩
                            case round =>
                              obtain ⟨i, rfl, hi1, hi, hB, hno⟩ := hrel
                              have HN := Lib.hid hno
                              have HBW := Lib.hid hB
                              clear hno hB
                              by_cases hlt : i < 5
                              · have d0 : decide ((i : Int) < 5) = true := decide_eq_true (by omega)
                                have hiz : i < zn.size := by omega
                                have hge := get_eq zn i hiz
                                by_cases c1 : (zn[i]'hiz).toNat < 48
                                · have q1 : decide ((((zn[i]'hiz).toNat : Nat) : Int) < 48) = true := decide_eq_true (by omega)
                                  have HS := Lib.hid (HPZ.out.trans (drop1_not zn H5.out i hi1 hlt (by rw [← hge]; unfold isDig; rw [decide_eq_false (by omega)]; rfl)))
                                  clear c1 hge
                                  go_wp2
                                  go_ret
                                  exact ⟨by rw [HS.out]; rfl, HBW.out⟩
                                · have q1 : decide ((((zn[i]'hiz).toNat : Nat) : Int) < 48) = false := decide_eq_false (by omega)
                                  by_cases c2 : 57 < (zn[i]'hiz).toNat
                                  · have q2 : decide ((57 : Int) < (((zn[i]'hiz).toNat : Nat) : Int)) = true := decide_eq_true (by omega)
                                    have HS := Lib.hid (HPZ.out.trans (drop1_not zn H5.out i hi1 hlt (by rw [← hge]; unfold isDig; rw [show decide ((zn[i]'hiz).toNat ≤ 57) = false from decide_eq_false (by omega), Bool.and_false])))
                                    clear c1 c2 hge
                                    go_wp2
                                    go_ret
                                    exact ⟨by rw [HS.out]; rfl, HBW.out⟩
                                  · have q2 : decide ((57 : Int) < (((zn[i]'hiz).toNat : Nat) : Int)) = false := decide_eq_false (by omega)
                                    have HS : Hid (∀ j, 1 ≤ j → j < i + 1 → isDig (zn.get! j) = true) := Lib.hid (fun j h1 h2 => by
                                      by_cases e : j = i
                                      · rw [e, ← hge]
                                        unfold isDig
                                        rw [decide_eq_true (by omega), decide_eq_true (by omega)]; rfl
                                      · exact HN.out j h1 (by omega))
                                    clear c1 c2 hge
                                    go_wp2
                                    go_roundw
                                    case rel => exact ⟨i + 1, by go_num, by omega, by omega, HBW.out, HS.out⟩
                                    case measure => simp [intOf]; omega
                              · obtain rfl : i = 5 := by omega
                                have d0 : decide (((5 : Nat) : Int) < 5) = false := by decide
                                have HS := Lib.hid (HPZ.out.trans (drop1_all zn H5.out HN.out))
                                go_wp2
                                go_ret
                                exact ⟨by rw [HS.out]; rfl, HBW.out⟩
                        · rw [c3] at r3 hp
                          simp only [Bool.true_or, Bool.true_and] at hp
                          have HPZ := Lib.hid hp
                          clear hp c3 r4
                          go_wp2_with (refine hnum.mono ?_; rintro e w6 ⟨rfl, rfl⟩)
                          clear hnum
                          go_loopw [9] (fun v wr => ∃ i : Nat, v = .int .i64 (i : Int) ∧ 1 ≤ i ∧ i ≤ 5 ∧ Below w.heap.size w wr ∧ ∀ j, 1 ≤ j → j < i → isDig (zn.get! j) = true) (fun v _ => 5 - (intOf v).toNat)
                          case atStart => exact ⟨1, rfl, by omega, by omega, HB5.out, fun j h1 h2 => by omega⟩
                          case round =>
                            obtain ⟨i, rfl, hi1, hi, hB, hno⟩ := hrel
                            have HN := Lib.hid hno
                            have HBW := Lib.hid hB
                            clear hno hB
                            by_cases hlt : i < 5
                            · have d0 : decide ((i : Int) < 5) = true := decide_eq_true (by omega)
                              have hiz : i < zn.size := by omega
                              have hge := get_eq zn i hiz
                              by_cases c1 : (zn[i]'hiz).toNat < 48
                              · have q1 : decide ((((zn[i]'hiz).toNat : Nat) : Int) < 48) = true := decide_eq_true (by omega)
                                have HS := Lib.hid (HPZ.out.trans (drop1_not zn H5.out i hi1 hlt (by rw [← hge]; unfold isDig; rw [decide_eq_false (by omega)]; rfl)))
                                clear c1 hge
                                go_wp2
                                go_ret
                                exact ⟨by rw [HS.out]; rfl, HBW.out⟩
                              · have q1 : decide ((((zn[i]'hiz).toNat : Nat) : Int) < 48) = false := decide_eq_false (by omega)
                                by_cases c2 : 57 < (zn[i]'hiz).toNat
                                · have q2 : decide ((57 : Int) < (((zn[i]'hiz).toNat : Nat) : Int)) = true := decide_eq_true (by omega)
                                  have HS := Lib.hid (HPZ.out.trans (drop1_not zn H5.out i hi1 hlt (by rw [← hge]; unfold isDig; rw [show decide ((zn[i]'hiz).toNat ≤ 57) = false from decide_eq_false (by omega), Bool.and_false])))
                                  clear c1 c2 hge
                                  go_wp2
                                  go_ret
                                  exact ⟨by rw [HS.out]; rfl, HBW.out⟩
                                · have q2 : decide ((57 : Int) < (((zn[i]'hiz).toNat : Nat) : Int)) = false := decide_eq_false (by omega)
                                  have HS : Hid (∀ j, 1 ≤ j → j < i + 1 → isDig (zn.get! j) = true) := Lib.hid (fun j h1 h2 => by
                                    by_cases e : j = i
                                    · rw [e, ← hge]
                                      unfold isDig
                                      rw [decide_eq_true (by omega), decide_eq_true (by omega)]; rfl
                                    · exact HN.out j h1 (by omega))
                                  clear c1 c2 hge
                                  go_wp2
                                  go_roundw
                                  case rel => exact ⟨i + 1, by go_num, by omega, by omega, HBW.out, HS.out⟩
                                  case measure => simp [intOf]; omega
                            · obtain rfl : i = 5 := by omega
                              have d0 : decide (((5 : Nat) : Int) < 5) = false := by decide
                              have HS := Lib.hid (HPZ.out.trans (drop1_all zn H5.out HN.out))
                              go_wp2
                              go_ret
                              exact ⟨by rw [HS.out]; rfl, HBW.out⟩
                      · have n5 : ((zn.size : Int) != 5) = true := by
                          have : ((zn.size : Int) == 5) = false := by rw [beq_eq_false_iff_ne]; omega
                          show (!((zn.size : Int) == 5)) = true
                          rw [this]; rfl
                        have HS : Hid (R = false) := Lib.hid (by rw [HP.out]; unfold zoneB; rw [decide_eq_false h5]; rfl)
                        clear HP
                        go_wp2_with (refine hnum.mono ?_; rintro e w6 ⟨rfl, rfl⟩)
                        go_ret
                        exact ⟨by rw [HS.out]; rfl, HB5.out⟩
              · have n1 : decide ((z.size : Int) < 1) = true := decide_eq_true (by omega)
                have HS := Lib.hid (HP.out.trans (time_short z hz1))
                go_wp2_with (refine hw2.mono ?_; rintro e w4 ⟨rfl, hb4⟩)
                go_ret
                exact ⟨by rw [HS.out]; rfl, HB3.out.trans (hb4.mono HB3.out.size)⟩
end Go.Proofs.YtdlabapfcghfmaaGreatDoor
