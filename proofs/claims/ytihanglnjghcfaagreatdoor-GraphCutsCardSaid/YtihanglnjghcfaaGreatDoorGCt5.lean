/- strings.IndexRune at the bytes that a person's text may not have. (Printed by genobc.py out of XNmC.) -/
import Derived.Test.YtihanglnjghcfaaGreatDoorGCt0
import Derived.Lib.SplitLaws
import Derived.Lib.ValidAsc
import Derived.Lib.RuneCountTail
import Derived.Laws.RangeString
import Derived.Laws.RangeAny
import Derived.LoopTactic
import Derived.IntWalk
import Derived.Test.YtihanglnjghcfaaGreatDoorGCt2
import Derived.Laws.Runes
import Derived.Lib.IndexAny
import Derived.Lib.OthersKept
import Derived.Test.YtihanglnjghcfaaGreatDoorGCt3
import Derived.Shelf.Strings.AsciiSet
import Derived.Shelf.Strings.SlTrimAscii
import Derived.Lib.Replace
namespace Go.Proofs.YtihanglnjghcfaaGreatDoor
open Go.RowKit
set_option linter.unusedVariables false

def badO : ByteArray := ⟨#[60, 62, 10, 0]⟩
theorem idxByte_high (l : List UInt8) (c : UInt8) (h : c ∉ l) : Lib.indexByte l c = -1 := by
 induction l with
 | nil => rfl
 | cons b l ih =>
  unfold Lib.indexByte
  rw [if_neg (by rw [beq_iff_eq]; rintro rfl; exact h (by simp)), ih (fun hm => h (by simp [hm]))]
  rfl
theorem notBad (c : UInt8) (h : 128 ≤ c.toNat) (n : Nat) : c ∉ badO.data.toList.drop n := by
 intro hm
 have := List.mem_of_mem_drop hm
 simp [badO] at this
 rcases this with rfl | rfl | rfl | rfl <;> revert h <;> decide
set_option maxRecDepth 100000 in
set_option maxHeartbeats 1000000 in
theorem indexRune_errO (w : World) :
 Calls Tryz.prog 154 #[.string badO, .int .i32 65533] w fun e w' => e = .returned (.int .i64 (-1)) ∧ Below w.heap.size w w' := by
 go_enter Tryz.func154, Tryz.ntmps154
 go_wp2
 go_loopw [5] (fun _ w' => ∃ pos : Nat, pos ≤ 4 ∧ w' = w.iter badO pos) (fun _ w' => 4 - w'.iterPos w.heap.size)
 case atStart => exact ⟨0, by omega, rfl⟩
 case round =>
  obtain ⟨pos, hp7, rfl⟩ := hrel
  by_cases hp : pos < badO.size
  · have hnx : ∀ ty, (Instr.next (.pointer (some ⟨w.heap.size, 0, none⟩)) true ty).run Tryz.prog (w.iter badO pos) = _ := fun ty => run_next_any w badO pos ty hp
    have hd : Utf8.decode badO pos = ((badO[pos]'hp).toNat, 1) := decode_ascii badO pos hp (by
     have h7 : pos < 4 := hp
     have : pos = 0 ∨ pos = 1 ∨ pos = 2 ∨ pos = 3 := by omega
     rcases this with rfl | rfl | rfl | rfl <;> exact of_decide_eq_true rfl)
    have hb := (badO[pos]'hp).toNat_lt
    have q1 : (((Utf8.decode badO pos).1 : Int) == 65533) = false := by rw [hd, beq_eq_false_iff_ne]; simp only []; omega
    have hw : (Utf8.decode badO pos).2 = 1 := by rw [hd]
    have h7 : pos < 4 := hp
    have HW := Lib.hid hw
    clear hd hw
    go_wp2
    go_roundw
    case rel => exact ⟨pos + 1, by omega, by rw [HW.out]⟩
    case measure => simp; have := HW.out; omega
  · have hnx : ∀ ty, (Instr.next (.pointer (some ⟨w.heap.size, 0, none⟩)) true ty).run Tryz.prog (w.iter badO pos) = _ := fun ty => run_next_end w badO pos ty hp
    go_wp2
    go_ret
    exact ⟨rfl, (Below.refl _ _).alloc (Nat.le_refl _) _⟩
set_option maxRecDepth 1000000 in
set_option maxHeartbeats 1000000 in
theorem indexRune_badO (c : Nat) (w : World) (h1 : 128 ≤ c) (h3 : c ≠ 65533) (hr : Lib.validRune (c : Int) = false) :
 Calls Tryz.prog 154 #[.string ⟨#[60, 62, 10, 0]⟩, .int .i32 c] w fun e w' => e = .returned (.int .i64 (-1)) ∧ Below w.heap.size w w' := by
 have q0 : decide ((0 : Int) ≤ (c : Int)) = true := decide_eq_true (by omega)
 have q1 : decide ((c : Int) < 128) = false := decide_eq_false (by omega)
 have q2 : ((c : Int) == 65533) = false := by rw [beq_eq_false_iff_ne]; omega
 have hv : Calls Tryz.prog 161 #[.int .i32 c] w fun e w' => e = .returned (.bool false) ∧ w = w' := (Tryz.utf8_ValidRune (c : Int) w).mono fun _ _ ⟨h1, h2⟩ => ⟨by rw [h1, hr], h2.symm⟩
 go_enter Tryz.func154, Tryz.ntmps154
 go_wp2_with (go_at_call 161; refine hv.mono ?_; rintro e w' ⟨rfl, rfl⟩)
 go_ret
 exact ⟨rfl, Below.refl _ _⟩
set_option maxRecDepth 1000000 in
set_option maxHeartbeats 1000000 in
theorem indexRune_h2O (c : Nat) (w : World) (h1 : 128 ≤ c) (h3 : c ≠ 65533) (hr : Lib.validRune (c : Int) = true) (rs : ByteArray) (hrs : Utf8.encode (c : Int) = rs) (hn : rs.size = 2) (g2 : 1 < rs.size) (hb : 128 ≤ (rs[1]'g2).toNat) :
 Calls Tryz.prog 154 #[.string ⟨#[60, 62, 10, 0]⟩, .int .i32 c] w fun e w' => e = .returned (.int .i64 (-1)) ∧ Below w.heap.size w w' := by
 have q0 : decide ((0 : Int) ≤ (c : Int)) = true := decide_eq_true (by omega)
 have q1 : decide ((c : Int) < 128) = false := decide_eq_false (by omega)
 have q2 : ((c : Int) == 65533) = false := by rw [beq_eq_false_iff_ne]; omega
 have hv : Calls Tryz.prog 161 #[.int .i32 c] w fun e w' => e = .returned (.bool true) ∧ w = w' := (Tryz.utf8_ValidRune (c : Int) w).mono fun _ _ ⟨h1, h2⟩ => ⟨by rw [h1, hr], h2.symm⟩
 have r1 : (!((62 : Int) == ((rs[1]'g2).toNat : Int))) = true := by
  have : ((62 : Int) == ((rs[1]'g2).toNat : Int)) = false := by rw [beq_eq_false_iff_ne]; omega
  rw [this]; rfl
 have r2 : ((((⟨#[60, 62, 10, 0]⟩ : ByteArray)[1]'(by decide)).toNat : Int) != ((rs[1]'g2).toNat : Int)) = true := r1
 obtain ⟨t, ht⟩ : ∃ t : ByteArray, (⟨#[60, 62, 10, 0]⟩ : ByteArray).extract 2 4 = t := ⟨_, rfl⟩
 have hix : ∀ w', Calls Tryz.prog 130 #[.string t, .int .u8 ((rs[1]'g2).toNat : Int)] w' fun e w'' => e = .returned (.int .i64 (-1)) ∧ w'' = w' := fun w' => by
  have := Tryz.strings_IndexByte t ((rs[1]'g2).toNat : Int) w'
  rw [Int.toNat_natCast, show ((rs[1]'g2).toNat).toUInt8 = rs[1]'g2 by simp, ← ht, show ((⟨#[60, 62, 10, 0]⟩ : ByteArray).extract 2 4).data.toList = badO.data.toList.drop 2 from Lib.ext_list badO 2, idxByte_high _ _ (notBad _ hb 2), ht] at this
  exact this
 have HIX := Lib.hid hix
 clear hix hr h3 hb
 go_enter Tryz.func154, Tryz.ntmps154
 go_wp2_with (go_at_call 161; refine hv.mono ?_; rintro e w' ⟨rfl, rfl⟩)
 go_step3
 go_wp2
 go_loop [9, 10] (fun i f => i = .int .i64 1 ∧ f = .int .i64 0) (fun _ _ => 0)
 case atStart => exact ⟨rfl, rfl⟩
 case round =>
 obtain ⟨rfl, rfl⟩ := hrel
 clear hv
 go_wp2
 go_step3
 go_wp2
 go_quiet (fail)
 go_wp2
 have hB1 : Below w.heap.size w (w.drewN nq) := Below.drewN (Below.refl _ _) nq
 generalize w.drewN nq = w1 at hB1 ⊢
 go_quiet ((go_at_call 130; exact Calls.quiet_of_same (HIX.out _)))
 go_wp2
 simp only [Exit.noGoto_ret]
 go_wp2
 simp only [Exit.noGoto_ret]
 go_ret
 exact ⟨rfl, Below.drewN hB1 _⟩
set_option maxRecDepth 1000000 in
set_option maxHeartbeats 1000000 in
theorem indexRune_h3O (c : Nat) (w : World) (h1 : 128 ≤ c) (h3 : c ≠ 65533) (hr : Lib.validRune (c : Int) = true) (rs : ByteArray) (hrs : Utf8.encode (c : Int) = rs) (hn : rs.size = 3) (g2 : 2 < rs.size) (hb : 128 ≤ (rs[2]'g2).toNat) :
 Calls Tryz.prog 154 #[.string ⟨#[60, 62, 10, 0]⟩, .int .i32 c] w fun e w' => e = .returned (.int .i64 (-1)) ∧ Below w.heap.size w w' := by
 have q0 : decide ((0 : Int) ≤ (c : Int)) = true := decide_eq_true (by omega)
 have q1 : decide ((c : Int) < 128) = false := decide_eq_false (by omega)
 have q2 : ((c : Int) == 65533) = false := by rw [beq_eq_false_iff_ne]; omega
 have hv : Calls Tryz.prog 161 #[.int .i32 c] w fun e w' => e = .returned (.bool true) ∧ w = w' := (Tryz.utf8_ValidRune (c : Int) w).mono fun _ _ ⟨h1, h2⟩ => ⟨by rw [h1, hr], h2.symm⟩
 have r1 : (!((10 : Int) == ((rs[2]'g2).toNat : Int))) = true := by
  have : ((10 : Int) == ((rs[2]'g2).toNat : Int)) = false := by rw [beq_eq_false_iff_ne]; omega
  rw [this]; rfl
 have r2 : ((((⟨#[60, 62, 10, 0]⟩ : ByteArray)[2]'(by decide)).toNat : Int) != ((rs[2]'g2).toNat : Int)) = true := r1
 obtain ⟨t, ht⟩ : ∃ t : ByteArray, (⟨#[60, 62, 10, 0]⟩ : ByteArray).extract 3 4 = t := ⟨_, rfl⟩
 have hix : ∀ w', Calls Tryz.prog 130 #[.string t, .int .u8 ((rs[2]'g2).toNat : Int)] w' fun e w'' => e = .returned (.int .i64 (-1)) ∧ w'' = w' := fun w' => by
  have := Tryz.strings_IndexByte t ((rs[2]'g2).toNat : Int) w'
  rw [Int.toNat_natCast, show ((rs[2]'g2).toNat).toUInt8 = rs[2]'g2 by simp, ← ht, show ((⟨#[60, 62, 10, 0]⟩ : ByteArray).extract 3 4).data.toList = badO.data.toList.drop 3 from Lib.ext_list badO 3, idxByte_high _ _ (notBad _ hb 3), ht] at this
  exact this
 have HIX := Lib.hid hix
 clear hix hr h3 hb
 go_enter Tryz.func154, Tryz.ntmps154
 go_wp2_with (go_at_call 161; refine hv.mono ?_; rintro e w' ⟨rfl, rfl⟩)
 go_step3
 go_wp2
 go_loop [9, 10] (fun i f => i = .int .i64 2 ∧ f = .int .i64 0) (fun _ _ => 0)
 case atStart => exact ⟨rfl, rfl⟩
 case round =>
 obtain ⟨rfl, rfl⟩ := hrel
 clear hv
 go_wp2
 go_step3
 go_wp2
 go_quiet (fail)
 go_wp2
 have hB1 : Below w.heap.size w (w.drewN nq) := Below.drewN (Below.refl _ _) nq
 generalize w.drewN nq = w1 at hB1 ⊢
 go_quiet ((go_at_call 130; exact Calls.quiet_of_same (HIX.out _)))
 go_wp2
 simp only [Exit.noGoto_ret]
 go_wp2
 simp only [Exit.noGoto_ret]
 go_ret
 exact ⟨rfl, Below.drewN hB1 _⟩
set_option maxRecDepth 1000000 in
set_option maxHeartbeats 1000000 in
theorem indexRune_h4O (c : Nat) (w : World) (h1 : 128 ≤ c) (h3 : c ≠ 65533) (hr : Lib.validRune (c : Int) = true) (rs : ByteArray) (hrs : Utf8.encode (c : Int) = rs) (hn : rs.size = 4) (g2 : 3 < rs.size) (hb : 128 ≤ (rs[3]'g2).toNat) :
 Calls Tryz.prog 154 #[.string ⟨#[60, 62, 10, 0]⟩, .int .i32 c] w fun e w' => e = .returned (.int .i64 (-1)) ∧ Below w.heap.size w w' := by
 have q0 : decide ((0 : Int) ≤ (c : Int)) = true := decide_eq_true (by omega)
 have q1 : decide ((c : Int) < 128) = false := decide_eq_false (by omega)
 have q2 : ((c : Int) == 65533) = false := by rw [beq_eq_false_iff_ne]; omega
 have hv : Calls Tryz.prog 161 #[.int .i32 c] w fun e w' => e = .returned (.bool true) ∧ w = w' := (Tryz.utf8_ValidRune (c : Int) w).mono fun _ _ ⟨h1, h2⟩ => ⟨by rw [h1, hr], h2.symm⟩
 have r1 : (!((0 : Int) == ((rs[3]'g2).toNat : Int))) = true := by
  have : ((0 : Int) == ((rs[3]'g2).toNat : Int)) = false := by rw [beq_eq_false_iff_ne]; omega
  rw [this]; rfl
 have r2 : ((((⟨#[60, 62, 10, 0]⟩ : ByteArray)[3]'(by decide)).toNat : Int) != ((rs[3]'g2).toNat : Int)) = true := r1
 obtain ⟨t, ht⟩ : ∃ t : ByteArray, (⟨#[60, 62, 10, 0]⟩ : ByteArray).extract 4 4 = t := ⟨_, rfl⟩
 have hix : ∀ w', Calls Tryz.prog 130 #[.string t, .int .u8 ((rs[3]'g2).toNat : Int)] w' fun e w'' => e = .returned (.int .i64 (-1)) ∧ w'' = w' := fun w' => by
  have := Tryz.strings_IndexByte t ((rs[3]'g2).toNat : Int) w'
  rw [Int.toNat_natCast, show ((rs[3]'g2).toNat).toUInt8 = rs[3]'g2 by simp, ← ht, show ((⟨#[60, 62, 10, 0]⟩ : ByteArray).extract 4 4).data.toList = badO.data.toList.drop 4 from Lib.ext_list badO 4, idxByte_high _ _ (notBad _ hb 4), ht] at this
  exact this
 have hw4 : IntKind.i64.wrap 4 = 4 := by decide
 have hsl : ∀ w', (Instr.slice 9 (.string ⟨#[60, 62, 10, 0]⟩) (some (.int .i64 4)) none none).run Tryz.prog w' = .ok (.string t) w' := fun w' => by rw [← ht]; kernel_rfl
 have HIX := Lib.hid hix
 clear hix hr h3 hb
 go_enter Tryz.func154, Tryz.ntmps154
 go_wp2_with (go_at_call 161; refine hv.mono ?_; rintro e w' ⟨rfl, rfl⟩)
 go_step3
 go_wp2
 go_loop [9, 10] (fun i f => i = .int .i64 3 ∧ f = .int .i64 0) (fun _ _ => 0)
 case atStart => exact ⟨rfl, rfl⟩
 case round =>
 obtain ⟨rfl, rfl⟩ := hrel
 clear hv
 go_wp2
 go_step3
 go_wp2
 go_quiet (fail)
 go_wp2
 have hB1 : Below w.heap.size w (w.drewN nq) := Below.drewN (Below.refl _ _) nq
 generalize w.drewN nq = w1 at hB1 ⊢
 go_quiet ((go_at_call 130; exact Calls.quiet_of_same (HIX.out _)))
 go_wp2
 simp only [Exit.noGoto_ret]
 go_wp2
 simp only [Exit.noGoto_ret]
 go_ret
 exact ⟨rfl, Below.drewN hB1 _⟩
theorem idxRune_low (c : UInt8) (w : World) (h : c.toNat < 128) :
 Calls Tryz.prog 154 #[.string ⟨#[60, 62, 10, 0]⟩, .int .i32 (c.toNat : Int)] w fun e w' => e = .returned (.int .i64 (Lib.indexByte [60, 62, 10, 0] c)) ∧ w = w' := by
 refine (Tryz.strings_IndexRune_ascii ⟨#[60, 62, 10, 0]⟩ (c.toNat : Int) w (by omega) (by omega)).mono fun e w' ⟨h1, h2⟩ => ⟨?_, h2.symm⟩
 rw [h1, Int.toNat_natCast, show (c.toNat).toUInt8 = c by simp]
theorem idxRune_high (c : Nat) (w : World) (h1 : 128 ≤ c) (h2 : c ≤ 1114111) :
 Calls Tryz.prog 154 #[.string ⟨#[60, 62, 10, 0]⟩, .int .i32 c] w fun e w' => e = .returned (.int .i64 (-1)) ∧ Below w.heap.size w w' := by
 by_cases h3 : c = 65533
 · subst h3; exact indexRune_errO w
 by_cases hr : Lib.validRune (c : Int) = true
 · have hv2 : Utf8.valid (c : Int) = true := by
    unfold Lib.validRune at hr
    have := of_decide_eq_true hr
    unfold Utf8.valid
    simp
    omega
   obtain ⟨f1, f2, f3⟩ := encode_facts (c : Int) hv2 (by omega)
   obtain ⟨rs, hrs⟩ : ∃ rs, Utf8.encode (c : Int) = rs := ⟨_, rfl⟩
   rw [hrs] at f1 f2
   have f3 : ∀ h : rs.size - 1 < rs.size, 128 ≤ (rs[rs.size - 1]'h).toNat := by rw [← hrs]; exact f3
   have hn : rs.size = 2 ∨ rs.size = 3 ∨ rs.size = 4 := by omega
   rcases hn with hn | hn | hn
   · exact indexRune_h2O c w h1 h3 hr rs hrs hn (by omega) (by have := f3 (by omega); simpa [hn] using this)
   · exact indexRune_h3O c w h1 h3 hr rs hrs hn (by omega) (by have := f3 (by omega); simpa [hn] using this)
   · exact indexRune_h4O c w h1 h3 hr rs hrs hn (by omega) (by have := f3 (by omega); simpa [hn] using this)
 · have hr' : Lib.validRune (c : Int) = false := by simpa using hr
   exact indexRune_badO c w h1 h3 hr'
end Go.Proofs.YtihanglnjghcfaaGreatDoor
namespace Go.Proofs.YtihanglnjghcfaaGreatDoor
open Go.RowKit
set_option linter.unusedVariables false
set_option linter.unusedSimpArgs false

def badL : List UInt8 := [60, 62, 10, 0]
theorem badL_low (c : UInt8) (h : 128 ≤ c.toNat) : badL.contains c = false := by
 cases hc : badL.contains c
 · rfl
 · simp [badL] at hc
   rcases hc with rfl | rfl | rfl | rfl <;> revert h <;> decide
theorem getO_toList (s : ByteArray) (i : Nat) (h : i < s.size) : s.data.toList[i]? = some (s.get! i) := by
 have hl : i < s.data.toList.length := by rw [← Lib.size_eq]; exact h
 have := Lib.getD_get!' s i
 rw [List.getD_eq_getElem?_getD, List.getElem?_eq_getElem hl] at this
 rw [List.getElem?_eq_getElem hl]
 simpa using this
/-- A step of the decoder at a byte from 128 on: the rune is one too, and so are the bytes that it takes. -/
theorem decO_high (n b0 b1 b2 b3 : Nat) (h0 : 128 ≤ b0) (hn : 1 ≤ n) (h1 : b0 < 256) (h2 : b1 < 256) (h3 : b2 < 256) (h4 : b3 < 256) :
 128 ≤ (Lib.decodeN n b0 b1 b2 b3).1 ∧ (Lib.decodeN n b0 b1 b2 b3).1 ≤ 1114111 ∧ (Lib.decodeN n b0 b1 b2 b3).2 ≤ n ∧ (Lib.decodeN n b0 b1 b2 b3).2 ≤ 4 ∧ (1 < (Lib.decodeN n b0 b1 b2 b3).2 → 128 ≤ b1) ∧ (2 < (Lib.decodeN n b0 b1 b2 b3).2 → 128 ≤ b2) ∧ (3 < (Lib.decodeN n b0 b1 b2 b3).2 → 128 ≤ b3) := by
 unfold Lib.decodeN
 rw [if_neg (by omega)]
 repeat' split
 all_goals (refine ⟨?_, ?_, ?_, ?_, ?_, ?_, ?_⟩ <;> simp only [] <;> omega)
theorem decO_low (s : ByteArray) (pos : Nat) (h : pos < s.size) (ha : (s.get! pos).toNat < 128) : Utf8.decode s pos = ((s.get! pos).toNat, 1) := by
 rw [Lib.decode_at]; unfold Lib.decodeN; rw [if_pos ha]
theorem noAny_high (s : ByteArray) (pos : Nat) (h : pos < s.size) (ha : 128 ≤ (s.get! pos).toNat) (hN : Lib.NoAny s.data.toList badL pos) :
 Lib.NoAny s.data.toList badL (pos + (Utf8.decode s pos).2) ∧ pos + (Utf8.decode s pos).2 ≤ s.size ∧ 128 ≤ (Utf8.decode s pos).1 ∧ (Utf8.decode s pos).1 ≤ 1114111 := by
 have hd := decO_high (s.size - pos) (s.get! pos).toNat (s.get! (pos + 1)).toNat (s.get! (pos + 2)).toNat (s.get! (pos + 3)).toNat ha (by omega) (UInt8.toNat_lt _) (UInt8.toNat_lt _) (UInt8.toNat_lt _) (UInt8.toNat_lt _)
 rw [← Lib.decode_at] at hd
 generalize (Utf8.decode s pos).1 = c at hd ⊢
 generalize (Utf8.decode s pos).2 = m at hd ⊢
 refine ⟨fun j b hj hb => ?_, by omega, hd.1, hd.2.1⟩
 by_cases hjp : j < pos
 · exact hN j b hjp hb
 · have hlt : j < s.size := by rw [Lib.size_eq]; exact (List.getElem?_eq_some_iff.1 hb).1
   rw [getO_toList s j hlt] at hb
   injection hb with hb
   subst hb
   apply badL_low
   have : j = pos ∨ j = pos + 1 ∨ j = pos + 2 ∨ j = pos + 3 := by omega
   rcases this with rfl | rfl | rfl | rfl
   · exact ha
   · exact hd.2.2.2.2.1 (by omega)
   · exact hd.2.2.2.2.2.1 (by omega)
   · exact hd.2.2.2.2.2.2 (by omega)
def AnyPost (s : ByteArray) (w : World) (e : Ending) (w' : World) : Prop := e = .returned (.int .i64 (Lib.indexAny s.data.toList badL)) ∧ Below w.heap.size w w'
set_option maxRecDepth 1000000 in
set_option maxHeartbeats 4000000 in
theorem indexAny_short (s : ByteArray) (w : World) (h8 : s.size ≤ 8) :
 Calls Tryz.prog 147 #[.string s, .string ⟨#[60, 62, 10, 0]⟩] w (AnyPost s w) := by
 have h8z : decide ((8 : Int) < (s.size : Int)) = false := decide_eq_false (by omega)
 go_enter Tryz.func147, Tryz.ntmps147
 go_wp2_with (go_at_call 155; refine (Tryz.strings_shouldUseASCIISet (s.size : Int) _).mono ?_; rintro e w' ⟨rfl, hw⟩; rw [hw, h8z])
 have hB0 : Below w.heap.size w (w.iter s 0) := (Below.refl _ _).alloc (Nat.le_refl _) _
 have hi0 : (w.iter s 0).heap[w.heap.size]? = some (.stringIter s 0) := heap_alloc_new w _
 generalize hkk : w.heap.size = kk at *
 generalize w.iter s 0 = w0 at *
 have HKK := Lib.hid hkk
 clear hkk
 go_loopw [9, 10] (fun _ _ wr => ∃ pos : Nat, wr.heap[kk]? = some (.stringIter s pos) ∧ Below kk w wr ∧ pos ≤ s.size ∧ Lib.NoAny s.data.toList badL pos) (fun _ _ wr => s.size - wr.iterPos kk)
 case atStart => exact ⟨0, hi0, hB0, by omega, Lib.NoAny.zero _ _⟩
 case round =>
  obtain ⟨pos, hit, hB, hps, hno⟩ := hrel
  clear hi0 hB0
  have HN := Lib.hid hno
  clear hno
  by_cases hp : pos < s.size
  · obtain ⟨r, hr⟩ : ∃ r, (Utf8.decode s pos).1 = r := ⟨_, rfl⟩
    obtain ⟨m, hm⟩ : ∃ m, (Utf8.decode s pos).2 = m := ⟨_, rfl⟩
    have hm1 : 1 ≤ m := by rw [← hm]; exact Lib.decode_width_pos s pos hp
    have hnx : ∀ ty, (Instr.next (.pointer (some ⟨kk, 0, none⟩)) true ty).run Tryz.prog wr = .ok (.tuple #[.bool true, .int .i64 pos, .int .i32 r]) (wr.iterAt kk s (pos + m)) := fun ty => by rw [Lib.run_next_any_at (P := Tryz.prog) wr kk s pos ty hit hp, hr, hm]
    have hit2 := Lib.iterAt_heap wr kk s pos (pos + m) hit
    have hB2 : Below kk w (wr.iterAt kk s (pos + m)) := Lib.below_iterAt hB (Nat.le_refl _) s (pos + m)
    have hkk : kk < (wr.iterAt kk s (pos + m)).heap.size := by
     rw [Lib.iterAt_size]
     exact (Array.getElem?_eq_some_iff.1 hit).1
    by_cases ha : (s.get! pos).toNat < 128
    · have hd := decO_low s pos hp ha
      rw [hd] at hr hm
      simp only [] at hr hm
      subst hr
      subst hm
      have hcr := idxRune_low (s.get! pos) (wr.iterAt kk s (pos + 1)) ha
      have hxl := getO_toList s pos hp
      have hcon := Lib.contains_iff_indexByte badL (s.get! pos)
      cases hin : badL.contains (s.get! pos)
      · rw [hin] at hcon
        have hlt : ¬ ((0 : Int) ≤ Lib.indexByte [60, 62, 10, 0] (s.get! pos)) := of_decide_eq_false hcon.symm
        have HS := Lib.hid (HN.out.succ hxl hin)
        clear hcon hxl hin hd
        go_wp2_with (go_at_call 154; refine hcr.mono ?_; rintro e w' ⟨rfl, rfl⟩)
        go_roundw
        case rel => exact ⟨pos + 1, hit2, hB2, by omega, HS.out⟩
        case measure =>
         rw [World.iterPos, World.iterPos, hit, hit2]
         simp
         omega
      · rw [hin] at hcon
        have hge : (0 : Int) ≤ Lib.indexByte [60, 62, 10, 0] (s.get! pos) := of_decide_eq_true hcon.symm
        have HS := Lib.hid (Lib.indexAny_hit HN.out hxl hin)
        clear hcon hxl hin hd
        go_wp2_with (go_at_call 154; refine hcr.mono ?_; rintro e w' ⟨rfl, rfl⟩)
        go_ret
        unfold AnyPost
        rw [HS.out]
        exact ⟨rfl, by rw [HKK.out]; exact hB2⟩
    · obtain ⟨g1, g2, g3, g4⟩ := noAny_high s pos hp (by omega) HN.out
      rw [hm] at g1 g2
      rw [hr] at g3 g4
      have HS := Lib.hid g1
      clear hr hm g1 ha
      have hcr := idxRune_high r (wr.iterAt kk s (pos + m)) g3 g4
      go_wp2_with (go_at_call 154; refine hcr.mono ?_; rintro e w' ⟨rfl, hb⟩)
      have hit3 : w'.heap[kk]? = some (.stringIter s (pos + m)) := (hb.block kk hkk).trans hit2
      have hB3 : Below kk w w' := hB2.trans (hb.mono (Nat.le_of_lt hkk))
      go_roundw
      case rel => exact ⟨pos + m, hit3, hB3, g2, HS.out⟩
      case measure =>
       rw [World.iterPos, World.iterPos, hit, hit3]
       simp
       omega
  · obtain rfl : pos = s.size := by omega
    have hnx : ∀ ty, (Instr.next (.pointer (some ⟨kk, 0, none⟩)) true ty).run Tryz.prog wr = _ := fun ty => Lib.run_next_end_at (P := Tryz.prog) wr kk s s.size ty hit hp
    have HS := Lib.hid (Lib.indexAny_none (by rw [← Lib.size_eq]; exact HN.out))
    go_wp2
    go_ret
    unfold AnyPost
    rw [HS.out]
    exact ⟨rfl, by rw [HKK.out]; exact hB⟩
end Go.Proofs.YtihanglnjghcfaaGreatDoor
namespace Go.Proofs.YtihanglnjghcfaaGreatDoor
open Go.RowKit
set_option linter.unusedVariables false
set_option linter.unusedSimpArgs false

def setO : Array Value := Lib.setCells badL
theorem setO_size : setO.size = 256 := Lib.setCells_size _
theorem setO_at (x : UInt8) : setO[x.toNat]? = some (.bool (badL.contains x)) := Lib.setCells_at _ x
theorem set_info : (Tryz.prog.info? 195).map (fun i => (i.zero, i.size)) = some (some (.agg (Array.replicate 256 (.bool false))), 256) := by kernel_rfl
theorem makeSet (w : World) : Calls Tryz.prog 138 #[.string ⟨#[60, 62, 10, 0]⟩] w fun e w' => e = .returned (.tuple #[.agg setO, .bool true]) ∧ w' = w.alloc (.cells setO 195) :=
 Tryz.strings_makeASCIISet (zero_of_info set_info).1 ⟨#[60, 62, 10, 0]⟩ w (by decide) (fun j b hb => by
  have : j = 0 ∨ j = 1 ∨ j = 2 ∨ j = 3 := by
   have := (List.getElem?_eq_some_iff.1 hb).1
   simp at this; omega
  rcases this with rfl | rfl | rfl | rfl <;> (simp at hb; subst hb; decide))
set_option maxRecDepth 1000000 in
set_option maxHeartbeats 4000000 in
theorem indexAny_long (s : ByteArray) (w : World) (h8 : 8 < s.size) (hs : s.size ≤ 140737488355328) :
 Calls Tryz.prog 147 #[.string s, .string ⟨#[60, 62, 10, 0]⟩] w (AnyPost s w) := by
 have h8z : decide ((8 : Int) < (s.size : Int)) = true := decide_eq_true (by omega)
 have HM := Lib.hid (fun w => makeSet w)
 have hsc : Lib.Kept ((storeCells ⟨w.heap.size + 1, 0, none⟩ setO.toList 0).run Tryz.prog ((w.alloc (.cells setO 195)).alloc (.cells Tryz.zeroCells195 195)) = .ok () ((w.alloc (.cells setO 195)).alloc (.cells setO 195))) := by
  have h := run_storeCells_new (P := Tryz.prog) (w.alloc (.cells setO 195)) 195 Tryz.zeroCells195 setO (by rw [setO_size]; exact (zero_of_info set_info).2) (by rw [setO_size]; kernel_rfl) (Lib.setCells_one _)
  rw [show (w.alloc (.cells setO 195)).heap.size = w.heap.size + 1 by simp] at h
  exact h
 have HSZ := Lib.hid setO_size
 have HAT := Lib.hid setO_at
 go_enter Tryz.func147, Tryz.ntmps147
 go_wp2_with (first
  | (go_at_call 155; refine (Tryz.strings_shouldUseASCIISet (s.size : Int) _).mono ?_; rintro e w' ⟨rfl, hw⟩; rw [hw, h8z])
  | (go_at_call 138; refine (HM.out _).mono ?_; rintro e w1 ⟨rfl, hw1⟩))
 have hsc' : (storeCells ⟨w.heap.size + 1, 0, none⟩ setO.toList 0).run Tryz.prog ((w.alloc (.cells setO 195)).alloc (.cells Tryz.zeroCells195 195)) = .ok () ((w.alloc (.cells setO 195)).alloc (.cells setO 195)) := hsc
 rw [hsc']
 simp only [Result.andThen]
 rw [Oper.upon_skip]
 clear hsc hsc'
 have hcl : ∀ x : UInt8, ((w.alloc (.cells setO 195)).alloc (.cells setO 195)).cell? ⟨w.heap.size + 1, x.toNat, none⟩ = some (.bool (badL.contains x)) := fun x => by
  rw [World.cell?_alloc_at _ _ _ _ (by simp)]; exact setO_at x
 have hbl : Below w.heap.size w ((w.alloc (.cells setO 195)).alloc (.cells setO 195)) := ((Below.refl _ _).alloc (Nat.le_refl _) _).alloc (by simp) _
 have HC := Lib.hid hcl
 have HB := Lib.hid hbl
 generalize (w.alloc (.cells setO 195)).alloc (.cells setO 195) = w0 at *
 generalize hgg : w.heap.size + 1 = gg at *
 clear hcl hbl HAT hgg
 go_wp2
 go_loopw [8] (fun v wr => ∃ i : Nat, i ≤ s.size ∧ v = .int .i64 (i : Int) ∧ wr = w0 ∧ Lib.NoAny s.data.toList badL i) (fun v _ => s.size - (intOf v).toNat)
 case atStart => exact ⟨0, by omega, rfl, rfl, Lib.NoAny.zero _ _⟩
 case round =>
  obtain ⟨i, hi, rfl, rfl, hno⟩ := hrel
  have HN := Lib.hid hno
  clear hno
  by_cases hlt : i < s.size
  · have d0 : decide ((i : Int) < (s.size : Int)) = true := decide_eq_true (by omega)
    have hxl : s.data.toList[i]? = some (s[i]'hlt) := Lib.data_getElem? s i hlt
    have hcx := Tryz.asciiSet_contains gg (s[i]'hlt) _ wr (HC.out (s[i]'hlt))
    cases hin : badL.contains (s[i]'hlt)
    · rw [hin] at hcx
      have HS := Lib.hid (HN.out.succ hxl hin)
      clear hxl hin
      go_wp2_with (go_at_call 148; refine hcx.mono ?_; rintro e w' ⟨rfl, rfl⟩)
      go_roundw
      case rel => exact ⟨i + 1, by omega, by go_num, by first | rfl | trivial, HS.out⟩
      case measure => simp [intOf]; omega
    · rw [hin] at hcx
      have HS := Lib.hid (Lib.indexAny_hit HN.out hxl hin)
      clear hxl hin
      go_wp2_with (go_at_call 148; refine hcx.mono ?_; rintro e w' ⟨rfl, rfl⟩)
      go_ret
      unfold AnyPost
      rw [HS.out]
      exact ⟨rfl, HB.out⟩
  · obtain rfl : i = s.size := by omega
    have d0 : decide ((s.size : Int) < (s.size : Int)) = false := decide_eq_false (by omega)
    have HS := Lib.hid (Lib.indexAny_none (by rw [← Lib.size_eq]; exact HN.out))
    go_wp2
    go_ret
    unfold AnyPost
    rw [HS.out]
    exact ⟨rfl, HB.out⟩
end Go.Proofs.YtihanglnjghcfaaGreatDoor
namespace Go.Proofs.YtihanglnjghcfaaGreatDoor
open Go.RowKit
set_option linter.unusedVariables false
set_option linter.unusedSimpArgs false

theorem indexAny_any (s : ByteArray) (w : World) (hs : s.size ≤ 140737488355328) :
 Calls Tryz.prog 147 #[.string s, .string ⟨#[60, 62, 10, 0]⟩] w (AnyPost s w) := by
 by_cases h : 8 < s.size
 · exact indexAny_long s w h hs
 · exact indexAny_short s w (by omega)
set_option maxRecDepth 100000 in
theorem containsAny_any (s : ByteArray) (w : World) (hs : s.size ≤ 140737488355328) :
 Calls Tryz.prog 131 #[.string s, .string ⟨#[60, 62, 10, 0]⟩] w fun e w' => e = .returned (.bool (Lib.containsAny s.data.toList badL)) ∧ Below w.heap.size w w' := by
 have H := Lib.hid (indexAny_any s w hs)
 unfold Lib.containsAny
 unfold AnyPost at H
 generalize Lib.indexAny s.data.toList badL = X at *
 go_enter Tryz.func131, Tryz.ntmps131
 go_wp2_with (go_at_call 147; refine H.out.mono ?_; rintro e w1 ⟨rfl, hb⟩)
 go_ret
 exact ⟨rfl, hb⟩
/-- A text of valid characters, none of them one of those. -/
def textB (l : List UInt8) : Bool := Lib.validD l && !Lib.containsAny l badL
set_option maxRecDepth 100000 in
theorem text_any (s : ByteArray) (w : World) (hE : EnvO w) (hs : s.size ≤ 140737488355328) :
 Calls Tryz.prog 114 #[.string s, .string ⟨#[60, 62, 10, 0]⟩] w fun e w' => e = .returned (.bool (textB s.data.toList)) ∧ Below w.heap.size w w' := by
 have hv := Any.utf8_ValidString Tryz.lays196 s w (by omega) hE.tabs
 have hv : Calls Tryz.prog 123 #[.string s] w fun e w' => e = .returned (.bool (Lib.validD s.data.toList)) ∧ Below w.heap.size w w' := hv
 have HC := Lib.hid (fun w => containsAny_any s w hs)
 unfold textB
 cases h1 : Lib.validD s.data.toList
 · rw [h1] at hv
   clear h1
   go_enter Tryz.func114, Tryz.ntmps114
   go_wp2_with (go_at_call 123; refine hv.mono ?_; rintro e w1 ⟨rfl, hb1⟩)
   go_ret
   exact ⟨rfl, hb1⟩
 · rw [h1] at hv
   clear h1
   generalize Lib.containsAny s.data.toList badL = X at *
   go_enter Tryz.func114, Tryz.ntmps114
   go_wp2_with (first
    | (go_at_call 131; have hx := hb1; refine (HC.out w1).mono ?_; rintro e w2 ⟨rfl, hb2⟩)
    | (go_at_call 123; refine hv.mono ?_; rintro e w1 ⟨rfl, hb1⟩))
   go_ret
   exact ⟨by simp, hb1.trans (hb2.mono hb1.size)⟩
theorem trim_any (s : ByteArray) (w : World) (hs : s.size ≤ 9223372036854775807) :
 Calls Tryz.prog 124 #[.string s, .string ⟨#[48, 49, 50, 51, 52, 53, 54, 55, 56, 57]⟩] w fun e w' => e = .returned (.string ⟨(Lib.trimS s.data.toList [48, 49, 50, 51, 52, 53, 54, 55, 56, 57]).toArray⟩) ∧ Below w.heap.size w w' :=
 Any.strings_Trim_laid Tryz.lays160 (by kernel_rfl) s ⟨#[48, 49, 50, 51, 52, 53, 54, 55, 56, 57]⟩ w hs (by decide) (fun j b hb => by
  have : j < 10 := by
   have := (List.getElem?_eq_some_iff.1 hb).1
   simpa using this
  have : b ∈ ([48, 49, 50, 51, 52, 53, 54, 55, 56, 57] : List UInt8) := List.mem_of_getElem? hb
  revert this
  generalize b = b
  intro hm
  simp only [List.mem_cons, List.not_mem_nil, or_false] at hm
  rcases hm with rfl | rfl | rfl | rfl | rfl | rfl | rfl | rfl | rfl | rfl <;> decide)
end Go.Proofs.YtihanglnjghcfaaGreatDoor
namespace Go.Proofs.YtihanglnjghcfaaGreatDoor
set_option linter.unusedVariables false

/-- A step of the decoder at a byte from 128 on: the rune is one too, and so are the bytes that it takes. -/
theorem decodeN_high (n b0 b1 b2 b3 : Nat) (h0 : 128 ≤ b0) (hn : 1 ≤ n) :
 128 ≤ (Lib.decodeN n b0 b1 b2 b3).1 ∧ (Lib.decodeN n b0 b1 b2 b3).2 ≤ n ∧ (Lib.decodeN n b0 b1 b2 b3).2 ≤ 4 ∧ (1 < (Lib.decodeN n b0 b1 b2 b3).2 → 128 ≤ b1) ∧ (2 < (Lib.decodeN n b0 b1 b2 b3).2 → 128 ≤ b2) ∧ (3 < (Lib.decodeN n b0 b1 b2 b3).2 → 128 ≤ b3) := by
 unfold Lib.decodeN
 rw [if_neg (by omega)]
 repeat' split
 all_goals (refine ⟨?_, ?_, ?_, ?_, ?_, ?_⟩ <;> simp only [] <;> omega)
/-- U+FFFD is an error's or its own three bytes'. -/
theorem decodeN_err (n b0 b1 b2 b3 : Nat) (h0 : b0 < 256) (h1 : b1 < 256) (h2 : b2 < 256) :
 ((Lib.decodeN n b0 b1 b2 b3).1 = 65533 ∧ (Lib.decodeN n b0 b1 b2 b3).2 = 1) ↔ ((Lib.decodeN n b0 b1 b2 b3).1 = 65533 ∧ (n < 3 ∨ ¬ (b0 = 239 ∧ b1 = 191 ∧ b2 = 189))) := by
 unfold Lib.decodeN
 repeat' split
 all_goals first | (simp only []; omega) | (refine iff_of_true ⟨rfl, rfl⟩ ⟨rfl, ?_⟩; omega)

section
variable (s : ByteArray)
theorem get_toList (i : Nat) (h : i < s.size) : s.data.toList[i]? = some (s.get! i) := by
 have hl : i < s.data.toList.length := by rw [← Lib.size_eq]; exact h
 have := Lib.getD_get!' s i
 rw [List.getD_eq_getElem?_getD, List.getElem?_eq_getElem hl] at this
 rw [List.getElem?_eq_getElem hl]
 simpa using this
theorem decodeL_drop (pos : Nat) : Lib.decodeL (s.data.toList.drop pos) = Utf8.decode s pos := by
 have h := Lib.tail_decode s pos 0
 rw [Nat.add_zero] at h
 rw [← h]
 unfold Lib.decodeL
 congr 1
 rw [← Lib.ext_list, Lib.mk_data]
/-- What the document's loop over the runes comes to. -/
theorem valid_at (pos : Nat) (h : pos < s.size) : Lib.validD (s.data.toList.drop pos) = if (Utf8.decode s pos).1 = 65533 ∧ (s.size - pos < 3 ∨ (s.data.toList.drop pos).take 3 ≠ [239, 191, 189]) then false else Lib.validD (s.data.toList.drop (pos + (Utf8.decode s pos).2)) := by
 have hl : pos < s.data.toList.length := by rw [← Lib.size_eq]; exact h
 rw [Lib.validD_step _ (by intro he; have := congrArg List.length he; rw [List.length_drop] at this; simp at this; omega), decodeL_drop, List.drop_drop]
 have hd := decodeN_err (s.size - pos) (s.get! pos).toNat (s.get! (pos + 1)).toNat (s.get! (pos + 2)).toNat (s.get! (pos + 3)).toNat (UInt8.toNat_lt _) (UInt8.toNat_lt _) (UInt8.toNat_lt _)
 rw [← Lib.decode_at] at hd
 have he : ((Utf8.decode s pos).1 = 65533 ∧ (Utf8.decode s pos).2 = 1) ↔ ((Utf8.decode s pos).1 = 65533 ∧ (s.size - pos < 3 ∨ (s.data.toList.drop pos).take 3 ≠ [239, 191, 189])) := by
  rw [hd]
  refine and_congr_right fun _ => ?_
  by_cases h3 : s.size - pos < 3
  · simp [h3]
  · have e : (s.data.toList.drop pos).take 3 = [s.get! pos, s.get! (pos + 1), s.get! (pos + 2)] := by
     apply List.ext_getElem?
     intro j
     rw [List.getElem?_take]
     by_cases hj : j < 3
     · rw [if_pos hj, List.getElem?_drop, get_toList s (pos + j) (by omega)]
       have : j = 0 ∨ j = 1 ∨ j = 2 := by omega
       rcases this with rfl | rfl | rfl <;> rfl
     · rw [if_neg hj, List.getElem?_eq_none (by simp; omega)]
    rw [e]
    have u : ∀ (x : UInt8) (k : Nat) (hk : k < 256), x.toNat = k ↔ x = UInt8.ofNat k := fun x k hk => by
     constructor
     · rintro rfl; simp
     · rintro rfl; simp [Nat.mod_eq_of_lt hk]
    rw [u _ 239 (by omega), u _ 191 (by omega), u _ 189 (by omega)]
    simp only [h3, false_or, ne_eq, List.cons.injEq, and_true]
    exact Iff.rfl
 by_cases hx : (Utf8.decode s pos).1 = 65533 ∧ (Utf8.decode s pos).2 = 1
 · rw [if_pos hx, if_pos (he.1 hx)]
 · rw [if_neg hx, if_neg (fun h' => hx (he.2 h'))]
theorem valid_end (pos : Nat) (h : ¬ pos < s.size) : Lib.validD (s.data.toList.drop pos) = true := by
 rw [List.drop_eq_nil_of_le (by rw [← Lib.size_eq]; omega)]
 rfl
end
end Go.Proofs.YtihanglnjghcfaaGreatDoor
namespace Go.Proofs.YtihanglnjghcfaaGreatDoor
open Go.RowKit
set_option linter.unusedVariables false

set_option maxRecDepth 100000 in
set_option maxHeartbeats 1000000 in
theorem utf8_any (s : ByteArray) (w : World) (hs : s.size ≤ 140737488355328) :
 Calls Tryz.prog 91 #[.string s] w fun e w' => e = .returned (.bool (Lib.validD s.data.toList)) ∧ Below w.heap.size w w' := by
 go_enter Tryz.func91, Tryz.ntmps91
 go_wp2
 go_loopw [3] (fun _ w' => ∃ pos : Nat, w' = w.iter s pos ∧ Lib.validD (s.data.toList.drop pos) = Lib.validD s.data.toList) (fun _ w' => s.size - w'.iterPos w.heap.size)
 case atStart => exact ⟨0, rfl, by rw [List.drop_zero]⟩
 case round =>
  obtain ⟨pos, rfl, hv⟩ := hrel
  have HV := Lib.hid hv
  clear hv
  by_cases hp : pos < s.size
  · have hnx : ∀ ty, (Instr.next (.pointer (some ⟨w.heap.size, 0, none⟩)) true ty).run Tryz.prog (w.iter s pos) = _ := fun ty => run_next_any w s pos ty hp
    have hwd := Lib.decode_width_pos s pos hp
    have hva := valid_at s pos hp
    have hx : (s.extract pos (pos + 3)).toList = (s.data.toList.drop pos).take 3 := by rw [Lib.extract_toList, Nat.add_sub_cancel_left]
    by_cases hc : (Utf8.decode s pos).1 = 65533
    · have q1 : (((Utf8.decode s pos).1 : Int) == 65533) = true := by rw [hc]; rfl
      by_cases h3 : s.size - pos < 3
      · have q2 : decide ((s.size : Int) - (pos : Int) < 3) = true := decide_eq_true (by omega)
        rw [if_pos ⟨hc, .inl h3⟩, HV.out] at hva
        have HA := Lib.hid hva
        clear hva HV hx
        go_wp2
        go_ret
        rw [HA.out]
        exact ⟨rfl, (Below.refl _ _).alloc (Nat.le_refl _) _⟩
      · have q2 : decide ((s.size : Int) - (pos : Int) < 3) = false := decide_eq_false (by omega)
        by_cases h4 : (s.data.toList.drop pos).take 3 = [239, 191, 189]
        · have q3 : ((s.extract pos (pos + 3)).toList == [239, 191, 189]) = true := by rw [hx, h4]; rfl
          have q4 : (!(s.extract pos (pos + 3)).toList == [239, 191, 189]) = false := by rw [q3]; rfl
          rw [if_neg (by rintro ⟨_, h | h⟩; exact h3 h; exact h h4), HV.out] at hva
          have HA := Lib.hid hva
          clear hva HV hx h4
          go_wp2
          go_roundw
          case rel => exact ⟨pos + (Utf8.decode s pos).2, rfl, HA.out.symm⟩
          case measure => simp; omega
        · have q3 : ((s.extract pos (pos + 3)).toList == [239, 191, 189]) = false := by rw [hx, beq_eq_false_iff_ne]; exact h4
          have q4 : (!(s.extract pos (pos + 3)).toList == [239, 191, 189]) = true := by rw [q3]; rfl
          rw [if_pos ⟨hc, .inr h4⟩, HV.out] at hva
          have HA := Lib.hid hva
          clear hva HV hx h4
          go_wp2
          go_ret
          rw [HA.out]
          exact ⟨rfl, (Below.refl _ _).alloc (Nat.le_refl _) _⟩
    · have q1 : (((Utf8.decode s pos).1 : Int) == 65533) = false := by rw [beq_eq_false_iff_ne]; omega
      rw [if_neg (fun h => hc h.1), HV.out] at hva
      have HA := Lib.hid hva
      clear hva HV hx
      go_wp2
      go_roundw
      case rel => exact ⟨pos + (Utf8.decode s pos).2, rfl, HA.out.symm⟩
      case measure => simp; omega
  · have hnx : ∀ ty, (Instr.next (.pointer (some ⟨w.heap.size, 0, none⟩)) true ty).run Tryz.prog (w.iter s pos) = _ := fun ty => run_next_end w s pos ty hp
    rw [valid_end s pos hp] at HV
    go_wp2
    go_ret
    rw [← HV.out]
    exact ⟨rfl, (Below.refl _ _).alloc (Nat.le_refl _) _⟩
end Go.Proofs.YtihanglnjghcfaaGreatDoor
namespace Go.Proofs.YtihanglnjghcfaaGreatDoor
open Go.RowKit
set_option linter.unusedVariables false
set_option linter.unusedSimpArgs false

/-- What upto tells. -/
def UptoPost (s : ByteArray) (c : UInt8) (w : World) (e : Ending) (w' : World) : Prop :=
 Below w.heap.size w w' ∧ ((c ∉ s.data.toList ∧ e = .returned (.tuple #[.string ⟨#[]⟩, .string ⟨#[]⟩, .bool false])) ∨
  ∃ i : Nat, i < s.size ∧ s.data.toList[i]? = some c ∧ (∀ j, j < i → s.data.toList[j]? ≠ some c) ∧ e = .returned (.tuple #[.string (s.extract 0 i), .string (s.extract (i + 1) s.size), .bool true]))
set_option maxRecDepth 100000 in
theorem upto_any (s : ByteArray) (c : UInt8) (w : World) (hs : s.size ≤ 140737488355328) : Calls Tryz.prog 66 #[.string s, .int .u8 (c.toNat : Int)] w (UptoPost s c w) := by
 go_enter Tryz.func66, Tryz.ntmps66
 go_wp2
 go_loopw [7] (fun v wr => ∃ i : Nat, v = .int .i64 (i : Int) ∧ i ≤ s.size ∧ (∃ m, wr = w.drewN m) ∧ ∀ j, j < i → s.data.toList[j]? ≠ some c) (fun v _ => s.size - (intOf v).toNat)
 case atStart => exact ⟨0, rfl, by omega, ⟨0, rfl⟩, fun j h => by omega⟩
 case round =>
  obtain ⟨i, rfl, hi, ⟨m, rfl⟩, hno⟩ := hrel
  have HN := Lib.hid hno
  clear hno
  by_cases hlt : i < s.size
  · have d0 : decide ((i : Int) < (s.size : Int)) = true := decide_eq_true (by omega)
    have hx := Lib.data_getElem? s i hlt
    by_cases hc : s[i]'hlt = c
    · have q : ((((s[i]'hlt).toNat : Nat) : Int) == (c.toNat : Int)) = true := by rw [hc]; simp
      have HX : Hid (s.data.toList[i]? = some c) := Lib.hid (by rw [hx, hc])
      clear hx hc
      go_wp2
      go_quiet (fail)
      go_wp2
      go_ret3
      exact ⟨Below.drewN (Below.drewN (Below.refl _ _) _) _, .inr ⟨i, hlt, HX.out, HN.out, rfl⟩⟩
    · have q : ((((s[i]'hlt).toNat : Nat) : Int) == (c.toNat : Int)) = false := by
       rw [beq_eq_false_iff_ne]
       intro h
       exact hc (UInt8.toNat_inj.1 (by omega))
      have HS : Hid (∀ j, j < i + 1 → s.data.toList[j]? ≠ some c) := Lib.hid (fun j hj => by
       by_cases e : j = i
       · rw [e, hx]; intro h; exact hc (Option.some.inj h)
       · exact HN.out j (by omega))
      clear hx hc
      go_wp2
      go_roundw
      case rel => exact ⟨i + 1, by go_num, by omega, ⟨m, rfl⟩, HS.out⟩
      case measure => simp [intOf]; omega
  · obtain rfl : i = s.size := by omega
    have d0 : decide ((s.size : Int) < (s.size : Int)) = false := decide_eq_false (by omega)
    go_wp2
    go_ret3
    refine ⟨Below.drewN (Below.refl _ _) _, .inl ⟨fun hm => ?_, rfl⟩⟩
    obtain ⟨j, hj, e⟩ := List.mem_iff_getElem.1 hm
    exact HN.out j (by rw [Lib.size_eq]; exact hj) (by rw [List.getElem?_eq_getElem hj, e])
/-- A text of valid characters, none of its bytes one of those. -/
def withoutB (l bad : List UInt8) : Bool := Lib.validD l && !Lib.containsAny l bad
theorem withoutB_hit {l bad : List UInt8} {i : Nat} {x : UInt8} (hN : Lib.NoAny l bad i) (hx : l[i]? = some x) (hc : bad.contains x = true) : withoutB l bad = false := by
 unfold withoutB Lib.containsAny
 rw [Lib.indexAny_hit hN hx hc, decide_eq_true (by omega)]
 simp
set_option maxRecDepth 100000 in
theorem without_any (s bad : ByteArray) (w : World) (hs : s.size ≤ 140737488355328) (hbs : bad.size ≤ 100) : Calls Tryz.prog 74 #[.string s, .string bad] w fun e w' => e = .returned (.bool (withoutB s.data.toList bad.data.toList)) ∧ Below w.heap.size w w' := by
 have HU := Lib.hid (fun w => utf8_any s w hs)
 have HRES : Hid (withoutB s.data.toList bad.data.toList = withoutB s.data.toList bad.data.toList) := Lib.hid rfl
 generalize hR : withoutB s.data.toList bad.data.toList = R at *
 have HR := Lib.hid hR
 clear hR HRES
 go_enter Tryz.func74, Tryz.ntmps74
 go_wp2
 go_loopw [5, 6] (fun v _ wr => ∃ i : Nat, v = .int .i64 (i : Int) ∧ i ≤ s.size ∧ Below w.heap.size w wr ∧ Lib.NoAny s.data.toList bad.data.toList i) (fun v _ _ => s.size - (intOf v).toNat)
 case atStart => exact ⟨0, rfl, by omega, Below.refl _ _, Lib.NoAny.zero _ _⟩
 case round =>
  obtain ⟨i, rfl, hi, hB, hno⟩ := hrel
  have HN := Lib.hid hno
  have HB := Lib.hid hB
  clear hno hB
  by_cases hlt : i < s.size
  · have d0 : decide ((i : Int) < (s.size : Int)) = true := decide_eq_true (by omega)
    have hx := Lib.data_getElem? s i hlt
    have HX := Lib.hid hx
    clear hx
    go_wp2
    go_loopw [6] (fun v wx => ∃ k : Nat, v = .int .i64 (k : Int) ∧ k ≤ bad.size ∧ Below w.heap.size w wx ∧ ∀ j, j < k → bad.data.toList[j]? ≠ some (s[i]'hlt)) (fun v _ => bad.size - (intOf v).toNat)
    case atStart => exact ⟨0, rfl, by omega, HB.out, fun j h => by omega⟩
    case round =>
     obtain ⟨k, rfl, hk, hB2, hno2⟩ := hrel
     have HN2 := Lib.hid hno2
     have HB2 := Lib.hid hB2
     clear hno2 hB2
     by_cases hkl : k < bad.size
     · have d1 : decide ((k : Int) < (bad.size : Int)) = true := decide_eq_true (by omega)
       have hy := Lib.data_getElem? bad k hkl
       by_cases hc : s[i]'hlt = bad[k]'hkl
       · have q : ((((s[i]'hlt).toNat : Nat) : Int) == (((bad[k]'hkl).toNat : Nat) : Int)) = true := by rw [hc]; simp
         have HC : Hid (bad.data.toList.contains (s[i]'hlt) = true) := Lib.hid (by
          rw [List.contains_iff_mem, hc]; exact List.mem_of_getElem? hy)
         have HS := Lib.hid (HR.out.symm.trans (withoutB_hit HN.out HX.out HC.out))
         clear hy hc
         go_wp2
         go_quiet (fail)
         go_wp2
         go_ret
         exact ⟨by rw [HS.out]; rfl, Below.drewN HB2.out _⟩
       · have q : ((((s[i]'hlt).toNat : Nat) : Int) == (((bad[k]'hkl).toNat : Nat) : Int)) = false := by
          rw [beq_eq_false_iff_ne]
          intro h
          exact hc (UInt8.toNat_inj.1 (by omega))
         have HS : Hid (∀ j, j < k + 1 → bad.data.toList[j]? ≠ some (s[i]'hlt)) := Lib.hid (fun j hj => by
          by_cases e : j = k
          · rw [e, hy]; intro h; exact hc (Option.some.inj h).symm
          · exact HN2.out j (by omega))
         clear hy hc
         go_wp2
         go_quiet (fail)
         go_wp2
         go_roundw
         case rel => exact ⟨k + 1, by go_num, by omega, Below.drewN HB2.out _, HS.out⟩
         case measure => simp [intOf]; omega
     · obtain rfl : k = bad.size := by omega
       have d1 : decide ((bad.size : Int) < (bad.size : Int)) = false := decide_eq_false (by omega)
       have HS : Hid (Lib.NoAny s.data.toList bad.data.toList (i + 1)) := Lib.hid (HN.out.succ HX.out (by
        cases hc : bad.data.toList.contains (s[i]'hlt)
        · rfl
        · rw [List.contains_iff_mem] at hc
          obtain ⟨j, hj, e⟩ := List.mem_iff_getElem.1 hc
          exact absurd (by rw [List.getElem?_eq_getElem hj, e]) (HN2.out j (by rw [Lib.size_eq]; exact hj))))
       go_wp2
       go_roundw
       case rel => exact ⟨i + 1, by go_num, by omega, HB2.out, HS.out⟩
       case measure => simp [intOf]; omega
  · obtain rfl : i = s.size := by omega
    have d0 : decide ((s.size : Int) < (s.size : Int)) = false := decide_eq_false (by omega)
    have HS : Hid (R = Lib.validD s.data.toList) := Lib.hid (by
     rw [← HR.out]
     unfold withoutB Lib.containsAny
     rw [Lib.indexAny_none (by rw [← Lib.size_eq]; exact HN.out)]
     simp)
    go_wp2_with (refine (HU.out wr).mono ?_; rintro e w1 ⟨rfl, hb1⟩)
    go_ret
    exact ⟨by rw [HS.out]; rfl, HB.out.trans (hb1.mono HB.out.size)⟩
end Go.Proofs.YtihanglnjghcfaaGreatDoor
