/- strings.IndexAny, strings.ContainsAny at the bytes that a person's text may not have: any text. -/
import Derived.Test.YtdlabapfcghfmaaDoorObC
import Derived.Lib.IndexAny
import Derived.Lib.OthersKept
namespace Go.Proofs.YtdlabapfcghfmaaDoor
open Go.RowKit
set_option linter.unusedVariables false
set_option linter.unusedSimpArgs false

def badL : List UInt8 := [60, 62, 10, 0]
theorem badL_low (c : UInt8) (h : 128 ≤ c.toNat) : badL.contains c = false := by
  cases hc : badL.contains c
  · rfl
  · simp [badL] at hc
    rcases hc with rfl | rfl | rfl | rfl <;> revert h <;> decide
theorem getO_toList (s : ByteArray) (i : Nat) (h : i < s.size) : s.data.toList[i]? = some (s.get! i) := by
  have hl : i < s.data.toList.length := by rw [← Lib.size_eq]; exact h
  have := Lib.getD_get!' s i
  rw [List.getD_eq_getElem?_getD, List.getElem?_eq_getElem hl] at this
  rw [List.getElem?_eq_getElem hl]
  simpa using this
/-- A step of the decoder at a byte from 128 on: the rune is one too, and so are the bytes that it takes. -/
theorem decO_high (n b0 b1 b2 b3 : Nat) (h0 : 128 ≤ b0) (hn : 1 ≤ n) (h1 : b0 < 256) (h2 : b1 < 256) (h3 : b2 < 256) (h4 : b3 < 256) :
    128 ≤ (Lib.decodeN n b0 b1 b2 b3).1 ∧ (Lib.decodeN n b0 b1 b2 b3).1 ≤ 1114111 ∧ (Lib.decodeN n b0 b1 b2 b3).2 ≤ n ∧ (Lib.decodeN n b0 b1 b2 b3).2 ≤ 4 ∧ (1 < (Lib.decodeN n b0 b1 b2 b3).2 → 128 ≤ b1) ∧ (2 < (Lib.decodeN n b0 b1 b2 b3).2 → 128 ≤ b2) ∧ (3 < (Lib.decodeN n b0 b1 b2 b3).2 → 128 ≤ b3) := by
  unfold Lib.decodeN
  rw [if_neg (by omega)]
  repeat' split
  all_goals (refine ⟨?_, ?_, ?_, ?_, ?_, ?_, ?_⟩ <;> simp only [] <;> omega)
theorem decO_low (s : ByteArray) (pos : Nat) (h : pos < s.size) (ha : (s.get! pos).toNat < 128) : Utf8.decode s pos = ((s.get! pos).toNat, 1) := by
  rw [Lib.decode_at]; unfold Lib.decodeN; rw [if_pos ha]
theorem noAny_high (s : ByteArray) (pos : Nat) (h : pos < s.size) (ha : 128 ≤ (s.get! pos).toNat) (hN : Lib.NoAny s.data.toList badL pos) :
    Lib.NoAny s.data.toList badL (pos + (Utf8.decode s pos).2) ∧ pos + (Utf8.decode s pos).2 ≤ s.size ∧ 128 ≤ (Utf8.decode s pos).1 ∧ (Utf8.decode s pos).1 ≤ 1114111 := by
  have hd := decO_high (s.size - pos) (s.get! pos).toNat (s.get! (pos + 1)).toNat (s.get! (pos + 2)).toNat (s.get! (pos + 3)).toNat ha (by omega) (UInt8.toNat_lt _) (UInt8.toNat_lt _) (UInt8.toNat_lt _) (UInt8.toNat_lt _)
  rw [← Lib.decode_at] at hd
  generalize (Utf8.decode s pos).1 = c at hd ⊢
  generalize (Utf8.decode s pos).2 = m at hd ⊢
  refine ⟨fun j b hj hb => ?_, by omega, hd.1, hd.2.1⟩
  by_cases hjp : j < pos
  · exact hN j b hjp hb
  · have hlt : j < s.size := by rw [Lib.size_eq]; exact (List.getElem?_eq_some_iff.1 hb).1
    rw [getO_toList s j hlt] at hb
    injection hb with hb
    subst hb
    apply badL_low
    have : j = pos ∨ j = pos + 1 ∨ j = pos + 2 ∨ j = pos + 3 := by omega
    rcases this with rfl | rfl | rfl | rfl
    · exact ha
    · exact hd.2.2.2.2.1 (by omega)
    · exact hd.2.2.2.2.2.1 (by omega)
    · exact hd.2.2.2.2.2.2 (by omega)
def AnyPost (s : ByteArray) (w : World) (e : Ending) (w' : World) : Prop := e = .returned (.int .i64 (Lib.indexAny s.data.toList badL)) ∧ Below w.heap.size w w'
set_option maxRecDepth 1000000 in
set_option maxHeartbeats 4000000 in
theorem indexAny_short (s : ByteArray) (w : World) (h8 : s.size ≤ 8) :
    Calls Tryd.prog 69 #[.string s, .string ⟨#[60, 62, 10, 0]⟩] w (AnyPost s w) := by
  have h8z : decide ((8 : Int) < (s.size : Int)) = false := decide_eq_false (by omega)
  go_enter Tryd.func69, Tryd.ntmps69
  go_wp2_with (go_at_call 82; refine (Tryd.strings_shouldUseASCIISet (s.size : Int) _).mono ?_; rintro e w' ⟨rfl, hw⟩; rw [hw, h8z])
  have hB0 : Below w.heap.size w (w.iter s 0) := (Below.refl _ _).alloc (Nat.le_refl _) _
  have hi0 : (w.iter s 0).heap[w.heap.size]? = some (.stringIter s 0) := heap_alloc_new w _
  generalize hkk : w.heap.size = kk at *
  generalize w.iter s 0 = w0 at *
  have HKK := Lib.hid hkk
  clear hkk
  go_loopw [9, 10] (fun _ _ wr => ∃ pos : Nat, wr.heap[kk]? = some (.stringIter s pos) ∧ Below kk w wr ∧ pos ≤ s.size ∧ Lib.NoAny s.data.toList badL pos) (fun _ _ wr => s.size - wr.iterPos kk)
  case atStart => exact ⟨0, hi0, hB0, by omega, Lib.NoAny.zero _ _⟩
  case round =>
    obtain ⟨pos, hit, hB, hps, hno⟩ := hrel
    clear hi0 hB0
    have HN := Lib.hid hno
    clear hno
    by_cases hp : pos < s.size
    · obtain ⟨r, hr⟩ : ∃ r, (Utf8.decode s pos).1 = r := ⟨_, rfl⟩
      obtain ⟨m, hm⟩ : ∃ m, (Utf8.decode s pos).2 = m := ⟨_, rfl⟩
      have hm1 : 1 ≤ m := by rw [← hm]; exact Lib.decode_width_pos s pos hp
      have hnx : ∀ ty, (Instr.next (.pointer (some ⟨kk, 0, none⟩)) true ty).run Tryd.prog wr = .ok (.tuple #[.bool true, .int .i64 pos, .int .i32 r]) (wr.iterAt kk s (pos + m)) := fun ty => by rw [Lib.run_next_any_at (P := Tryd.prog) wr kk s pos ty hit hp, hr, hm]
      have hit2 := Lib.iterAt_heap wr kk s pos (pos + m) hit
      have hB2 : Below kk w (wr.iterAt kk s (pos + m)) := Lib.below_iterAt hB (Nat.le_refl _) s (pos + m)
      have hkk : kk < (wr.iterAt kk s (pos + m)).heap.size := by
        rw [Lib.iterAt_size]
        exact (Array.getElem?_eq_some_iff.1 hit).1
      by_cases ha : (s.get! pos).toNat < 128
      · have hd := decO_low s pos hp ha
        rw [hd] at hr hm
        simp only [] at hr hm
        subst hr
        subst hm
        have hcr := idxRune_low (s.get! pos) (wr.iterAt kk s (pos + 1)) ha
        have hxl := getO_toList s pos hp
        have hcon := Lib.contains_iff_indexByte badL (s.get! pos)
        cases hin : badL.contains (s.get! pos)
        · rw [hin] at hcon
          have hlt : ¬ ((0 : Int) ≤ Lib.indexByte [60, 62, 10, 0] (s.get! pos)) := of_decide_eq_false hcon.symm
          have HS := Lib.hid (HN.out.succ hxl hin)
          clear hcon hxl hin hd
          go_wp2_with (go_at_call 81; refine hcr.mono ?_; rintro e w' ⟨rfl, rfl⟩)
          go_roundw
          case rel => exact ⟨pos + 1, hit2, hB2, by omega, HS.out⟩
          case measure =>
            rw [World.iterPos, World.iterPos, hit, hit2]
            simp
            omega
        · rw [hin] at hcon
          have hge : (0 : Int) ≤ Lib.indexByte [60, 62, 10, 0] (s.get! pos) := of_decide_eq_true hcon.symm
          have HS := Lib.hid (Lib.indexAny_hit HN.out hxl hin)
          clear hcon hxl hin hd
          go_wp2_with (go_at_call 81; refine hcr.mono ?_; rintro e w' ⟨rfl, rfl⟩)
          go_ret
          unfold AnyPost
          rw [HS.out]
          exact ⟨rfl, by rw [HKK.out]; exact hB2⟩
      · obtain ⟨g1, g2, g3, g4⟩ := noAny_high s pos hp (by omega) HN.out
        rw [hm] at g1 g2
        rw [hr] at g3 g4
        have HS := Lib.hid g1
        clear hr hm g1 ha
        have hcr := idxRune_high r (wr.iterAt kk s (pos + m)) g3 g4
        go_wp2_with (go_at_call 81; refine hcr.mono ?_; rintro e w' ⟨rfl, hb⟩)
        have hit3 : w'.heap[kk]? = some (.stringIter s (pos + m)) := (hb.block kk hkk).trans hit2
        have hB3 : Below kk w w' := hB2.trans (hb.mono (Nat.le_of_lt hkk))
        go_roundw
        case rel => exact ⟨pos + m, hit3, hB3, g2, HS.out⟩
        case measure =>
          rw [World.iterPos, World.iterPos, hit, hit3]
          simp
          omega
    · obtain rfl : pos = s.size := by omega
      have hnx : ∀ ty, (Instr.next (.pointer (some ⟨kk, 0, none⟩)) true ty).run Tryd.prog wr = _ := fun ty => Lib.run_next_end_at (P := Tryd.prog) wr kk s s.size ty hit hp
      have HS := Lib.hid (Lib.indexAny_none (by rw [← Lib.size_eq]; exact HN.out))
      go_wp2
      go_ret
      unfold AnyPost
      rw [HS.out]
      exact ⟨rfl, by rw [HKK.out]; exact hB⟩
end Go.Proofs.YtdlabapfcghfmaaDoor
