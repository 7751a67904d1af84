/- SHA-1 of package sum, written piece by piece; object.Header, ID. -/
import Derived.Test.YtdlabapfcghfmaaGreatDoorObJ
import Derived.Test.YtdlabapfcghfmaaGreatDoorCnv
import Derived.Shelf.SlSorted.Search
namespace Go.Proofs.YtdlabapfcghfmaaGreatDoor
open Go.RowKit
set_option linter.unusedVariables false
set_option linter.unusedSimpArgs false

/-- A SHA-1 that has taken xs. -/
def ShaSt (xs : List Int) (g : Nat) (w : World) (v : Value) : Prop := SumRep g w v 1 (fb (xs.length / 64) h0 xs) (xs.drop (64 * (xs.length / 64))) (xs.length : Int) (tabOf 1) 4294967295 1 0
theorem ShaSt.below {xs : List Int} {g : Nat} {w w' : World} {v : Value} (h : ShaSt xs g w v) (hb : Below w.heap.size w w') : ShaSt xs g w' v :=
  SumRep.chg (S := fun _ => False) h (Chg.of_below hb) (fun h => h) (fun _ _ h => h)
theorem sfb_more (xs ys : List Int) : fb (((xs.drop (64 * (xs.length / 64))) ++ ys).length / 64) (fb (xs.length / 64) h0 xs) ((xs.drop (64 * (xs.length / 64))) ++ ys) = fb ((xs ++ ys).length / 64) h0 (xs ++ ys) := by
  have e1 : ((xs.drop (64 * (xs.length / 64))) ++ ys).length / 64 + xs.length / 64 = (xs ++ ys).length / 64 := by
    simp only [List.length_append, List.length_drop]; omega
  rw [← e1, Nat.add_comm, fb_add, fb_app (xs.length / 64) h0 xs ys (by omega), List.drop_append_of_le_length (by omega)]
theorem sdrop_more (xs ys : List Int) : ((xs.drop (64 * (xs.length / 64))) ++ ys).drop (64 * (((xs.drop (64 * (xs.length / 64))) ++ ys).length / 64)) = (xs ++ ys).drop (64 * ((xs ++ ys).length / 64)) := by
  have e1 : ((xs.drop (64 * (xs.length / 64))) ++ ys).length / 64 + xs.length / 64 = (xs ++ ys).length / 64 := by
    simp only [List.length_append, List.length_drop]; omega
  rw [← e1, ← List.drop_append_of_le_length (by omega : 64 * (xs.length / 64) ≤ xs.length), List.drop_drop]
  congr 1
  omega
theorem new_sha (w : World) : Calls Tryz.prog 25 #[.int .i64 1] w fun e w' => e = .returned (.tuple #[.pointer (some ⟨w.heap.size, 0, none⟩), .int .i64 0]) ∧ ShaSt [] w.heap.size w' (.slice none 0 0) ∧ Below w.heap.size w w' := new_ok 1 w (by decide) (by decide)
theorem put_sha (xs : List Int) (g : Nat) (v : Value) (A : Option Addr) (n c : Nat) (ys : List Int) (w : World) (hs : ShaSt xs g w v) (hI : Ints .u8 w A ys) (hn : ys.length = n) (hx : Bytes xs) (hy : Bytes ys) (hsz : xs.length + n ≤ 140737488351300) :
    Calls Tryz.prog 26 #[.pointer (some ⟨g, 0, none⟩), .slice A n c] w fun e w' => e = .returned (.tuple #[]) ∧ ∃ v', ShaSt (xs ++ ys) g w' v' ∧ Chg (fun k => k = g ∨ v.ownBlock = some k) w w' ∧ (v'.ownBlock = v.ownBlock ∨ ∀ k, v'.ownBlock = some k → w.heap.size ≤ k) := by
  refine (write_sha g v _ _ _ _ _ _ _ A n c ys w hs hI hn hy (fun x hm => hx x (List.mem_of_mem_drop hm)) (fb_ok _ _ _ h0_ok) (by omega) (by omega) (by rw [List.length_drop]; omega)).mono ?_
  rintro e w1 ⟨rfl, v', h1, h2, h3⟩
  rw [sfb_more, sdrop_more] at h1
  refine ⟨rfl, v', ?_, h2, h3⟩
  have e2 : ((xs ++ ys).length : Int) = (xs.length : Int) + n := by rw [List.length_append]; omega
  unfold ShaSt
  rw [e2]; exact h1
theorem tell_sha (xs : List Int) (g : Nat) (v : Value) (w : World) (hs : ShaSt xs g w v) (hx : Bytes xs) (hsz : xs.length ≤ 140737488351300) :
    Calls Tryz.prog 29 #[.pointer (some ⟨g, 0, none⟩)] w (AskPost w (shaAll xs)) := by
  have e : shaAll xs = shaOut (fb (xs.length / 64) h0 xs) (xs.drop (64 * (xs.length / 64))) (xs.length : Int) := by
    unfold shaAll; rw [Int.zero_add]
  rw [e]
  exact ask_sha g v _ _ _ _ _ _ _ w hs (fb_ok _ _ _ h0_ok) (fun x hm => hx x (List.mem_of_mem_drop hm)) (by omega) (by omega) (by rw [List.length_drop]; omega)
/-- What the walks ask of the library's own variables. -/
structure EnvO (w : World) : Prop where
  tabs : Lib.Utf8Tabs 0 1 w
  pow : Lib.TabIs Tryz.prog w "internal/strconv.uint64pow10" .u64 Lib.pow10Tab
theorem tabO_below {n : String} {g : Nat} {k : IntKind} {zs : List Int} {w w' : World} (hg : Tryz.prog.globalNamed n = some g) (h : Lib.TabIs Tryz.prog w n k zs) (hb : Below w.heap.size w w') : Lib.TabIs Tryz.prog w' n k zs := by
  unfold Lib.TabIs World.var? at *
  simp only [hg, Option.bind_some] at *
  by_cases hlt : g < w.heap.size
  · rw [hb.block g hlt]; exact h
  · rw [Array.getElem?_eq_none (by omega)] at h; cases h
theorem EnvO.below {w w' : World} (h : EnvO w) (hb : Below w.heap.size w w') : EnvO w' :=
  ⟨Utf8Tabs_below h.tabs hb, tabO_below (g := 3) (by kernel_rfl) h.pow hb⟩
theorem dec_digL : ∀ n : Nat, Lib.decDigits n = (digL n).map fun x => UInt8.ofNat x.toNat := by
  intro n
  induction n using Nat.strongRecOn with
  | ind n ih =>
    by_cases h : n < 10
    · rw [Lib.decDigits, dif_pos h, digL_small (by omega)]
      simp only [List.map_cons, List.map_nil]
      rw [show (48 + (n : Int)).toNat = 48 + n by omega]
    · rw [Lib.decDigits, dif_neg h, digL_big (by omega), ih (n / 10) (by omega), List.map_append]
      congr 1
theorem itoa_digL (n : Nat) : (⟨(Lib.itoa (n : Int)).toArray⟩ : ByteArray) = strOfNums (digL n) := by
  unfold Lib.itoa
  rw [if_neg (by omega), Int.toNat_natCast, dec_digL]
  rfl
theorem itoa_any (n : Nat) (w : World) (hE : EnvO w) (hn : n ≤ 9223372036854775807) : Calls Tryz.prog 54 #[.int .i64 n] w fun e w' => e = .returned (.string (strOfNums (digL n))) ∧ Below w.heap.size w w' := by
  refine (Tryz.strconv_Itoa (n : Int) (by omega) (by omega) w hE.pow).mono ?_
  rintro e w' ⟨rfl, k, os, rfl⟩
  exact ⟨by rw [itoa_digL], below_grown_sl _ w k os (Nat.le_refl _)⟩
set_option maxRecDepth 100000 in
set_option maxHeartbeats 4000000 in
theorem head_any (k : Int) (n : Nat) (w : World) (hE : EnvO w) (hn : n ≤ 140737488351200) : Calls Tryz.prog 27 #[.int .i64 k, .int .i64 n] w fun e w' => ∃ A c, e = .returned (.slice A (headL k n).length c) ∧ Ints .u8 w' A (headL k n) ∧ Below w.heap.size w w' := by
  have HNM := Lib.hid (fun w => name_any k w)
  have HDG := Lib.hid (fun w hE => itoa_any n w hE (by omega))
  have z1 : (strOfNums (nameL k)).size ≤ 6 := by rw [strOfNums_size]; exact nameL_len k
  have z2 : (strOfNums (digL n)).size ≤ n + 1 := by rw [strOfNums_size]; exact digL_len n
  have HR : strOfNums (nameL k) ++ ⟨#[32]⟩ ++ strOfNums (digL n) ++ ⟨#[0]⟩ = strOfNums (headL k n) := by
    unfold headL
    rw [← str_app, ← str_app, ← str_app]; rfl
  have HZ : (strOfNums (headL k n)).size = (headL k n).length := strOfNums_size _
  have HBO := bytesOf_str (headL k n) (headL_ok k n)
  have z3 : (strOfNums (nameL k) ++ (⟨#[32]⟩ : ByteArray)).size = (strOfNums (nameL k)).size + 1 := by rw [ByteArray.size_append]; rfl
  have z4 : (strOfNums (nameL k) ++ (⟨#[32]⟩ : ByteArray) ++ strOfNums (digL n)).size = (strOfNums (nameL k)).size + 1 + (strOfNums (digL n)).size := by rw [ByteArray.size_append, z3]
  have z5 : (strOfNums (nameL k) ++ (⟨#[32]⟩ : ByteArray) ++ strOfNums (digL n) ++ (⟨#[0]⟩ : ByteArray)).size = (strOfNums (nameL k)).size + 1 + (strOfNums (digL n)).size + 1 := by rw [ByteArray.size_append, z4]; rfl
  have m0 : ¬ ((n : Int) < 0) := by omega
  have hE' := Lib.hid hE
  clear hE
  have HR := Lib.hid HR
  have HBO := Lib.hid HBO
  have HZ := Lib.hid HZ
  generalize hl : headL k n = HL at *
  clear hl
  generalize strOfNums (nameL k) = S1 at *
  generalize strOfNums (digL n) = S2 at *
  go_enter Tryz.func27, Tryz.ntmps27
  go_wp2_with fail
  refine (HNM.out w).mono ?_
  rintro e w1 ⟨rfl, hb1⟩
  have HB1 := Lib.hid hb1
  clear hb1
  go_wp2_with fail
  refine (HDG.out w1 (hE'.out.below HB1.out)).mono ?_
  rintro e w2 ⟨rfl, hb2⟩
  have HB2 := Lib.hid hb2
  clear hb2
  have hsz : (strOfNums HL).size ≤ 140737488351300 := by rw [← HR.out, z5]; omega
  go_wp2_with (refine wpList_conv rfl (.tmp 12) rfl (strOfNums HL) HL.length HL (by rw [← HR.out]; rfl) HZ.out HBO.out hsz ?_; intro A5 c5 w5 hI5 hc5 hcm5 hb5 _)
  go_ret
  exact ⟨A5, c5, rfl, hI5, (HB1.out.trans (HB2.out.mono HB1.out.size)).trans (hb5.mono (Nat.le_trans HB1.out.size HB2.out.size))⟩
end Go.Proofs.YtdlabapfcghfmaaGreatDoor
