/- The document's words: numbers as bytes. -/
import Derived.Test.YtdlabapfcghfmaaGreatDoorSumStr
namespace Go.Proofs.YtdlabapfcghfmaaGreatDoor
open Go.RowKit
set_option linter.unusedVariables false

def wordsL : List Int → List Int
  | [] => []
  | x :: xs => be4 x ++ wordsL xs
theorem wordsL_snoc (xs : List Int) (x : Int) : wordsL (xs ++ [x]) = wordsL xs ++ be4 x := by
  induction xs with
  | nil => simp [wordsL]
  | cons y ys ih => simp [wordsL, ih]
theorem wordsL_len (xs : List Int) : (wordsL xs).length = 4 * xs.length := by
  induction xs with
  | nil => rfl
  | cons y ys ih => simp [wordsL, be4, ih]; omega
def Words (xs : List Int) : Prop := ∀ x ∈ xs, 0 ≤ x ∧ x < 4294967296
theorem Words.at_ {xs : List Int} (h : Words xs) (k : Nat) (hk : k < xs.length) : 0 ≤ xs.getD k 0 ∧ xs.getD k 0 < 4294967296 := by
  rw [List.getD_eq_getElem?_getD, List.getElem?_eq_getElem hk]; exact h _ (List.getElem_mem hk)
theorem wordsL_ok (xs : List Int) (h : Words xs) : Bytes (wordsL xs) := by
  induction xs with
  | nil => intro x hx; cases hx
  | cons y ys ih =>
    intro x hx
    rcases List.mem_append.1 hx with hx | hx
    · exact be4_ok y (h y (by simp)).1 (h y (by simp)).2 x hx
    · exact ih (fun z hz => h z (by simp [hz])) x hx

set_option maxRecDepth 100000 in
set_option maxHeartbeats 2000000 in
theorem words_any (A : Option Addr) (n c : Nat) (xs : List Int) (w : World) (hI : Ints .u32 w A xs) (hn : xs.length = n) (hb : Words xs) (hsz : n ≤ 1000000) :
    Calls Tryz.prog 68 #[.slice A n c] w (AskPost w (wordsL xs)) := by
  subst hn
  obtain ⟨i0, hi, hz0, hz1, hz2⟩ := info_parts Tryz.info_u8
  go_enter Tryz.func68, Tryz.ntmps68
  go_wp2
  go_loopw [3, 4] (fun out i wr => ∃ (k : Nat) (A : Option Addr) (c : Nat), k ≤ xs.length ∧ i = .int .i64 k ∧ out = .slice A (wordsL (xs.take k)).length c ∧ OwnS wr w.heap.size 5 1 (.slice A (wordsL (xs.take k)).length c) (wordsL (xs.take k)).length ((wordsL (xs.take k)).map (Value.int .u8)) ∧ Below w.heap.size w wr) (fun _ i _ => xs.length - (intOf i).toNat)
  case atStart => exact ⟨0, none, 0, by omega, rfl, rfl, OwnS.nil _ _ _ _, Below.refl _ _⟩
  case round =>
    obtain ⟨k, A9, c9, hk9, rfl, rfl, ho, hB⟩ := hrel
    by_cases hlt : k < xs.length
    · have hx := hb.at_ k hlt
      have HN : Hid (wordsL (xs.take (k + 1)) = wordsL (xs.take k) ++ be4 (xs.getD k 0)) := by show _ = _; rw [take_snoc_getD xs k hlt, wordsL_snoc]
      have hll : (wordsL (xs.take k)).length ≤ 140737488355000 := by rw [wordsL_len, List.length_take_of_le hk9]; omega
      obtain ⟨b, o, rfl, hbl, hcell⟩ := hI (by omega)
      have hc := (hB.cell (p := ⟨b, o + k, none⟩) hbl).trans (hcell k hlt)
      clear hcell hI
      generalize xs.getD k 0 = x at *
      generalize wordsL (xs.take k) = l at *
      have hkI : (k : Int) < xs.length := by omega
      have hbr : b < wr.heap.size := Nat.lt_of_lt_of_le hbl hB.size
      have hne : (Value.slice A9 l.length c9).ownBlock ≠ some b := fun h => by have := ho.lt b h; omega
      have e1 : IntKind.u8.wrap (x / 16777216) = x / 16777216 := by rw [IntKind.wrap_u8]; omega
      have e2 : IntKind.u8.wrap (x / 65536) = x / 65536 % 256 := IntKind.wrap_u8 _
      have e3 : IntKind.u8.wrap (x / 256) = x / 256 % 256 := IntKind.wrap_u8 _
      have e4 : IntKind.u8.wrap x = x % 256 := IntKind.wrap_u8 _
      go_wp2
      go_region_held3 (fun w' => w'.cell? ⟨b, o + k, none⟩ = some (.int .u32 x)) (first | exact hk2 | go_keep) ((refine step_append_S rfl (.tmp 11) (.tmp 35) 24 24 rfl i0 (.int .u8 0) 1 (.slice 5) Tryz.underlying24 Tryz.underlying24 (fun _ h => by cases h) hi hz0 hz1 hz2 rfl rfl rfl ((ho.alloc _).drew) ((Src.new (us := (be4 x).map (Value.int .u8)) rfl (ints_oneCell .u8 (be4 x))).drew) ?_ ?_ ?_ ?_; (simp only [be4, List.length_map, List.length_cons, List.length_nil]; unfold maxLen; omega); (simp only [be4, List.length_map, List.length_cons, List.length_nil]; omega); (have := hB.size; simp; omega); intro A2 c2 w2 ho2 hg2 hw2; have hk2 := (hg2.cell_far ⟨b, o + k, none⟩ (by simp; omega) (Ne.symm hne)).trans ((World.cell?_alloc_lt wr _ ⟨b, o + k, none⟩ hbr).trans hc)))
      go_wp2
      go_roundw
      case rel =>
        have hB' := hB.size
        refine ⟨k + 1, A2, c2, by omega, by go_num, ?_, ?_, ?_⟩
        · rw [HN.out, List.length_append]; first | done | rfl
        · rw [HN.out, List.length_append, List.map_append]; exact ho2
        · exact ((hB.alloc (by omega) _).drew).grown hg2 (by simp; omega) (fun q h => (ho.lt q h).1)
      case measure => simp [intOf]; omega
    · obtain rfl : k = xs.length := by omega
      rw [List.take_length] at ho ⊢
      go_wp2
      go_ret
      exact ⟨A9, c9, rfl, ho, hB⟩
end Go.Proofs.YtdlabapfcghfmaaGreatDoor
