/- Small functions of package idx and of its answer: number, Clip, Word, Get. -/
import Derived.Test.YtndjebddgnmpfaaIdxP
import Derived.Test.YtndjebddgnmpfaaSumWords
import Derived.Test.YtndjebddgnmpfaaRelC
import Derived.Test.YtndjebddgnmpfaaPh
import Derived.Lib.SliceRun
namespace Go.Proofs.Ytndjebddgnmpfaa
open Go.RowKit
set_option linter.unusedVariables false

theorem Ints.take {k : IntKind} {w : World} {A : Option Addr} {xs : List Int} (h : Ints k w A xs) (n : Nat) : Ints k w A (xs.take n) := by
  intro hl
  rw [List.length_take] at hl
  obtain ⟨b, o, hA, hlt, hc⟩ := h (by omega)
  refine ⟨b, o, hA, hlt, fun j hj => ?_⟩
  rw [List.length_take] at hj
  rw [hc j (by omega)]
  simp [List.getD_eq_getElem?_getD, show j < n by omega]

theorem Ints.drop {k : IntKind} {w : World} {b o : Nat} {xs : List Int} (h : Ints k w (some ⟨b, o, none⟩) xs) (n : Nat) : Ints k w (some ⟨b, o + n, none⟩) (xs.drop n) := by
  intro hl
  rw [List.length_drop] at hl
  obtain ⟨b', o', hA, hlt, hc⟩ := h (by omega)
  injection hA with hA
  injection hA with h1 h2 _
  subst h1; subst h2
  refine ⟨b, o + n, rfl, hlt, fun j hj => ?_⟩
  rw [List.length_drop] at hj
  rw [Nat.add_assoc, hc (n + j) (by omega)]
  simp [List.getD_eq_getElem?_getD]
set_option maxRecDepth 100000 in
set_option maxHeartbeats 1000000 in
theorem inumber_any (A : Option Addr) (n c : Nat) (xs : List Int) (w : World) (h : Ints .u8 w A xs) (hn : xs.length = n) (h4 : 4 ≤ n) (hr : Bytes xs) :
    Calls Try.prog 51 #[.slice A n c] w fun e w' => e = .returned (.int .i64 (n4 xs 0)) ∧ ∃ nq, w' = w.drewN nq := by
  subst hn
  obtain ⟨b, o, rfl, _, hc⟩ := h (by omega)
  have r0 := hr.at_ 0 (by omega)
  have r1 := hr.at_ 1 (by omega)
  have r2 := hr.at_ 2 (by omega)
  have r3 := hr.at_ 3 (by omega)
  have c0 := hc 0 (by omega)
  have c1 := hc 1 (by omega)
  have c2 := hc 2 (by omega)
  have c3 := hc 3 (by omega)
  have l0 : (0 : Int) < xs.length := by omega
  have l1 : (1 : Int) < xs.length := by omega
  have l2 : (2 : Int) < xs.length := by omega
  have l3 : (3 : Int) < xs.length := by omega
  rw [Nat.add_zero] at c0
  have HN : Hid (n4 xs 0 = xs.getD 0 0 * 16777216 + xs.getD 1 0 * 65536 + xs.getD 2 0 * 256 + xs.getD 3 0) := rfl
  clear hc h hr
  generalize xs.getD 0 0 = b0 at *
  generalize xs.getD 1 0 = b1 at *
  generalize xs.getD 2 0 = b2 at *
  generalize xs.getD 3 0 = b3 at *
  have HB := Lib.hid (i64_num4 b0 b1 b2 b3 r0 r1 r2 r3)
  have w0 : IntKind.i64.wrap (b0 * 16777216) = b0 * 16777216 := IntWalk.i64_in _ (by omega)
  have w1 : IntKind.i64.wrap (b1 * 65536) = b1 * 65536 := IntWalk.i64_in _ (by omega)
  have w2 : IntKind.i64.wrap (b2 * 256) = b2 * 256 := IntWalk.i64_in _ (by omega)
  go_enter Try.func51, Try.ntmps51
  go_wp2
  go_quiet (fail)
  go_wp2
  go_ret
  exact ⟨by rw [HN.out, ← HB.out]; rfl, _, rfl⟩

theorem OwnS.clip {w : World} {base : Nat} {e : TypeId} {A : Option Addr} {n c : Nat} {xs : List Value} (h : OwnS w base e 1 (.slice A n c) n xs) : OwnS w base e 1 (.slice A n n) n xs := by
  refine ⟨h.1, ?_⟩
  rcases h.2 with ⟨hv, rfl⟩ | ⟨g, off, cap, cur, hv, hb, hg, hn, hm, hs, ht⟩
  · injection hv with hA _ hc
    subst hA
    exact .inl ⟨rfl, rfl⟩
  · injection hv with hA _ hc
    subst hA; subst hc
    exact .inr ⟨g, off, n, cur, rfl, hb, hg, Nat.le_refl _, by omega, by omega, ht⟩
set_option maxRecDepth 100000 in
theorem clip_any (A : Option Addr) (n c : Nat) (w : World) (hn : n ≤ c) (hc : c ≤ 9223372036854775807) :
    Calls Try.prog 28 #[.slice A n c] w fun e w' => e = .returned (.slice A n n) ∧ w = w' := by
  have h0 : (n : Int) ≤ c := by omega
  go_enter Try.func28, Try.ntmps28
  go_wp2
  go_ret
  exact ⟨rfl, rfl⟩
set_option maxRecDepth 100000 in
theorem word_any (n : Int) (w : World) (h0 : 0 ≤ n) (h1 : n < 4294967296) : Calls Try.prog 36 #[.int .u32 n] w (AskPost w (be4 n)) := by
  have hW : Words [n] := fun x hm => by rw [List.mem_singleton.1 hm]; exact ⟨h0, h1⟩
  have e1 : wordsL [n] = be4 n := by simp [wordsL]
  go_enter Try.func36, Try.ntmps36
  go_wp2_with fail
  refine (words_any _ 1 1 _ _ (Ints.of_new (heap_alloc_new _ _) rfl) rfl hW (by omega)).mono ?_
  rw [e1]
  rintro e w2 ⟨A1, c1, rfl, ho, hb⟩
  go_wp2
  go_ret
  exact ⟨A1, c1, rfl, ho.base_ (by simp), ((Below.refl _ _).alloc (Nat.le_refl _) _).trans (hb.mono (by simp))⟩

/-- Bytes as a number, the highest first. -/
def getL (xs : List Int) : Int := xs.foldl (fun n b => 256 * n + b) 0
theorem getL_snoc (xs : List Int) (x : Int) : getL (xs ++ [x]) = 256 * getL xs + x := by unfold getL; rw [List.foldl_append]; rfl
theorem getL_le (xs : List Int) (h : Bytes xs) : ∀ k, 0 ≤ getL (xs.take k) ∧ getL (xs.take k) < 256 ^ k := by
  intro k
  induction k with
  | zero => simp [getL]
  | succ k ih =>
    rw [Int.pow_succ]
    by_cases hk : k < xs.length
    · rw [take_snoc_getD xs k hk, getL_snoc]
      have := h.at_ k hk
      omega
    · rw [List.take_of_length_le (by omega)] at ih ⊢
      omega
set_option maxRecDepth 100000 in
set_option maxHeartbeats 1000000 in
theorem get_any (A : Option Addr) (n c : Nat) (xs : List Int) (w : World) (hI : Ints .u8 w A xs) (hn : xs.length = n) (h8 : n ≤ 8) (hr : Bytes xs) :
    Calls Try.prog 40 #[.slice A n c] w fun e w' => e = .returned (.int .u64 (getL xs)) ∧ w = w' := by
  subst hn
  go_enter Try.func40, Try.ntmps40
  go_wp2
  go_loop [3, 4] (fun u i => ∃ k : Nat, k ≤ xs.length ∧ i = .int .i64 k ∧ u = .int .u64 (getL (xs.take k))) (fun _ i => xs.length - (intOf i).toNat)
  case atStart => exact ⟨0, by omega, rfl, rfl⟩
  case round =>
    obtain ⟨k, hk, rfl, rfl⟩ := hrel
    by_cases hlt : k < xs.length
    · obtain ⟨b, o, rfl, _, hc⟩ := hI (by omega)
      have ck := hc k hlt
      have hx := hr.at_ k hlt
      have hl := getL_le xs hr k
      have h7 : (256 : Int) ^ k ≤ 256 ^ 7 := by
        have := Nat.pow_le_pow_right (n := 256) (by decide) (show k ≤ 7 by omega)
        have e : (256 : Int) ^ k = ((256 ^ k : Nat) : Int) := by rw [Int.natCast_pow]; rfl
        rw [e]; omega
      have HN : Hid (getL (xs.take (k + 1)) = 256 * getL (xs.take k) + xs.getD k 0) := by show _ = _; rw [take_snoc_getD xs k hlt, getL_snoc]
      have hl2 : 256 * getL (xs.take k) + xs.getD k 0 < 18446744073709551616 := by omega
      clear h7 hc
      generalize getL (xs.take k) = v at *
      generalize xs.getD k 0 = x at *
      have e1 : 256 * v % 18446744073709551616 = 256 * v := by omega
      have e2 : (256 * v + x) % 18446744073709551616 = 256 * v + x := by omega
      go_wp2
      go_round
      case rel => exact ⟨k + 1, by omega, by go_num, by rw [HN.out]⟩
      case measure => simp [intOf]; omega
    · obtain rfl : k = xs.length := by omega
      go_wp2
      go_ret
      exact ⟨by first | rfl | (rw [List.take_length]; rfl), rfl⟩
end Go.Proofs.Ytndjebddgnmpfaa
