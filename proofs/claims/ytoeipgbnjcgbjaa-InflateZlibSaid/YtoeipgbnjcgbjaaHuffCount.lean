/- huff.count and the document's weight: each tells the sum of 2^(15 - length), or that a length is none. -/
import Derived.Test.YtoeipgbnjcgbjaaLib
namespace Go.Proofs.Ytoeipgbnjcgbjaa
open Go.RowKit

def okLen (l : Int) : Bool := decide (0 ≤ l) && decide (l ≤ 15)
def costOf (l : Int) : Int := if 0 < l then 2 ^ (15 - l).toNat else 0
def costs (xs : List Int) : Int := (xs.map costOf).sum
def cntN (xs : List Int) : Int := if xs.all okLen then costs xs else 0
def cntB (xs : List Int) : Bool := xs.all okLen
def cntW (xs : List Int) : Int := if xs.all okLen then costs xs else -1

theorem costOf_le (l : Int) : 0 ≤ costOf l ∧ costOf l ≤ 16384 := by
  unfold costOf
  split
  · have : (15 - l).toNat ≤ 14 := by omega
    have h2 := Nat.pow_le_pow_right (n := 2) (by omega) this
    have : (2:Int) ^ (15 - l).toNat = ((2 ^ (15 - l).toNat : Nat) : Int) := by simp
    rw [this]
    constructor
    · exact Int.natCast_nonneg _
    · have : ((2 ^ (15 - l).toNat : Nat) : Int) ≤ 16384 := by omega
      exact this
  · omega
theorem costs_le (xs : List Int) : 0 ≤ costs xs ∧ costs xs ≤ 16384 * xs.length := by
  unfold costs
  induction xs with
  | nil => simp
  | cons x xs ih => have := costOf_le x; simp; omega
theorem costs_snoc (xs : List Int) (k : Nat) (h : k < xs.length) : costs (xs.take (k + 1)) = costs (xs.take k) + costOf (xs.getD k 0) := by
  rw [take_snoc_getD xs k h]; simp [costs]
theorem all_snoc (xs : List Int) (k : Nat) (h : k < xs.length) (x : Int) (hx : xs.getD k 0 = x) (h1 : 0 ≤ x) (h2 : x ≤ 15) (hall : (xs.take k).all okLen = true) : (xs.take (k + 1)).all okLen = true := by
  rw [take_snoc_getD xs k h, List.all_append, hall, hx]; simp [okLen, h1, h2]
theorem cnt_bad (xs : List Int) (k : Nat) (h : k < xs.length) (x : Int) (hx : xs.getD k 0 = x) (hb : x < 0 ∨ 15 < x) : cntB xs = false := by
  unfold cntB
  rw [List.all_eq_false]
  refine ⟨x, ?_, ?_⟩
  · rw [← hx, List.getD_eq_getElem?_getD, List.getElem?_eq_getElem h]; exact List.getElem_mem h
  · simp [okLen]; omega
theorem pow15 (x : Int) (h : 0 < x) : 0 ≤ (2:Int) ^ (15 - x).toNat ∧ (2:Int) ^ (15 - x).toNat ≤ 16384 := by
  have := costOf_le x; unfold costOf at this; rwa [if_pos h] at this

set_option maxHeartbeats 400000 in
theorem count_any (A : Option Addr) (c : Nat) (xs : List Int) (w : World) (h : Ints .i64 w A xs) (hn : xs.length ≤ 140737488351232) :
    Calls Try.prog 128 #[.slice A xs.length c] w fun e w' => e = .returned (.tuple #[.int .i64 (cntN xs), .bool (cntB xs)]) ∧ w = w' := by
  go_enter Try.func128, Try.ntmps128
  go_wp2
  go_loop [4, 9] (fun n i => ∃ k : Nat, k ≤ xs.length ∧ i = .int .i64 k ∧ Hid ((xs.take k).all okLen = true) ∧ n = .int .i64 (costs (xs.take k))) (fun _ i => xs.length - (intOf i).toNat)
  case atStart => exact ⟨0, Nat.zero_le _, rfl, rfl, rfl⟩
  case round =>
    obtain ⟨k, hk, rfl, hok, rfl⟩ := hrel
    have hc := costs_le (xs.take k)
    rw [List.length_take_of_le hk] at hc
    by_cases hlt : k < xs.length
    · obtain ⟨b, o, rfl, hb, hcell⟩ := h (by omega)
      have hck := hcell k hlt
      clear hcell h
      generalize hx : xs.getD k 0 = x at hck
      have HX : Hid (xs.getD k 0 = x) := hx
      clear hx
      by_cases h1 : x < 0
      · go_wp2
        go_ret2
        have e := cnt_bad xs k hlt x HX.out (.inl h1)
        exact ⟨by simp [cntN, e, show xs.all okLen = false from e], rfl⟩
      · by_cases h2 : 15 < x
        · go_wp2
          go_ret2
          have e := cnt_bad xs k hlt x HX.out (.inr h2)
          exact ⟨by simp [cntN, e, show xs.all okLen = false from e], rfl⟩
        · by_cases h3 : 0 < x
          · have hp := pow15 x h3
            go_wp2
            go_round
            case rel => exact ⟨k + 1, by omega, by go_num, all_snoc xs k hlt x HX.out (by omega) (by omega) hok.out, by rw [costs_snoc xs k hlt, HX.out, costOf, if_pos h3]⟩
            case measure => simp [intOf]; omega
          · go_wp2
            go_round
            case rel => exact ⟨k + 1, by omega, by go_num, all_snoc xs k hlt x HX.out (by omega) (by omega) hok.out, by rw [costs_snoc xs k hlt, HX.out, costOf, if_neg h3, Int.add_zero]⟩
            case measure => simp [intOf]; omega
    · go_wp2
      go_ret2
      have e : xs.take k = xs := List.take_of_length_le (by omega)
      have e2 := hok.out
      rw [e] at e2
      exact ⟨by simp [cntN, cntB, e, e2], rfl⟩

set_option maxHeartbeats 400000 in
theorem weight_any (A : Option Addr) (c : Nat) (xs : List Int) (w : World) (h : Ints .i64 w A xs) (hn : xs.length ≤ 140737488351232) :
    Calls Try.prog 115 #[.slice A xs.length c] w fun e w' => e = .returned (.int .i64 (cntW xs)) ∧ w = w' := by
  go_enter Try.func115, Try.ntmps115
  go_wp2
  go_loop [3, 4] (fun n i => ∃ k : Nat, k ≤ xs.length ∧ i = .int .i64 k ∧ Hid ((xs.take k).all okLen = true) ∧ n = .int .i64 (costs (xs.take k))) (fun _ i => xs.length - (intOf i).toNat)
  case atStart => exact ⟨0, Nat.zero_le _, rfl, rfl, rfl⟩
  case round =>
    obtain ⟨k, hk, rfl, hok, rfl⟩ := hrel
    have hc := costs_le (xs.take k)
    rw [List.length_take_of_le hk] at hc
    by_cases hlt : k < xs.length
    · obtain ⟨b, o, rfl, hb, hcell⟩ := h (by omega)
      have hck := hcell k hlt
      clear hcell h
      generalize hx : xs.getD k 0 = x at hck
      have HX : Hid (xs.getD k 0 = x) := hx
      clear hx
      by_cases h1 : x < 0
      · go_wp2
        go_ret
        have e := cnt_bad xs k hlt x HX.out (.inl h1)
        exact ⟨by simp [cntW, show xs.all okLen = false from e], rfl⟩
      · by_cases h2 : 15 < x
        · go_wp2
          go_ret
          have e := cnt_bad xs k hlt x HX.out (.inr h2)
          exact ⟨by simp [cntW, show xs.all okLen = false from e], rfl⟩
        · by_cases h3 : 0 < x
          · have hp := pow15 x h3
            go_wp2
            go_round
            case rel => exact ⟨k + 1, by omega, by go_num, all_snoc xs k hlt x HX.out (by omega) (by omega) hok.out, by rw [costs_snoc xs k hlt, HX.out, costOf, if_pos h3]⟩
            case measure => simp [intOf]; omega
          · go_wp2
            go_round
            case rel => exact ⟨k + 1, by omega, by go_num, all_snoc xs k hlt x HX.out (by omega) (by omega) hok.out, by rw [costs_snoc xs k hlt, HX.out, costOf, if_neg h3, Int.add_zero]⟩
            case measure => simp [intOf]; omega
    · go_wp2
      go_ret
      have e : xs.take k = xs := List.take_of_length_le (by omega)
      have e2 := hok.out
      rw [e] at e2
      exact ⟨by simp [cntW, e, e2], rfl⟩
end Go.Proofs.Ytoeipgbnjcgbjaa
