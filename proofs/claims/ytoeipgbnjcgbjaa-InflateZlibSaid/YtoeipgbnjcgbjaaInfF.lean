/- Inflate: a code that must be whole, and the fixed codes' block, by the program. -/
import Derived.Test.YtoeipgbnjcgbjaaInfE
import Derived.Test.YtoeipgbnjcgbjaaHuffNew
import Derived.Test.YtoeipgbnjcgbjaaHuffComp
namespace Go.Proofs.Ytoeipgbnjcgbjaa
open Go.RowKit
set_option linter.unusedVariables false

/-- How many lengths are there, and whether none is longer than one. -/
def nPos (xs : List Int) : Nat := (xs.filter fun x => decide (0 < x)).length
def oneB (xs : List Int) : Bool := xs.all fun x => decide (x ≤ 1)
theorem nPos_snoc (xs : List Int) (x : Int) : nPos (xs ++ [x]) = nPos xs + if 0 < x then 1 else 0 := by
  unfold nPos
  rw [List.filter_append, List.length_append]
  by_cases h : 0 < x
  · rw [if_pos h]; simp [h]
  · rw [if_neg h]; simp [h]
theorem oneB_snoc (xs : List Int) (x : Int) : oneB (xs ++ [x]) = (oneB xs && decide (x ≤ 1)) := by
  unfold oneB
  rw [List.all_append]
  simp
theorem nPos_le (xs : List Int) : nPos xs ≤ xs.length := List.length_filter_le _ _
theorem costs_one : ∀ (xs : List Int), cntB xs = true → oneB xs = true → costs xs = 16384 * nPos xs := by
  intro xs
  induction xs with
  | nil => intro _ _; rfl
  | cons x xs ih =>
    intro hb ho
    have hb' : okLen x = true ∧ cntB xs = true := by simpa [cntB] using hb
    have ho' : x ≤ 1 ∧ oneB xs = true := by simpa [oneB] using ho
    have h0 : 0 ≤ x := by have := hb'.1; simp [okLen] at this; omega
    have e : costs (x :: xs) = costOf x + costs xs := by simp [costs]
    rw [e, ih hb'.2 ho'.2]
    unfold costOf nPos
    by_cases h : 0 < x
    · have h1 : x = 1 := by omega
      subst h1
      simp
      omega
    · simp [h]
theorem fewB_eq (xs : List Int) : fewB xs = (oneB xs && decide (nPos xs < 2)) := rfl
/-- What a call for a code leaves. -/
def NewPost (xs : List Int) (w : World) (e : Ending) (w' : World) : Prop :=
  (∃ g, e = .returned (.tuple #[.pointer (some ⟨g, 0, none⟩), .int .i64 0]) ∧ w.heap.size < g ∧ CodeX w'.heap.size g w' xs) ∧ Below w.heap.size w w'
theorem iNew_ok (A : Option Addr) (c n : Nat) (xs : List Int) (w : World) (h : Ints .i64 w A xs) (hb : cntB xs = true) (hl : xs.length = n) (hn : n ≤ 400) (hc : costs xs ≤ 32768) :
    Calls Try.prog 106 #[.slice A n c] w (NewPost xs w) := by
  subst hl
  have h2 : cntN xs ≤ 32768 := by unfold cntN; rw [if_pos (show xs.all okLen = true from hb)]; exact hc
  refine (huffNew_ok A c xs w h hb hn h2).mono ?_
  rintro e w1 ⟨⟨g, rfl, hg, hrep⟩, hb1⟩
  exact ⟨⟨g, rfl, hg, ⟨w1, hrep, rfl, fun _ _ _ => rfl⟩, hb, hn⟩, hb1⟩
/-- What whole leaves. -/
def WholePost (xs : List Int) (few : Bool) (w : World) (e : Ending) (w' : World) : Prop :=
  Below w.heap.size w w' ∧ (wholeB xs few = false → e = .returned (.tuple #[.pointer none, .int .i64 3])) ∧
    (wholeB xs few = true → ∃ g, e = .returned (.tuple #[.pointer (some ⟨g, 0, none⟩), .int .i64 0]) ∧ w.heap.size < g ∧ CodeX w'.heap.size g w' xs)
theorem whole_no {xs : List Int} {few : Bool} {w w' : World} (h : wholeB xs few = false) (hb : Below w.heap.size w w') : WholePost xs few w (.returned (.tuple #[.pointer none, .int .i64 3])) w' :=
  ⟨hb, fun _ => rfl, fun h' => absurd (h.symm.trans h') (by decide)⟩
theorem whole_ok {xs : List Int} {few : Bool} {w w' : World} {g : Nat} (h : wholeB xs few = true) (hb : Below w.heap.size w w') (hg : w.heap.size < g) (hx : CodeX w'.heap.size g w' xs) : WholePost xs few w (.returned (.tuple #[.pointer (some ⟨g, 0, none⟩), .int .i64 0])) w' :=
  ⟨hb, fun h' => absurd (h.symm.trans h') (by decide), fun _ => ⟨g, rfl, hg, hx⟩⟩
set_option maxRecDepth 100000 in
set_option maxHeartbeats 4000000 in
theorem iWhole_any (A : Option Addr) (c : Nat) (xs : List Int) (few : Bool) (w : World) (h : Ints .i64 w A xs) (hn : xs.length ≤ 400) :
    Calls Try.prog 109 #[.slice A xs.length c, .bool few] w (WholePost xs few w) := by
  by_cases hb : cntB xs = true
  · by_cases hc : costs xs ≤ 32768
    · have HN := Lib.hid (iNew_ok A c xs.length xs w h hb rfl hn hc)
      have HB := Lib.hid hb
      clear hc hb
      go_enter Try.func109, Try.ntmps109
      go_wp2_with fail
      refine HN.out.mono ?_
      rintro e w1 ⟨⟨g, rfl, hg, hx⟩, hb1⟩
      have h1 := h.below hb1
      have HX := Lib.hid hx
      have HB1 := Lib.hid hb1
      clear HN hx hb1 h
      go_wp2
      go_loop [8, 9, 21] (fun n one i => ∃ k : Nat, k ≤ xs.length ∧ i = .int .i64 k ∧ n = .int .i64 (nPos (xs.take k) : Nat) ∧ one = .bool (oneB (xs.take k))) (fun _ _ i => xs.length - (intOf i).toNat)
      case atStart => exact ⟨0, Nat.zero_le _, rfl, rfl, rfl⟩
      case round =>
        obtain ⟨k, hk, rfl, rfl, rfl⟩ := hrel
        by_cases hlt : k < xs.length
        · obtain ⟨b, o, rfl, hbs, hcell⟩ := h1 (by omega)
          have hck := hcell k hlt
          have HS := Lib.hid (take_snoc_getD xs k hlt)
          have hnp := nPos_le (xs.take k)
          rw [List.length_take_of_le hk] at hnp
          clear hcell h1
          have h0 := (HX.out.all k hlt).1
          generalize xs.getD k 0 = x at *
          have e1 := nPos_snoc (xs.take k) x
          have e2 := oneB_snoc (xs.take k) x
          rw [← HS.out] at e1 e2
          have HE1 := Lib.hid e1
          have HE2 := Lib.hid e2
          clear e1 e2
          generalize nPos (xs.take k) = m at *
          generalize oneB (xs.take k) = one at *
          by_cases hp : 0 < x
          · have d1 : decide (0 < x) = true := decide_eq_true hp
            cases one with
            | false =>
              go_wp2
              go_round
              case rel => exact ⟨k + 1, by omega, by go_num, by rw [HE1.out, if_pos hp]; go_num, by rw [HE2.out]; rfl⟩
              case measure => simp [intOf]; omega
            | true =>
              by_cases hx1 : x = 1
              · subst hx1
                go_wp2
                go_round
                case rel => exact ⟨k + 1, by omega, by go_num, by rw [HE1.out, if_pos hp]; go_num, by rw [HE2.out]; rfl⟩
                case measure => simp [intOf]; omega
              · have d2 : (x == 1) = false := by simpa using hx1
                go_wp2
                go_round
                case rel => exact ⟨k + 1, by omega, by go_num, by rw [HE1.out, if_pos hp]; go_num, by rw [HE2.out, decide_eq_false (by omega)]; rfl⟩
                case measure => simp [intOf]; omega
          · have d1 : decide (0 < x) = false := decide_eq_false hp
            go_wp2
            go_round
            case rel => exact ⟨k + 1, by omega, by go_num, by rw [HE1.out, if_neg hp]; rfl, by rw [HE2.out, decide_eq_true (by omega)]; simp⟩
            case measure => simp [intOf]; omega
        · obtain rfl : k = xs.length := by omega
          rw [List.take_length]
          have HQ := Lib.hid (complete_any A c xs w1 h1 (by omega))
          have HW : Hid (wholeB xs few = (complete xs || (few && (oneB xs && decide (nPos xs < 2))))) := Lib.hid (by unfold wholeB; rw [HB.out, fewB_eq]; simp)
          have hnp := nPos_le xs
          clear h1
          go_wp2_with fail
          refine HQ.out.mono ?_
          rintro e w2 ⟨rfl, rfl⟩
          clear HQ
          generalize complete xs = cB at *
          generalize oneB xs = one at *
          generalize nPos xs = m at *
          cases cB with
          | true =>
            have HW2 : Hid (wholeB xs few = true) := Lib.hid (by rw [HW.out]; rfl)
            go_wp2
            go_ret2
            exact whole_ok HW2.out HB1.out hg HX.out
          | false =>
            cases few with
            | false =>
              have HW2 : Hid (wholeB xs false = false) := Lib.hid (by rw [HW.out]; rfl)
              go_wp2
              go_ret2
              exact whole_no HW2.out HB1.out
            | true =>
              by_cases hm : m < 2
              · have d1 : decide ((m : Int) < 2) = true := decide_eq_true (by omega)
                cases one with
                | false =>
                  have HW2 : Hid (wholeB xs true = false) := Lib.hid (by rw [HW.out]; rfl)
                  go_wp2
                  go_ret2
                  exact whole_no HW2.out HB1.out
                | true =>
                  have HW2 : Hid (wholeB xs true = true) := Lib.hid (by rw [HW.out, decide_eq_true hm]; rfl)
                  go_wp2
                  go_ret2
                  exact whole_ok HW2.out HB1.out hg HX.out
              · have d1 : decide ((m : Int) < 2) = false := decide_eq_false (by omega)
                have HW2 : Hid (wholeB xs true = false) := Lib.hid (by rw [HW.out, decide_eq_false hm]; simp)
                go_wp2
                go_ret2
                exact whole_no HW2.out HB1.out
    · have HW : Hid (wholeB xs few = false) := by
        refine Lib.hid ?_
        unfold wholeB complete
        have h1 : (costs xs == 32768) = false := by simp; omega
        rw [h1, fewB_eq]
        cases ho : oneB xs with
        | false => simp
        | true =>
          have := costs_one xs hb ho
          rw [decide_eq_false (by omega)]
          simp
      have HN := Lib.hid (huffNew_form A c xs w h hb hn (by unfold cntN; rw [if_pos (show xs.all okLen = true from hb)]; omega))
      clear h hb hc
      go_enter Try.func109, Try.ntmps109
      go_wp2_with fail
      refine HN.out.mono ?_
      rintro e w1 ⟨rfl, rfl⟩
      go_wp2
      go_ret2
      exact whole_no HW.out (Below.refl _ _)
  · have hb' : cntB xs = false := by simpa using hb
    have HW : Hid (wholeB xs few = false) := Lib.hid (by unfold wholeB complete; rw [hb']; simp)
    have HN := Lib.hid (huffNew_bad A c xs w h (by omega) (.inl hb'))
    clear h hb hb'
    go_enter Try.func109, Try.ntmps109
    go_wp2_with fail
    refine HN.out.mono ?_
    rintro e w1 ⟨rfl, rfl⟩
    go_wp2
    go_ret2
    exact whole_no HW.out (Below.refl _ _)
end Go.Proofs.Ytoeipgbnjcgbjaa
