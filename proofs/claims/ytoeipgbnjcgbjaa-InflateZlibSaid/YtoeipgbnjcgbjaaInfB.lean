/- Inflate: a match's length and distance, by the program. -/
import Derived.Test.YtoeipgbnjcgbjaaInfA
import Derived.Test.YtoeipgbnjcgbjaaInfN
import Derived.Test.YtoeipgbnjcgbjaaBits4
namespace Go.Proofs.Ytoeipgbnjcgbjaa
open Go.RowKit
set_option linter.unusedVariables false

/-- What length and distance leave. -/
def LdPost (L R G : Nat) (bs : List Int) (most : Nat) (vo : Value) (out : List Int) (x : Option (Int × Nat)) (p : Nat) (w : World) (e : Ending) (w' : World) : Prop :=
  match x with
  | some (n, q) => e = .returned (.tuple #[.int .i64 n, .int .i64 0]) ∧ InfAt L R G bs most w' q vo out ∧ Chg (fun k => k = G) w w'
  | none => ∃ y, e = .returned (.tuple #[.int .i64 y, .int .i64 4]) ∧ ∃ m, w' = w.drewN m
theorem pow_small (k m : Nat) (h : k ≤ m) : (0 : Int) ≤ 2 ^ k ∧ (2 : Int) ^ k ≤ 2 ^ m := by
  rw [two_pow_cast, two_pow_cast]
  exact ⟨Int.natCast_nonneg _, Int.ofNat_le.2 (Nat.pow_le_pow_right (n := 2) (by decide) h)⟩
theorem toNat_cast (x : Int) (h : 0 ≤ x) : ∃ k : Nat, x.toNat = k ∧ x = (k : Int) := ⟨x.toNat, rfl, (Int.toNat_of_nonneg h).symm⟩
set_option maxRecDepth 100000 in
set_option maxHeartbeats 4000000 in
theorem iLen_any (L R G most p : Nat) (bs out : List Int) (w : World) (vo : Value) (s : Int) (h : InfAt L R G bs most w p vo out) (hs : 257 ≤ s ∧ s < 286) :
    Calls Try.prog 130 #[.pointer (some ⟨R, 0, none⟩), .int .i64 s] w (LdPost L R G bs most vo out (lenE bs s p) p w) := by
  unfold lenE
  by_cases h1 : s < 265
  · rw [if_pos h1]
    have HI := Lib.hid h
    have d1 : decide (s < 265) = true := decide_eq_true h1
    have e1 : IntKind.i64.wrap (s - 254) = s - 254 := IntWalk.i64_in _ (by omega)
    clear h
    go_enter Try.func130, Try.ntmps130
    go_wp2
    go_ret2
    exact ⟨rfl, HI.out, Chg.refl _ _⟩
  · rw [if_neg h1]
    have d1 : decide (s < 265) = false := decide_eq_false h1
    by_cases h2 : s = 285
    · rw [if_pos h2]
      subst h2
      have HI := Lib.hid h
      clear h
      go_enter Try.func130, Try.ntmps130
      go_wp2
      go_ret2
      exact ⟨rfl, HI.out, Chg.refl _ _⟩
    · rw [if_neg h2]
      have d2 : (s == 285) = false := by simp [h2]
      obtain ⟨k, hk, hk2⟩ := toNat_cast ((s - 261) / 4) (by omega)
      obtain ⟨r, hr⟩ : ∃ r, (s - 265) % 4 = r := ⟨_, rfl⟩
      have hr2 : 0 ≤ r ∧ r < 4 := by omega
      have hk5 : k ≤ 5 := by omega
      rw [hk, hr]
      have e1 : IntKind.i64.wrap (s - 261) = s - 261 := IntWalk.i64_in _ (by omega)
      have e2 : IntKind.i64.wrap ((s - 261) / 4) = (k : Int) := by rw [hk2]; exact IntWalk.i64_in _ (by omega)
      have e3 : IntKind.i64.wrap (s - 265) = s - 265 := IntWalk.i64_in _ (by omega)
      have e4 : IntKind.i64.wrap (4 + r) = 4 + r := IntWalk.i64_in _ (by omega)
      have hn1 : 0 ≤ s - 261 := by omega
      have hn2 : 0 ≤ s - 265 := by omega
      have hm : min k 64 = k := by omega
      cases ht : tk bs p k with
      | none =>
        have HT := Lib.hid (iTake_no L R G most p k bs out w vo h (by omega) ht)
        clear h ht
        go_enter Try.func130, Try.ntmps130
        go_wp2_with fail
        refine HT.out.mono ?_
        rintro e w1 ⟨rfl, m, rfl⟩
        go_wp2
        go_ret2
        exact ⟨_, rfl, m, rfl⟩
      | some v =>
        have hv := tk_le ht
        have HT := Lib.hid (iTake_yes L R G most p k bs out w vo v h (by omega) ht)
        clear h ht
        go_enter Try.func130, Try.ntmps130
        go_wp2_with fail
        refine HT.out.mono ?_
        rintro e w1 ⟨rfl, hI, hC⟩
        have HI := Lib.hid hI
        have HC := Lib.hid hC
        clear hI hC HT
        go_wp2
        go_ret2
        refine ⟨?_, HI.out, HC.out⟩
        have hP := pow_small k 5 hk5
        have hQ : 0 ≤ (4 + r) * 2 ^ k ∧ (4 + r) * 2 ^ k ≤ 224 := ⟨Int.mul_nonneg (by omega) (by omega), Int.le_trans (Int.mul_le_mul (show 4 + r ≤ 7 by omega) hP.2 (by omega) (by omega)) (by decide)⟩
        have hv2 : v < 32 := by have := hP.2; omega
        have hx : wrap64 (wrap64 (3 + wrap64 ((4 + r) * 2 ^ k)) + v) = 3 + (4 + r) * 2 ^ k + v := by
          rw [IntWalk.wrap64_in ((4 + r) * 2 ^ k) (by omega), IntWalk.wrap64_in (3 + (4 + r) * 2 ^ k) (by omega), IntWalk.wrap64_in _ (by omega)]
        rw [← hx]
        rfl
set_option maxRecDepth 100000 in
set_option maxHeartbeats 4000000 in
theorem iDist_any (L R G most p : Nat) (bs out : List Int) (w : World) (vo : Value) (s : Int) (h : InfAt L R G bs most w p vo out) (hs : 0 ≤ s ∧ s < 30) :
    Calls Try.prog 131 #[.pointer (some ⟨R, 0, none⟩), .int .i64 s] w (LdPost L R G bs most vo out (distE bs s p) p w) := by
  unfold distE
  by_cases h1 : s < 4
  · rw [if_pos h1]
    have HI := Lib.hid h
    have d1 : decide (s < 4) = true := decide_eq_true h1
    have e1 : IntKind.i64.wrap (s + 1) = s + 1 := IntWalk.i64_in _ (by omega)
    clear h
    go_enter Try.func131, Try.ntmps131
    go_wp2
    go_ret2
    exact ⟨rfl, HI.out, Chg.refl _ _⟩
  · rw [if_neg h1]
    have d1 : decide (s < 4) = false := decide_eq_false h1
    obtain ⟨k, hk, hk2⟩ := toNat_cast ((s - 2) / 2) (by omega)
    obtain ⟨r, hr⟩ : ∃ r, s % 2 = r := ⟨_, rfl⟩
    have hr2 : 0 ≤ r ∧ r < 2 := by omega
    have hk5 : k ≤ 13 := by omega
    rw [hk, hr]
    have e1 : IntKind.i64.wrap (s - 2) = s - 2 := IntWalk.i64_in _ (by omega)
    have e2 : IntKind.i64.wrap ((s - 2) / 2) = (k : Int) := by rw [hk2]; exact IntWalk.i64_in _ (by omega)
    have e4 : IntKind.i64.wrap (2 + r) = 2 + r := IntWalk.i64_in _ (by omega)
    have hn1 : 0 ≤ s - 2 := by omega
    have hn2 : 0 ≤ s := by omega
    have hm : min k 64 = k := by omega
    cases ht : tk bs p k with
    | none =>
      have HT := Lib.hid (iTake_no L R G most p k bs out w vo h (by omega) ht)
      clear h ht
      go_enter Try.func131, Try.ntmps131
      go_wp2_with fail
      refine HT.out.mono ?_
      rintro e w1 ⟨rfl, m, rfl⟩
      go_wp2
      go_ret2
      exact ⟨_, rfl, m, rfl⟩
    | some v =>
      have hv := tk_le ht
      have HT := Lib.hid (iTake_yes L R G most p k bs out w vo v h (by omega) ht)
      clear h ht
      go_enter Try.func131, Try.ntmps131
      go_wp2_with fail
      refine HT.out.mono ?_
      rintro e w1 ⟨rfl, hI, hC⟩
      have HI := Lib.hid hI
      have HC := Lib.hid hC
      clear hI hC HT
      go_wp2
      go_ret2
      refine ⟨?_, HI.out, HC.out⟩
      have hP := pow_small k 13 hk5
      have hQ : 0 ≤ (2 + r) * 2 ^ k ∧ (2 + r) * 2 ^ k ≤ 24576 := ⟨Int.mul_nonneg (by omega) (by omega), Int.le_trans (Int.mul_le_mul (show 2 + r ≤ 3 by omega) hP.2 (by omega) (by omega)) (by decide)⟩
      have hv2 : v < 8192 := by have := hP.2; omega
      have hx : wrap64 (wrap64 (1 + wrap64 ((2 + r) * 2 ^ k)) + v) = 1 + (2 + r) * 2 ^ k + v := by
        rw [IntWalk.wrap64_in ((2 + r) * 2 ^ k) (by omega), IntWalk.wrap64_in (1 + (2 + r) * 2 ^ k) (by omega), IntWalk.wrap64_in _ (by omega)]
      rw [← hx]
      rfl
end Go.Proofs.Ytoeipgbnjcgbjaa
