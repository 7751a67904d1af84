/- The walk of SumHex. -/
import Derived.Test.YtcbccopmbkefgaaSumLaw1
namespace Go.Proofs.Ytcbccopmbkefgaa
open Go.RowKit
set_option linter.unusedVariables false

theorem dig_of_hexd (n : Int) (h0 : 0 ≤ n) (h1 : n < 16) : dig (hexd n) = some n := by
  have h := dig_hexd (hexd n) n h0 h1 rfl
  unfold digR at h
  cases hd : dig (hexd n) with
  | none => rw [hd] at h; simp only at h; omega
  | some d => rw [hd] at h; simp only at h; rw [h]
theorem hexL_at (xs : List Int) : ∀ (j : Nat), j < xs.length → (hexL xs).getD (2 * j) 0 = hexd (xs.getD j 0 / 16) ∧ (hexL xs).getD (2 * j + 1) 0 = hexd (xs.getD j 0 % 16) := by
  induction xs with
  | nil => intro j hj; simp at hj
  | cons y ys ih =>
    intro j hj
    cases j with
    | zero => exact ⟨rfl, rfl⟩
    | succ j =>
      have := ih j (by simpa using hj)
      rw [show 2 * (j + 1) = 2 * j + 1 + 1 by omega, show 2 * j + 1 + 1 + 1 = (2 * j + 1) + 1 + 1 by omega]
      exact this
theorem hexL_ok (xs : List Int) (hb : Bytes xs) : Bytes (hexL xs) := by
  have hh : ∀ n : Int, 0 ≤ n → n < 16 → 0 ≤ hexd n ∧ hexd n < 256 := fun n h0 h1 => by unfold hexd; split <;> omega
  induction xs with
  | nil => intro x hx; cases hx
  | cons y ys ih =>
    intro x hx
    have hy := hb y (by simp)
    rcases List.mem_append.1 hx with hx | hx
    · simp only [hexOf, List.mem_cons, List.not_mem_nil, or_false] at hx
      rcases hx with rfl | rfl
      · exact hh _ (by omega) (by omega)
      · exact hh _ (by omega) (by omega)
    · exact ih (fun z hz => hb z (by simp [hz])) x hx
theorem unhex_hex (xs : List Int) (hb : Bytes xs) : unOk (hexL xs) = true ∧ unV (hexL xs) = xs := by
  have hl := hexL_len xs
  have hp : ∀ j, j < xs.length → dig ((hexL xs).getD (2 * j) 0) = some (xs.getD j 0 / 16) ∧ dig ((hexL xs).getD (2 * j + 1) 0) = some (xs.getD j 0 % 16) := fun j hj => by
    obtain ⟨h1, h2⟩ := hexL_at xs j hj
    have := hb.at_ j hj
    rw [h1, h2]
    exact ⟨dig_of_hexd _ (by omega) (by omega), dig_of_hexd _ (by omega) (by omega)⟩
  have hok : unOk (hexL xs) = true := unOk_good _ (by omega) (fun j hj => by
    obtain ⟨h1, h2⟩ := hp j (by omega)
    unfold pairOk
    rw [h1, h2]
    rfl)
  refine ⟨hok, ?_⟩
  unfold unV
  rw [if_pos hok, show (hexL xs).length / 2 = xs.length by omega]
  apply List.ext_getElem
  · rw [unTo_len]
  · intro j h1 h2
    obtain ⟨h3, h4⟩ := hp j h2
    have := hb.at_ j h2
    have e : xs.getD j 0 = xs[j] := by rw [List.getD_eq_getElem?_getD, List.getElem?_eq_getElem h2]; rfl
    simp only [unTo, List.getElem_map, List.getElem_range, pairV]
    rw [h3, h4, ← e]
    simp only [Option.getD_some]
    omega

set_option maxRecDepth 100000 in
set_option maxHeartbeats 2000000 in
theorem sumHex_walk (A : Option Addr) (c : Nat) (xs : List Int) (s : ByteArray) (w : World) (hI : Ints .u8 w A xs) (wf : ∀ x ∈ xs, (Lit.int .u8 x).wf = true) (hsz : xs.length ≤ 70368744177000) (hs : s.size ≤ 140737488355328) :
    Calls Try.prog 9 #[.slice A xs.length c, .string s] w fun e w' => e = .returned (.bool true) ∧ Below w.heap.size w w' := by
  have hb := bytes_wf xs wf
  have hss := strOfNums_size (hexL xs)
  have hbs := bytesOf_str (hexL xs) (hexL_ok xs hb)
  obtain ⟨hu1, hu2⟩ := unhex_hex xs hb
  have hss2 : (strOfNums (hexL xs)).size ≤ 140737488355328 := by rw [hss, hexL_len]; omega
  have HU1 := Lib.hid hu1
  have HU2 := Lib.hid hu2
  have HBS := Lib.hid hbs
  clear hu1 hu2 hbs hss
  go_enter Try.func9, Try.ntmps9
  go_wp2_with fail
  refine (hex_any A _ c xs w hI rfl hb hsz).mono ?_
  rintro e w1 ⟨rfl, hb1⟩
  go_wp2_with fail
  refine (unhex_any (strOfNums (hexL xs)) w1 hss2).mono ?_
  rw [HBS.out]
  rintro e w2 ⟨A2, c2, rfl, hI2, hb2⟩
  rw [HU2.out] at hI2 ⊢
  rw [HU1.out]
  have hB2 := hb1.trans (hb2.mono hb1.size)
  clear hb1 hb2
  go_wp2_with fail
  refine (unhex_any s w2 hs).mono ?_
  rintro e w3 ⟨A3, c3, rfl, hI3, hb3⟩
  have hB3 := hB2.trans (hb3.mono hB2.size)
  have hI23 := hI2.below hb3
  clear hb3 hB2 hI2
  go_wp2_with fail
  refine (unhexR_any s w3 hs).mono ?_
  rintro e w4 ⟨A4, c4, rfl, hI4, hb4⟩
  have hB4 := hB3.trans (hb4.mono hB3.size)
  have hI24 := hI23.below hb4
  have hI34 := hI3.below hb4
  clear hb4 hB3 hI23 hI3
  have hv1 := run_str_ints (P := Try.prog) (w := w4) 35 9 5 Try.underlying35 Try.underlying5 Try.underlying9 A2 c2 xs hI24
  have hv2 := run_str_ints (P := Try.prog) (w := w4) 35 9 5 Try.underlying35 Try.underlying5 Try.underlying9 A c xs (hI.below hB4)
  go_wp2_with fail
  clear hv1 hv2
  refine (hex_any A _ c xs w4 (hI.below hB4) rfl hb hsz).mono ?_
  rintro e w5 ⟨rfl, hb5⟩
  have hB5 := hB4.trans (hb5.mono hB4.size)
  have hI35 := hI34.below hb5
  have hI45 := hI4.below hb5
  clear hb5 hB4 hI24 hI34 hI4
  go_wp2_with fail
  refine (hexR_any A _ c xs w5 (hI.below hB5) rfl hb hsz).mono ?_
  rintro e w6 ⟨rfl, hb6⟩
  have hB6 := hB5.trans (hb6.mono hB5.size)
  have hI36 := hI35.below hb6
  have hI46 := hI45.below hb6
  clear hb6 hB5 hI35 hI45
  have hv1 := run_str_ints (P := Try.prog) (w := w6) 35 9 5 Try.underlying35 Try.underlying5 Try.underlying9 A3 c3 _ hI36
  have hv2 := run_str_ints (P := Try.prog) (w := w6) 35 9 5 Try.underlying35 Try.underlying5 Try.underlying9 A4 c4 _ hI46
  go_wp2_with fail
  refine (awake3_any w6).mono ?_
  rintro e w7 ⟨rfl, hb7⟩
  go_wp2_with fail
  go_ret
  exact ⟨rfl, hB6.trans (hb7.mono hB6.size)⟩
end Go.Proofs.Ytcbccopmbkefgaa
