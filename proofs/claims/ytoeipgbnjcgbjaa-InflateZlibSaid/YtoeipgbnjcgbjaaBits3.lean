/- Walks: Read of package bits; (*huff.Code).more and Read. -/
import Derived.Test.YtoeipgbnjcgbjaaBits2
namespace Go.Proofs.Ytoeipgbnjcgbjaa
open Go.RowKit
set_option linter.unusedVariables false

set_option maxRecDepth 100000 in
theorem bitsRead_any (A : Option Addr) (c : Nat) (bs : List Int) (w : World) (hI : Ints .u8 w A bs) (hsz : bs.length ≤ 140737488351300) :
    Calls Try.prog 69 #[.slice A bs.length c] w fun e w' => (∃ g, e = .returned (.pointer (some ⟨g, 0, none⟩)) ∧ w.heap.size ≤ g ∧ RdRep 130 g g w' bs 0) ∧ Below w.heap.size w w' := by
  obtain ⟨i0, hi, hz0, hz1, hz2⟩ := info_parts Try.info_u8
  go_enter Try.func69, Try.ntmps69
  go_wp2_with (at_builtin; go_loud (refine wpList_append_S rfl (.const (.slice none 0 0)) (.tmp 3) 22 22 rfl i0 (.int .u8 0) 1 (.slice 5) Try.underlying22 Try.underlying22 (fun _ h => by cases h) hi hz0 hz1 hz2 rfl rfl rfl (OwnS.nil w w.heap.size _ _) (Src.ints hI) ?_ ?_ ?_ ?_; (unfold maxLen; omega); omega; (exact Nat.le_refl _); intro A5 c5 w5 ho5 hg5 hw5))
  rw [Nat.zero_add, List.nil_append] at ho5
  have hI5 := ho5.ints
  have hcap5 := ho5.cap
  have hmax5 : c5 ≤ maxLen := by
    rcases ho5.2 with ⟨hv, hn⟩ | ⟨g', off, cap, cur, hv, _, _, hn, hm, _⟩
    · injection hv with _ _ hc; omega
    · injection hv with _ _ hc; omega
  have hb5 := hg5.size
  go_ret
  refine ⟨⟨w5.heap.size, rfl, hb5, A5, c5, ?_, ?_, ?_, Nat.le_refl _, fun _ => ⟨hcap5, hmax5⟩⟩, (((Below.refl _ _).grown hg5 (Nat.le_refl _) (fun k h => by cases h))).alloc hb5 _⟩
  · refine (Cel.new w5 _ _ _ (fun i hi => ?_))
    rcases i with _ | _ | i
    · simp
    · simp
    · simp at hi; omega
  · exact hI5.below ((Below.refl _ _).alloc (Nat.le_refl _) _)
  · intro hl b' o hA
    obtain ⟨b, o', hA', hlt, _⟩ := hI5 hl
    rw [hA] at hA'
    injection hA' with h1
    injection h1 with h1
    omega

/-- A code in memory all of whose blocks lie from g up to H and have not changed since. -/
def CodeF (H g : Nat) (w : World) (f : Nat → Int) (s : Nat → List Int) (d : Int) : Prop :=
  ∃ w1, CodeRep (g + 1) g w1 f s d ∧ w1.heap.size = H ∧ ∀ k, g ≤ k → k < H → w.heap[k]? = w1.heap[k]?
section
variable {H g : Nat} {w w' : World} {f : Nat → Int} {s : Nat → List Int} {d : Int}
theorem CodeF.lt (h : CodeF H g w f s d) : g < H := by
  obtain ⟨w1, h1, h2, h3⟩ := h
  have := h1.blk
  omega
theorem CodeF.cellF (h : CodeF H g w f s d) {i : Nat} (hi : i < 16) : w.cell? ⟨g, i, none⟩ = some (.int .u32 (f i)) := by
  have hl := h.lt
  obtain ⟨w1, h1, h2, h3⟩ := h
  exact (World.cell?_of_block (h3 g (Nat.le_refl _) hl)).trans (h1.cellF hi)
theorem CodeF.cellD (h : CodeF H g w f s d) : w.cell? ⟨g, 32, none⟩ = some (.int .i64 d) := by
  have hl := h.lt
  obtain ⟨w1, h1, h2, h3⟩ := h
  exact (World.cell?_of_block (h3 g (Nat.le_refl _) hl)).trans h1.cellD
theorem CodeF.cellS (h : CodeF H g w f s d) {i : Nat} (hi : i < 16) : ∃ A c, w.cell? ⟨g, 16 + i, none⟩ = some (.slice A (s i).length c) ∧ (∀ j, j < (s i).length → ∃ b o, A = some ⟨b, o, none⟩ ∧ w.cell? ⟨b, o + j, none⟩ = some (.int .i64 ((s i).getD j 0))) := by
  have hl := h.lt
  obtain ⟨w1, h1, h2, h3⟩ := h
  obtain ⟨A, c, hc, ho⟩ := h1.cellS hi
  refine ⟨A, c, (World.cell?_of_block (h3 g (Nat.le_refl _) hl)).trans hc, fun j hj => ?_⟩
  obtain ⟨b, o, hA, hlt, hcell⟩ := (Ints.of_own ho) (by omega)
  have hbg : g + 1 ≤ b := (ho.lt b (by rw [hA]; rfl)).1
  exact ⟨b, o, hA, (World.cell?_of_block (h3 b (by omega) (by omega))).trans (hcell j hj)⟩
theorem CodeF.same' (h : CodeF H g w f s d) (hw : ∀ k, g ≤ k → k < H → w'.heap[k]? = w.heap[k]?) : CodeF H g w' f s d := by
  obtain ⟨w1, h1, h2, h3⟩ := h
  exact ⟨w1, h1, h2, fun k hg hk => (hw k hg hk).trans (h3 k hg hk)⟩
theorem CodeF.same (h : CodeF H g w f s d) (hw : ∀ k, k < H → w'.heap[k]? = w.heap[k]?) : CodeF H g w' f s d := h.same' fun k _ hk => hw k hk
theorem CodeF.le (h : CodeF H g w f s d) : H ≤ w.heap.size := by
  have hl := h.lt
  obtain ⟨w1, h1, h2, h3⟩ := h
  have h4 := h3 (H - 1) (by omega) (by omega)
  have h5 : w1.heap[H - 1]? = some (w1.heap[H - 1]'(by omega)) := Array.getElem?_eq_getElem (by omega)
  rw [h5] at h4
  have := (Array.getElem?_eq_some_iff.1 h4).1
  omega
theorem CodeF.chg' {S : Nat → Prop} (h : CodeF H g w f s d) (hc : Chg S w w') (hH : H ≤ w.heap.size) (hS : ∀ k, g ≤ k → k < H → ¬ S k) : CodeF H g w' f s d :=
  h.same' fun k hg hk => hc.block k (by omega) (hS k hg hk)
theorem CodeF.chg {S : Nat → Prop} (h : CodeF H g w f s d) (hc : Chg S w w') (hH : H ≤ w.heap.size) (hS : ∀ k, k < H → ¬ S k) : CodeF H g w' f s d :=
  h.same fun k hk => hc.block k (by omega) (hS k hk)
end

set_option maxRecDepth 100000 in
set_option maxHeartbeats 4000000 in
theorem more_any (H g : Nat) (f : Nat → Int) (s : Nat → List Int) (d v : Int) (n : Nat) (w : World) (h : CodeF H g w f s d) (hn : n ≤ 15) (hv : 0 ≤ v ∧ v < 2 ^ n) (hf : ∀ i, i < 16 → 0 ≤ f i ∧ f i ≤ 13107200) (hs : ∀ i, i < 16 → (s i).length ≤ 400) (hd : 0 ≤ d ∧ d ≤ 15) :
    Calls Try.prog 129 #[.pointer (some ⟨g, 0, none⟩), .int .u32 v, .int .i64 n] w fun e w' => e = .returned (.bool (moreTo f s v n (d.toNat - n))) ∧ ∃ m, w' = w.drewN m := by
  have hv32 : v < 32768 := Int.lt_of_lt_of_le hv.2 (by rw [two_pow_cast]; have := Nat.pow_le_pow_right (n := 2) (by decide) hn; omega)
  go_enter Try.func129, Try.ntmps129
  go_wp2
  go_loopw [7] (fun l wr => ∃ k : Nat, n + 1 ≤ k ∧ k ≤ 16 ∧ l = .int .i64 k ∧ Hid (moreTo f s v n (k - n - 1) = false) ∧ Drawn w wr) (fun l _ => 17 - (intOf l).toNat)
  case atStart => exact ⟨n + 1, by omega, by omega, by go_num, by rw [show n + 1 - n - 1 = 0 by omega]; rfl, Drawn.refl _⟩
  case round =>
    obtain ⟨k, hk1, hk2, rfl, HM, hD⟩ := hrel
    have cd := (hD.cell _).trans h.cellD
    by_cases hle : (k : Int) ≤ d
    · obtain ⟨A, c, cs, _⟩ := h.cellS (i := k) (by omega)
      have cs := (hD.cell _).trans cs
      have cf := (hD.cell _).trans (h.cellF (i := k) (by omega))
      have hf := hf k (by omega)
      have hs := hs k (by omega)
      generalize hfk : f k = fk at *
      generalize hsk : (s k).length = sk at *
      have HF := Lib.hid hfk
      have HS := Lib.hid hsk
      clear hfk hsk
      have hk16 : (k : Int) < 16 := by omega
      obtain ⟨lo, hlo⟩ : ∃ lo : Int, lo = v * 2 ^ (k - n) := ⟨_, rfl⟩
      obtain ⟨hi, hhi⟩ : ∃ hi : Int, hi = (v + 1) * 2 ^ (k - n) := ⟨_, rfl⟩
      have hb : 0 ≤ lo ∧ lo ≤ hi ∧ hi ≤ 32768 := by
        have hp : (0 : Int) < 2 ^ (k - n) := Int.pow_pos (by decide)
        have h2 : (v + 1) * 2 ^ (k - n) ≤ 2 ^ n * 2 ^ (k - n) := Int.mul_le_mul_of_nonneg_right (by omega) (Int.le_of_lt hp)
        rw [← Int.pow_add, show n + (k - n) = k by omega] at h2
        have h3 : (2 : Int) ^ k ≤ 32768 := by rw [two_pow_cast]; have := Nat.pow_le_pow_right (n := 2) (by decide) (show k ≤ 15 by omega); omega
        have h4 : 0 ≤ v * 2 ^ (k - n) := Int.mul_nonneg hv.1 (Int.le_of_lt hp)
        have h5 : (v + 1) * 2 ^ (k - n) = v * 2 ^ (k - n) + 2 ^ (k - n) := by rw [Int.add_mul, Int.one_mul]
        omega
      have e1 : v * 2 ^ (k - n) % 4294967296 = lo := by rw [← hlo]; omega
      have e2 : (v + 1) * 2 ^ (k - n) % 4294967296 = hi := by rw [← hhi]; omega
      have HL := Lib.hid hlo
      have HH := Lib.hid hhi
      clear hlo hhi
      have HA : Hid (moreAt f s v n (k - n - 1) = decide (0 < sk ∧ fk < hi ∧ lo < fk + sk)) := by
        show _ = _
        unfold moreAt
        rw [show n + 1 + (k - n - 1) = k by omega, show k - n - 1 + 1 = k - n by omega, HF.out, HS.out, ← HL.out, ← HH.out]
      go_wp2
      go_quiet (fail)
      go_wp2
      · go_ret
        have hA : moreAt f s v n (k - n - 1) = true := by rw [HA.out]; simp; omega
        have : moreTo f s v n (d.toNat - n) = true := (moreTo_iff f s v n _).2 ⟨k - n - 1, by omega, hA⟩
        obtain ⟨m, rfl⟩ := hD
        exact ⟨by rw [this]; try rfl, _, World.drewN_drewN _ _ _⟩
      all_goals
        have hA : moreAt f s v n (k - n - 1) = false := by rw [HA.out]; simp; omega
        refine ⟨⟨k + 1, by omega, by omega, by go_num, ?_, hD.more nq⟩, by simp [intOf]; omega⟩
        show _ = _
        rw [show k + 1 - n - 1 = (k - n - 1) + 1 by omega, moreTo, HM.out, hA]
        rfl
    · go_wp2
      go_ret
      have : moreTo f s v n (d.toNat - n) = false := by
        by_cases hdn : d.toNat ≤ n
        · rw [show d.toNat - n = 0 by omega]; rfl
        · cases hm : moreTo f s v n (d.toNat - n) with
          | false => rfl
          | true =>
            obtain ⟨j, hj, hA⟩ := (moreTo_iff f s v n _).1 hm
            have h2 : moreTo f s v n (k - n - 1) = true := (moreTo_iff f s v n _).2 ⟨j, by omega, hA⟩
            rw [HM.out] at h2
            cases h2
      obtain ⟨m, rfl⟩ := hD
      exact ⟨by rw [this]; try rfl, _, rfl⟩
end Go.Proofs.Ytoeipgbnjcgbjaa
