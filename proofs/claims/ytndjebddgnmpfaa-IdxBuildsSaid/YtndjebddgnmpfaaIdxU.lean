/- IdxBuilds walked. -/
import Derived.Test.YtndjebddgnmpfaaIdxT
import Derived.Test.YtndjebddgnmpfaaIdxQ
namespace Go.Proofs.Ytndjebddgnmpfaa
open Go.RowKit
set_option linter.unusedVariables false
set_option linter.unusedSimpArgs false

/-- What a Build tells, as bytes and an error. -/
def builtX (L : List El) (p : ByteArray) (xs : List Int) (ev : Int) : Prop := (BuildOk L p ∧ xs = buildL (Srt.isort ltE L) (unV (bytesOf p)) ∧ ev = 0) ∨ (¬ BuildOk L p ∧ xs = [] ∧ ev = 1)
theorem BuildPost.form {L : List El} {p : ByteArray} {w w' : World} {e : Ending} (h : BuildPost L p w e w') : ∃ A c xs ev, e = .returned (.tuple #[.slice A xs.length c, .int .i64 ev]) ∧ Ints .u8 w' A xs ∧ builtX L p xs ev ∧ Below w.heap.size w w' := by
  obtain ⟨hb, hn, hy⟩ := h
  by_cases h : BuildOk L p
  · obtain ⟨A, rfl, hI⟩ := hy h
    exact ⟨A, _, _, 0, rfl, hI, .inl ⟨h, rfl, rfl⟩, hb⟩
  · exact ⟨none, 0, [], 1, hn h, Ints.nil, .inr ⟨h, rfl, rfl⟩, hb⟩
theorem RBPost.form {L : List El} {p : ByteArray} {w w' : World} {e : Ending} (h : RBPost L p w e w') : ∃ A c xs ev, e = .returned (.tuple #[.slice A xs.length c, .int .i64 ev]) ∧ Ints .u8 w' A xs ∧ builtX L p xs ev ∧ Below w.heap.size w w' := by
  obtain ⟨hb, hn, hy⟩ := h
  by_cases h : BuildOk L p
  · obtain ⟨A, c, rfl, hI⟩ := hy h
    exact ⟨A, c, _, 0, rfl, hI, .inl ⟨h, rfl, rfl⟩, hb⟩
  · exact ⟨none, 0, [], 1, hn h, Ints.nil, .inr ⟨h, rfl, rfl⟩, hb⟩
theorem builtX.same {L : List El} {p : ByteArray} {xs ys : List Int} {e f : Int} (h : builtX L p xs e) (k : builtX L p ys f) : xs = ys ∧ e = f := by
  rcases h with ⟨h1, h2, h3⟩ | ⟨h1, h2, h3⟩ <;> rcases k with ⟨k1, k2, k3⟩ | ⟨k1, k2, k3⟩
  · exact ⟨h2.trans k2.symm, h3.trans k3.symm⟩
  · exact absurd h1 k1
  · exact absurd k1 h1
  · exact ⟨h2.trans k2.symm, h3.trans k3.symm⟩
set_option maxRecDepth 100000 in
set_option maxHeartbeats 4000000 in
theorem idxBuilds_walk (A0 : Option Addr) (N c0 : Nat) (L : List El) (p : ByteArray) (W : World) (hO : ObE W A0 L) (hN : L.length = N) (hA : A0 = none → N = 0 ∧ c0 = 0) (hsz : N ≤ 2199023255552) (hcr : ∀ x ∈ L, 0 ≤ x.crc ∧ x.crc < 4294967296) (hid : ∀ x ∈ L, x.id.size ≤ 140737488355328) (hp : p.size ≤ 140737488355328) :
    Calls Try.prog 4 #[.slice A0 N c0, .string p] W fun e w' => e = .returned (.bool true) ∧ Below W.heap.size W w' := by
  have HAW := Lib.hid (fun w => awake12_any w)
  by_cases hbig : 100 < N
  · by_cases hle : N ≤ 4096
    · have d1 : decide ((100 : Int) < (N : Int)) = true := decide_eq_true (by omega)
      have d1' : decide (100 < N) = true := decide_eq_true hbig
      have d2 : decide ((N : Int) ≤ 4096) = true := decide_eq_true (by omega)
      have d2' : decide (N ≤ 4096) = true := decide_eq_true hle
      clear hO hN hA hsz hcr hid hp
      go_enter Try.func4, Try.ntmps4
      go_wp2_with fail
      refine (HAW.out W).mono ?_
      rintro e w1 ⟨rfl, hb1⟩
      go_wp2
      go_ret
      exact ⟨rfl, hb1⟩
    · have d1 : decide ((100 : Int) < (N : Int)) = true := decide_eq_true (by omega)
      have d1' : decide (100 < N) = true := decide_eq_true hbig
      have d2 : decide ((N : Int) ≤ 4096) = false := decide_eq_false (by omega)
      have d2' : decide (N ≤ 4096) = false := decide_eq_false hle
      have HB1 := Lib.hid (iBuild_any A0 N c0 L p W hO hN hA hsz hcr hid hp)
      have HB2 := Lib.hid (fun w' (h : Below W.heap.size W w') => rBuild_any A0 N c0 L p w' (fun hl => by
        obtain ⟨g, o, h1, h2, h3⟩ := hO hl
        exact ⟨g, o, h1, Nat.lt_of_lt_of_le h2 h.size, fun i c x hx hc => (h.cell (p := ⟨g, o + i * 5 + c, none⟩) h2).trans (h3 i c x hx hc)⟩) hN hcr hid hp)
      clear hO hN hA hsz hcr hid hp
      go_enter Try.func4, Try.ntmps4
      go_wp2_with fail
      refine HB1.out.mono ?_
      intro e w1 h1
      obtain ⟨A1, c1, xs, ev, rfl, hI1, hX1, hl1⟩ := h1.form
      have HI1 := Lib.hid hI1
      have HX1 := Lib.hid hX1
      have HL1 := Lib.hid hl1
      obtain ⟨n1, hn1⟩ : ∃ n1, xs.length = n1 := ⟨_, rfl⟩
      rw [hn1]
      have HN1 := Lib.hid hn1
      clear h1 hI1 hX1 hl1 HB1 hn1
      go_wp2_with fail
      refine (HB2.out w1 HL1.out).mono ?_
      intro e w2 h2
      obtain ⟨A2, c2, ys, fv, rfl, hI2, hX2, hl2⟩ := h2.form
      obtain ⟨rfl, rfl⟩ := HX1.out.same hX2
      have hI1 := HI1.out.below hl2
      have hv1 := run_str_ints (P := Try.prog) (w := w2) 24 9 5 Try.underlying24 Try.underlying5 Try.underlying9 A1 c1 xs hI1
      have hv2 := run_str_ints (P := Try.prog) (w := w2) 24 9 5 Try.underlying24 Try.underlying5 Try.underlying9 A2 c2 xs hI2
      rw [HN1.out] at hv1 hv2 ⊢
      have HL2 := Lib.hid (HL1.out.trans (hl2.mono HL1.out.size))
      obtain ⟨SS, hSS⟩ : ∃ SS, strOfNums xs = SS := ⟨_, rfl⟩
      rw [hSS] at hv1 hv2
      have t1 : (SS.toList == SS.toList) = true := by simp
      clear h2 hI1 hI2 hX2 hl2 hSS HB2 HI1 HX1
      go_wp2_with fail
      refine (HAW.out _).mono ?_
      rintro e w3 ⟨rfl, hb3⟩
      have HB3 := Lib.hid hb3
      clear hb3
      go_wp2
      go_ret
      exact ⟨rfl, HL2.out.trans (HB3.out.mono HL2.out.size)⟩
  · have d1 : decide ((100 : Int) < (N : Int)) = false := decide_eq_false (by omega)
    have d1' : decide (100 < N) = false := decide_eq_false hbig
    have HB1 := Lib.hid (iBuild_any A0 N c0 L p W hO hN hA hsz hcr hid hp)
    have HB2 := Lib.hid (fun w' (h : Below W.heap.size W w') => rBuild_any A0 N c0 L p w' (fun hl => by
      obtain ⟨g, o, h1, h2, h3⟩ := hO hl
      exact ⟨g, o, h1, Nat.lt_of_lt_of_le h2 h.size, fun i c x hx hc => (h.cell (p := ⟨g, o + i * 5 + c, none⟩) h2).trans (h3 i c x hx hc)⟩) hN hcr hid hp)
    clear hO hN hA hsz hcr hid hp
    go_enter Try.func4, Try.ntmps4
    go_wp2_with fail
    refine HB1.out.mono ?_
    intro e w1 h1
    obtain ⟨A1, c1, xs, ev, rfl, hI1, hX1, hl1⟩ := h1.form
    have HI1 := Lib.hid hI1
    have HX1 := Lib.hid hX1
    have HL1 := Lib.hid hl1
    obtain ⟨n1, hn1⟩ : ∃ n1, xs.length = n1 := ⟨_, rfl⟩
    rw [hn1]
    have HN1 := Lib.hid hn1
    clear h1 hI1 hX1 hl1 HB1 hn1
    go_wp2_with fail
    refine (HB2.out w1 HL1.out).mono ?_
    intro e w2 h2
    obtain ⟨A2, c2, ys, fv, rfl, hI2, hX2, hl2⟩ := h2.form
    obtain ⟨rfl, rfl⟩ := HX1.out.same hX2
    have hI1 := HI1.out.below hl2
    have hv1 := run_str_ints (P := Try.prog) (w := w2) 24 9 5 Try.underlying24 Try.underlying5 Try.underlying9 A1 c1 xs hI1
    have hv2 := run_str_ints (P := Try.prog) (w := w2) 24 9 5 Try.underlying24 Try.underlying5 Try.underlying9 A2 c2 xs hI2
    rw [HN1.out] at hv1 hv2 ⊢
    have HL2 := Lib.hid (HL1.out.trans (hl2.mono HL1.out.size))
    obtain ⟨SS, hSS⟩ : ∃ SS, strOfNums xs = SS := ⟨_, rfl⟩
    rw [hSS] at hv1 hv2
    have t1 : (SS.toList == SS.toList) = true := by simp
    clear h2 hI1 hI2 hX2 hl2 hSS HB2 HI1 HX1
    go_wp2_with fail
    refine (HAW.out _).mono ?_
    rintro e w3 ⟨rfl, hb3⟩
    have HB3 := Lib.hid hb3
    clear hb3
    go_wp2
    go_ret
    exact ⟨rfl, HL2.out.trans (HB3.out.mono HL2.out.size)⟩
end Go.Proofs.Ytndjebddgnmpfaa
