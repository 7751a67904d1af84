/- awake of layer 12, and IdxParses walked. -/
import Derived.Test.YtndjebddgnmpfaaIdxNO
import Derived.Test.YtndjebddgnmpfaaIdxF
import Derived.Test.YtndjebddgnmpfaaIdxG
namespace Go.Proofs.Ytndjebddgnmpfaa
open Go.RowKit
set_option linter.unusedVariables false
set_option linter.unusedSimpArgs false

theorem bytesOf_zero : bytesOf zeroS = List.replicate 40 48 := by kernel_rfl
theorem zero_hash : hashB (bytesOf zeroS) = true := by rw [bytesOf_zero]; decide
theorem zero_un : (unV (bytesOf zeroS)).length = 20 := by rw [bytesOf_zero]; decide
/-- The index of nothing. -/
def b0 : List Int := buildL [] (unV (bytesOf zeroS))
theorem reads0 : Reads [] (unV (bytesOf zeroS)) b0 := reads_build ⟨Nat.zero_le _, fun x h => by cases h⟩ zero_un (unV_ok _)
theorem len0 : b0.length = 1072 := reads0.len
theorem ok0 : errV b0 = 0 ∧ cntN b0 = 0 ∧ entsL b0 = [] := reads0.whole (fun i h => by simp at h) (Nat.zero_le _) List.Pairwise.nil
set_option maxRecDepth 100000 in
set_option maxHeartbeats 4000000 in
theorem awake12_any (w : World) : Calls Try.prog 12 #[] w fun e w' => e = .returned (.bool true) ∧ Below w.heap.size w w' := by
  have hbo : BuildOk [] zeroS := ⟨Nat.zero_le _, zero_hash, fun i h => by simp [Srt.isort_nil] at h⟩
  have HZ : Hid (∀ w, Calls Try.prog 32 #[] w fun e w' => e = .returned (.string zeroS) ∧ w = w') := Lib.hid zero_any
  have HBU : Hid (∀ w, Calls Try.prog 9 #[.slice none 0 0, .string zeroS] w (BuildPost [] zeroS w)) := Lib.hid (fun w => iBuild_any none 0 0 [] zeroS w (fun h => absurd h (by simp)) rfl (fun _ => rfl) (by decide) (fun x h => by cases h) (fun x h => by cases h) (by decide))
  have HBO := Lib.hid hbo
  have HE0 : Hid (buildL (Srt.isort ltE ([] : List El)) (unV (bytesOf zeroS)) = b0) := Lib.hid rfl
  have HB0 := Lib.hid reads0.ok
  have HL0 := Lib.hid len0
  have HOK := Lib.hid ok0
  clear hbo
  generalize zeroS = Z at *
  go_enter Try.func12, Try.ntmps12
  go_wp2_with fail
  refine (HZ.out w).mono ?_
  rintro e w1 ⟨rfl, rfl⟩
  go_wp2_with fail
  refine (HBU.out w).mono ?_
  rintro e w2 ⟨hb2, _, hy⟩
  obtain ⟨A, rfl, hI⟩ := hy HBO.out
  rw [HE0.out] at hI
  rw [HE0.out, HL0.out]
  obtain ⟨bk, o, rfl, _, _⟩ := hI (by rw [HL0.out]; decide)
  have HI := Lib.hid hI
  have HB2 := Lib.hid hb2
  clear hI hb2 hy HBU
  go_wp2_with fail
  refine (HZ.out w2).mono ?_
  rintro e w3 ⟨rfl, rfl⟩
  have HF := Lib.hid (iFind_any bk o 1072 1072 b0 Z w2 HI.out HL0.out HB0.out (by decide) (by decide) (by decide) (by decide))
  have HP := Lib.hid (fun w3 (h : Below w2.heap.size w2 w3) => iParse_any bk o 1072 1072 b0 w3 (HI.out.below h) HL0.out HB0.out (by decide) (by decide) (by decide) (by decide))
  go_wp2_with fail
  refine HF.out.mono ?_
  rintro e w4 ⟨at_, ok, rfl, hb4, h1, h2⟩
  have hok : ok = false := by
    cases ok
    · rfl
    · obtain ⟨_, x, hx, _⟩ := h1 rfl
      rw [HOK.out.2.2] at hx
      cases hx
  subst hok
  have HB4 := Lib.hid hb4
  clear h1 h2 hb4 HF
  go_wp2_with fail
  refine (HP.out w4 HB4.out).mono ?_
  rintro e w5 ⟨v, rfl, _, _, hb5⟩
  rw [HOK.out.1]
  have HB5 := Lib.hid hb5
  clear hb5 HP
  go_wp2
  go_ret
  exact ⟨rfl, HB2.out.trans ((HB4.out.trans (HB5.out.mono HB4.out.size)).mono HB2.out.size)⟩
set_option maxRecDepth 100000 in
theorem iParse_short (A : Option Addr) (N c : Nat) (b : List Int) (w : World) (hN : b.length = N) (hl : N < 1072) :
    Calls Try.prog 14 #[.slice A N c] w (ParsePost b w) := by
  have HE : Hid (errV b = 4) := Lib.hid (by unfold errV; rw [if_pos (by omega)])
  have d1 : decide ((N : Int) < 1072) = true := decide_eq_true (by omega)
  have d1' : decide (N < 1072) = true := decide_eq_true (by omega)
  clear hN
  go_enter Try.func14, Try.ntmps14
  go_wp2
  go_ret3
  exact ParsePost.no HE.out (by decide) (Below.refl _ _)
set_option maxRecDepth 100000 in
theorem rParse_short (A : Option Addr) (N c : Nat) (b : List Int) (w : World) (hN : b.length = N) (hl : N < 1072) :
    Calls Try.prog 15 #[.slice A N c] w (GotPost b w) := by
  have HE : Hid (errV b = 4) := Lib.hid (by unfold errV; rw [if_pos (by omega)])
  have hC := got_new w
  have hB0 : Below w.heap.size w (w.alloc (.cells #[.slice none 0 0, .string ⟨#[]⟩, .int .i64 0] 45)) := (Below.refl _ _).alloc (Nat.le_refl _) _
  have HB0 := Lib.hid hB0
  have d1 : decide ((N : Int) < 1072) = true := decide_eq_true (by omega)
  have d1' : decide (N < 1072) = true := decide_eq_true (by omega)
  clear hN hB0
  go_enter Try.func15, Try.ntmps15
  go_wp2_with (refine wpList_store_part (vs := gotA (.slice none 0 0) ⟨#[]⟩ 4) (off := 0) rfl (.tmp 2) (.tmp 24) rfl rfl rfl hC (info_got _ _ _) (Nat.le_refl 3) (gotA_one _ _ _ _ _) ?_; intro w9 hC9 hg9 hs9; have hC7 := got_stored hC9)
  exact bodyPost_ret (v := .agg (gotA (.slice none 0 0) ⟨#[]⟩ 4)) (results_cel rfl _ rfl hC7 Try.underlying45 rfl (info_got _ _ _) (Nat.le_refl 3) (fun j hj => gotA_at _ _ _ j hj)) rfl (GotPost.no HE.out (by decide) (HB0.out.grown hg9 HB0.out.size (fun k h => by injection h with h; rw [← h]; exact Nat.le_refl _)))
theorem ObsAt.nil {w : World} {A : Option Addr} : ObsAt w A [] := fun h => absurd h (by simp)
set_option maxRecDepth 100000 in
set_option maxHeartbeats 4000000 in
theorem idxParses_walk (A : Option Addr) (c : Nat) (b : List Int) (w : World) (hI : Ints .u8 w A b) (hb : Bytes b) (hc : b.length ≤ c) (hcm : c ≤ 9223372036854775807) :
    Calls Try.prog 5 #[.slice A b.length c] w fun e w' => e = .returned (.bool true) ∧ Below w.heap.size w w' := by
  obtain ⟨N, hN⟩ : ∃ N, b.length = N := ⟨_, rfl⟩
  rw [hN] at hc ⊢
  by_cases hbig : 10000 < N
  · have d1 : decide ((10000 : Int) < (N : Int)) = true := decide_eq_true (by omega)
    have d1' : decide (10000 < N) = true := decide_eq_true hbig
    have HAW := Lib.hid (awake12_any w)
    clear hI hb hN
    go_enter Try.func5, Try.ntmps5
    go_wp2_with fail
    refine HAW.out.mono ?_
    rintro e w1 ⟨rfl, hb1⟩
    go_wp2
    go_ret
    exact ⟨rfl, hb1⟩
  · have d1 : decide ((10000 : Int) < (N : Int)) = false := decide_eq_false (by omega)
    have d1' : decide (10000 < N) = false := decide_eq_false hbig
    have hp : (∀ w', Below w.heap.size w w' → Calls Try.prog 14 #[.slice A N c] w' (ParsePost b w')) ∧ (∀ w', Below w.heap.size w w' → Calls Try.prog 15 #[.slice A N c] w' (GotPost b w')) := by
      by_cases hs : N < 1072
      · exact ⟨fun w' _ => iParse_short A N c b w' hN hs, fun w' _ => rParse_short A N c b w' hN hs⟩
      · obtain ⟨bk, o, rfl, _, _⟩ := hI (by omega)
        exact ⟨fun w' h => iParse_any bk o N c b w' (hI.below h) hN hb (by omega) hc hcm (by omega), fun w' h => rParse_any bk o N c b w' (hI.below h) hN hb (by omega) hc hcm (by omega)⟩
    obtain ⟨HP1, HP2⟩ := hp
    have HP1 := Lib.hid HP1
    have HP2 := Lib.hid HP2
    clear hI hb hN
    go_enter Try.func5, Try.ntmps5
    go_wp2_with fail
    refine (HP1.out w (Below.refl _ _)).mono ?_
    rintro e w1 ⟨v, rfl, hv1, hv2, hb1⟩
    obtain ⟨PK, hPK⟩ : ∃ PK, (if errV b = 0 then strOfNums (packV b) else (⟨#[]⟩ : ByteArray)) = PK := ⟨_, rfl⟩
    obtain ⟨ev, hev⟩ : ∃ ev, errV b = ev := ⟨_, rfl⟩
    have HPK := Lib.hid hPK
    have HEV := Lib.hid hev
    rw [hPK, hev]
    have HB1 := Lib.hid hb1
    have HV1 := Lib.hid hv1
    have HV2 := Lib.hid hv2
    clear hb1 hPK hev hv1 hv2
    go_wp2_with fail
    refine (HP2.out w1 HB1.out).mono ?_
    rintro e w2 ⟨A2, n2, c2, rfl, hg1, hg2, hb2⟩
    have hv1 := HV1.out
    have hv2 := HV2.out
    clear HV1 HV2
    obtain ⟨Av, cv, L, n3, hvv, hn3, hL, hO1, hO2⟩ : ∃ (Av : Option Addr) (cv : Nat) (L : List Ent) (n3 : Nat), v = .slice Av n3 cv ∧ n2 = n3 ∧ (L.length = n3 ∧ n3 ≤ 4096) ∧ ObsAt w1 Av L ∧ ObsAt w2 A2 L := by
      by_cases hz : errV b = 0
      · obtain ⟨Av, cv, rfl, hO⟩ := hv1 hz
        obtain ⟨rfl, hO2⟩ := hg1 hz
        have hacc : cntN b ≤ 4096 := by
          by_cases hs : b.length < 1072
          · unfold errV at hz
            rw [if_pos hs] at hz
            cases hz
          · exact cntN_le (by omega) hz
        exact ⟨Av, cv, entsL b, cntN b, rfl, rfl, ⟨by simp [entsL], hacc⟩, hO, hO2⟩
      · obtain rfl := hv2 hz
        obtain ⟨rfl, rfl, rfl⟩ := hg2 hz
        exact ⟨none, 0, [], 0, rfl, rfl, ⟨rfl, Nat.zero_le _⟩, ObsAt.nil, ObsAt.nil⟩
    subst hvv
    subst hn3
    rw [HPK.out, HEV.out]
    rw [show gotA (.slice A2 n2 c2) PK ev = #[.slice A2 n2 c2, .string PK, .int .i64 ev] from rfl]
    have HB2 := Lib.hid hb2
    have hl3 : Below w2.heap.size w2 (w2.alloc (.cells #[.slice A2 n2 c2, .string PK, .int .i64 ev] 45)) := (Below.refl _ _).alloc (Nat.le_refl _) _
    have hO1' := (hO1.below hb2).below hl3
    have hO2' := hO2.below hl3
    have HPL := Lib.hid (places_any Av A2 n2 cv c2 L _ hO1' hO2' hL.1 hL.2)
    have HL3 := Lib.hid hl3
    have t1 : (PK.toList == PK.toList) = true := by simp
    clear hv1 hv2 hg1 hg2 hb2 hl3 hO1 hO2 hO1' hO2' HP1 HP2 HPK HEV hL
    go_wp2_with fail
    refine HPL.out.mono ?_
    rintro e w3 ⟨rfl, m, rfl⟩
    have hC : Cel (w2.alloc (.cells #[.slice A2 n2 c2, .string PK, .int .i64 ev] 45)) w2.heap.size 45 3 (gotF (.slice A2 n2 c2) PK ev) := Cel.new w2 _ (gotA (.slice A2 n2 c2) PK ev) _ (fun j hj => gotA_at _ _ _ j hj)
    have hC2 := hC.drewN m
    have HB3 : Hid (Below w.heap.size w ((w2.alloc (.cells #[.slice A2 n2 c2, .string PK, .int .i64 ev] 45)).drewN m)) := Lib.hid (Below.drewN (HB1.out.trans ((HB2.out.trans (HL3.out.mono HB2.out.size)).mono HB1.out.size)) m)
    generalize (w2.alloc (.cells #[.slice A2 n2 c2, .string PK, .int .i64 ev] 45)).drewN m = w3 at *
    generalize w2.heap.size = g2 at *
    have c1 : w3.cell? ⟨g2, 1, none⟩ = some (.string PK) := hC2.cell 1 (by decide)
    have c2' : w3.cell? ⟨g2, 2, none⟩ = some (.int .i64 ev) := hC2.cell 2 (by decide)
    have HAW := Lib.hid (fun w => awake12_any w)
    clear hC hC2 HPL HL3 HB1 HB2
    go_wp2_with fail
    refine (HAW.out _).mono ?_
    rintro e w4 ⟨rfl, hb4⟩
    have HB4 := Lib.hid hb4
    clear hb4
    go_wp2
    go_ret
    exact ⟨rfl, HB3.out.trans (HB4.out.mono HB3.out.size)⟩
end Go.Proofs.Ytndjebddgnmpfaa
