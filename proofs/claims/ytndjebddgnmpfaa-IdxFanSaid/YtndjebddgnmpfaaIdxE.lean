/- idx.Parse walked. -/
import Derived.Test.YtndjebddgnmpfaaIdxD
import Derived.Test.YtndjebddgnmpfaaSumMathC
namespace Go.Proofs.Ytndjebddgnmpfaa
open Go.RowKit
set_option linter.unusedVariables false
set_option linter.unusedSimpArgs false

/-- What Parse tells. -/
def ParsePost (b : List Int) (w : World) (e : Ending) (w' : World) : Prop :=
  ∃ v : Value, e = .returned (.tuple #[v, .string (if errV b = 0 then strOfNums (packV b) else ⟨#[]⟩), .int .i64 (errV b)]) ∧ (errV b = 0 → ∃ A cc, v = .slice A (cntN b) cc ∧ ObsAt w' A (entsL b)) ∧ (errV b ≠ 0 → v = .slice none 0 0) ∧ Below w.heap.size w w'
theorem ParsePost.no {b : List Int} {w w' : World} {x : Int} (h : errV b = x) (hx : x ≠ 0) (hb : Below w.heap.size w w') : ParsePost b w (.returned (.tuple #[.slice none 0 0, .string ⟨#[]⟩, .int .i64 x])) w' :=
  ⟨_, by rw [h, if_neg hx], (fun h' => absurd (h.symm.trans h') hx), (fun _ => rfl), hb⟩
/-- What holds while a sum is made beside what only reads. -/
def ISum (w1 : World) (xs : List Int) : List Value → World → Prop
  | [], w => Below w1.heap.size w1 w
  | v :: _, w => Below w1.heap.size w1 w ∧ ∃ A c, v = .slice A xs.length c ∧ Ints .u8 w A xs
theorem ISum.low {w1 w : World} {xs : List Int} : ∀ {vs : List Value}, ISum w1 xs vs w → Below w1.heap.size w1 w
  | [], h => h
  | _ :: _, h => h.1
theorem sha_bytes (k : H5) (hk : k.ok) (n : Nat) : Bytes (shaTo k n) := by
  induction n with
  | zero => intro x hx; cases hx
  | succ n ih =>
    intro x hx
    rcases List.mem_append.1 hx with hx | hx
    · exact ih x hx
    · exact be4_ok _ (H5.nth_ok k hk n).1 (H5.nth_ok k hk n).2 x hx
theorem shaAll_bytes (xs : List Int) : Bytes (shaAll xs) := by rw [shaAll_eq]; exact sha_bytes _ (fb_ok _ _ _ h0_ok) 5
theorem shaAll_len (xs : List Int) : (shaAll xs).length = 20 := by rw [shaAll_eq, shaTo_len]
set_option maxRecDepth 100000 in
set_option maxHeartbeats 4000000 in
theorem iParse_any (blk off N c : Nat) (b : List Int) (w : World) (hI : Ints .u8 w (some ⟨blk, off, none⟩) b) (hN : b.length = N) (hb : Bytes b) (hl : 1072 ≤ N) (hc : N ≤ c) (hcm : c ≤ 9223372036854775807) (hsz : N ≤ 140737488351300) :
    Calls Try.prog 14 #[.slice (some ⟨blk, off, none⟩) N c] w (ParsePost b w) := by
  have HP := Lib.hid (parse_any blk off N c b w hI hN hb hl hc hcm (by omega))
  have HI := Lib.hid hI
  have HN := Lib.hid hN
  have HB := Lib.hid hb
  have d1 : decide ((N : Int) < 1072) = false := decide_eq_false (by omega)
  have d1' : decide (N < 1072) = false := decide_eq_false (by omega)
  clear hI hN hb
  go_enter Try.func14, Try.ntmps14
  go_wp2_with fail
  refine HP.out.mono ?_
  rintro e w1 ⟨v, rfl, hv, hb1⟩
  have HV := Lib.hid hv
  have HB1 := Lib.hid hb1
  clear hv hb1 HP
  cases ha : accB b
  · have HE : Hid (errV b = 3) := by
      show _ = _
      unfold errV
      rw [if_neg (by rw [HN.out]; omega), if_pos ha]
    clear ha
    go_wp2
    go_ret3
    exact ParsePost.no HE.out (by decide) HB1.out
  · have s1 : IntKind.i64.wrap ((N : Int) - 20) = ((N - 20 : Nat) : Int) := by rw [IntWalk.i64_in _ (by omega)]; omega
    have s2 : IntKind.i64.wrap ((N : Int) - 40) = ((N - 40 : Nat) : Int) := by rw [IntWalk.i64_in _ (by omega)]; omega
    obtain ⟨m, hm⟩ : ∃ m, N - 20 = m := ⟨_, rfl⟩
    obtain ⟨k, hk⟩ : ∃ k, N - 40 = k := ⟨_, rfl⟩
    rw [hm] at s1
    rw [hk] at s2
    have hmN : m ≤ N := by omega
    have cm : ¬ c = m := by omega
    have ck : ¬ c = k := by omega
    have hmk : m - k = 20 := by omega
    have hnm : N - m = 20 := by omega
    have hkm : (k : Int) ≤ m := by omega
    have hmc : m ≤ c := by omega
    have HI1 := Lib.hid (HI.out.below HB1.out)
    have HX : Hid (∀ W, Below w1.heap.size w1 W → Ints .u8 W (some ⟨blk, off, none⟩) b) := fun W hW => HI1.out.below hW
    have HTM : Hid ((b.take m).length = m) := by show _ = _; rw [List.length_take, HN.out]; omega
    have HDM : Hid ((b.drop m).length = N - m) := by show _ = _; rw [List.length_drop, HN.out]
    have hsum : ((strOfNums (shaAll (b.take m))).toList == (strOfNums (b.drop m)).toList) = sumB b := by
      rw [str_eq _ _ (shaAll_bytes _) (HB.out.drop m)]
      unfold sumB
      rw [HN.out, hm]
    have HSUM := Lib.hid hsum
    have HK := Lib.hid hk
    clear hm hk hsum
    go_upto_region 6 with (fail)
    go_cut [29] (fun v wx => v = .bool (!sumB b) ∧ Below w1.heap.size w1 wx)
    case first => as_aux_lemma =>
      clear hkm hmk ck s2
      go_wp2
      refine wp_region_ph (by kernel_rfl) [5] [.span 0 0, .span 0 0, .span 0 0, .span 0 0, .span 0 0, .phase 0, .span 1 1, .span 0 1, .span 0 1, .span 0 1, .span 0 1, .span 0 1, .span 0 1, .span 1 1] [fun z9 => z9 = .slice (some ⟨blk, off, none⟩) N c, fun z9 => z9 = .slice (some ⟨blk, off, none⟩) N c, fun z9 => z9 = .int .i64 (N : Int), fun z9 => z9 = .int .i64 (m : Int), fun z9 => z9 = .slice (some ⟨blk, off, none⟩) m c, fun _ => True, fun z9 => z9 = .string (strOfNums (shaAll (b.take m))), fun z9 => z9 = .slice (some ⟨blk, off, none⟩) N c, fun z9 => z9 = .slice (some ⟨blk, off, none⟩) N c, fun z9 => z9 = .int .i64 (N : Int), fun z9 => z9 = .int .i64 (m : Int), fun z9 => z9 = .slice (some ⟨blk, off + m, none⟩) 20 (c - m), fun z9 => z9 = .string (strOfNums (b.drop m)), fun z9 => z9 = .bool (!sumB b)] (ISum w1 (shaAll (b.take m))) (by kernel_rfl) (by kernel_rfl) (by kernel_rfl) (by kernel_rfl) (by kernel_rfl) (by kernel_rfl) rfl rfl ((Below.refl _ _).drew) ?steps ?done
      case steps =>
        refine ⟨?_, ?_, ?_, ?_, ?_, ?_, ?_, ?_, ?_, ?_, ?_, ?_, ?_, ?_, trivial⟩
        · intro us au w1 k0 hlo hhi ha hd hst hI
          obtain rfl : k0 = 0 := by omega
          have q0 := slot_far (t := 0) (v := .slice (some ⟨blk, off, none⟩) N c) ha (by kernel_rfl) (by kernel_rfl)
          have p0 := slot_norm q0
          clear ha hd hst
          exact StepI.pure (v := .slice (some ⟨blk, off, none⟩) N c) rfl rfl (by go_simp) ⟨rfl, hI⟩
        · intro us au w1 k1 hlo hhi ha hd hst hI
          obtain rfl : k1 = 0 := by omega
          have q0 := slot_far (t := 0) (v := .slice (some ⟨blk, off, none⟩) N c) ha (by kernel_rfl) (by kernel_rfl)
          have p0 := slot_norm q0
          clear ha hd hst
          exact StepI.pure (v := .slice (some ⟨blk, off, none⟩) N c) rfl rfl (by go_simp) ⟨rfl, hI⟩
        · intro us au w1 k2 hlo hhi ha hd hst hI
          obtain rfl : k2 = 0 := by omega
          have e1 := hd 1 _ (by kernel_rfl) rfl
          have q17 := slot_at (t := 17) 1 ha (by kernel_rfl) (by kernel_rfl) (by kernel_rfl) e1
          have p17 := slot_norm q17
          clear ha hd hst
          exact StepI.pure (v := .int .i64 (N : Int)) rfl rfl (by go_simp) ⟨rfl, hI⟩
        · intro us au w1 k3 hlo hhi ha hd hst hI
          obtain rfl : k3 = 0 := by omega
          have e2 := hd 2 _ (by kernel_rfl) rfl
          have q18 := slot_at (t := 18) 2 ha (by kernel_rfl) (by kernel_rfl) (by kernel_rfl) e2
          have p18 := slot_norm q18
          clear ha hd hst
          exact StepI.pure (v := .int .i64 (m : Int)) rfl rfl (by go_simp) ⟨rfl, hI⟩
        · intro us au w1 k4 hlo hhi ha hd hst hI
          obtain rfl : k4 = 0 := by omega
          have e0 := hd 0 _ (by kernel_rfl) rfl
          have e3 := hd 3 _ (by kernel_rfl) rfl
          have q16 := slot_at (t := 16) 0 ha (by kernel_rfl) (by kernel_rfl) (by kernel_rfl) e0
          have p16 := slot_norm q16
          have q19 := slot_at (t := 19) 3 ha (by kernel_rfl) (by kernel_rfl) (by kernel_rfl) e3
          have p19 := slot_norm q19
          clear ha hd hst
          exact StepI.pure (v := .slice (some ⟨blk, off, none⟩) m c) rfl rfl (by go_simp) ⟨rfl, hI⟩
        · intro us au w1 ha hd hst hI
          have e4 := hd 4 _ (by kernel_rfl) rfl
          have q20 := slot_at (t := 20) 4 ha (by kernel_rfl) (by kernel_rfl) (by kernel_rfl) e4
          have p20 := slot_norm q20
          clear ha hd hst
          refine StepI.call (f := 29) (args := #[.slice (some ⟨blk, off, none⟩) m c]) rfl rfl (by go_simp) ?_
          refine (sha1_any _ m c (b.take m) w1 ((HX.out w1 hI).take m) HTM.out (HB.out.take m) (by omega)).mono ?_
          rintro e w' ⟨A2, c2, rfl, ho2, hbl⟩
          exact ⟨_, rfl, trivial, Below.trans hI (hbl.mono (Below.size hI)), A2, c2, rfl, OwnS.ints ho2⟩
        · intro us au w1 k6 hlo hhi ha hd hst hI
          obtain rfl : k6 = 1 := by omega
          obtain ⟨_⟩ := hd 5 _ (by kernel_rfl) rfl
          have q21 := slot_at (t := 21) 5 ha (by kernel_rfl) (by kernel_rfl) (by kernel_rfl) (Eq.refl (us 5))
          have p21 := slot_norm q21
          clear ha hd hst
          obtain ⟨hb9, A5, c5, hv5, h5⟩ := hI
          have hcv := run_str_ints (P := Try.prog) (w := w1) 24 9 5 Try.underlying24 Try.underlying5 Try.underlying9 A5 c5 (shaAll (b.take m)) h5
          have p21v := p21
          rw [hv5] at p21
          exact StepI.pure (v := .string (strOfNums (shaAll (b.take m)))) rfl rfl (by go_simp) ⟨rfl, hb9, A5, c5, hv5, h5⟩
        · intro us au w1 k7 hlo hhi ha hd hst hI
          have q0 := slot_far (t := 0) (v := .slice (some ⟨blk, off, none⟩) N c) ha (by kernel_rfl) (by kernel_rfl)
          have p0 := slot_norm q0
          clear ha hd hst
          exact StepI.pure (v := .slice (some ⟨blk, off, none⟩) N c) rfl rfl (by go_simp) ⟨rfl, hI⟩
        · intro us au w1 k8 hlo hhi ha hd hst hI
          have q0 := slot_far (t := 0) (v := .slice (some ⟨blk, off, none⟩) N c) ha (by kernel_rfl) (by kernel_rfl)
          have p0 := slot_norm q0
          clear ha hd hst
          exact StepI.pure (v := .slice (some ⟨blk, off, none⟩) N c) rfl rfl (by go_simp) ⟨rfl, hI⟩
        · intro us au w1 k9 hlo hhi ha hd hst hI
          have e8 := hd 8 _ (by kernel_rfl) rfl
          have q24 := slot_at (t := 24) 8 ha (by kernel_rfl) (by kernel_rfl) (by kernel_rfl) e8
          have p24 := slot_norm q24
          clear ha hd hst
          exact StepI.pure (v := .int .i64 (N : Int)) rfl rfl (by go_simp) ⟨rfl, hI⟩
        · intro us au w1 k10 hlo hhi ha hd hst hI
          have e9 := hd 9 _ (by kernel_rfl) rfl
          have q25 := slot_at (t := 25) 9 ha (by kernel_rfl) (by kernel_rfl) (by kernel_rfl) e9
          have p25 := slot_norm q25
          clear ha hd hst
          exact StepI.pure (v := .int .i64 (m : Int)) rfl rfl (by go_simp) ⟨rfl, hI⟩
        · intro us au w1 k11 hlo hhi ha hd hst hI
          have e7 := hd 7 _ (by kernel_rfl) rfl
          have e10 := hd 10 _ (by kernel_rfl) rfl
          have q23 := slot_at (t := 23) 7 ha (by kernel_rfl) (by kernel_rfl) (by kernel_rfl) e7
          have p23 := slot_norm q23
          have q26 := slot_at (t := 26) 10 ha (by kernel_rfl) (by kernel_rfl) (by kernel_rfl) e10
          have p26 := slot_norm q26
          clear ha hd hst
          exact StepI.pure (v := .slice (some ⟨blk, off + m, none⟩) 20 (c - m)) rfl rfl (by go_simp) ⟨rfl, hI⟩
        · intro us au w1 k12 hlo hhi ha hd hst hI
          have e11 := hd 11 _ (by kernel_rfl) rfl
          have q27 := slot_at (t := 27) 11 ha (by kernel_rfl) (by kernel_rfl) (by kernel_rfl) e11
          have p27 := slot_norm q27
          clear ha hd hst
          have hcv := run_str_ints (P := Try.prog) (w := w1) 24 9 5 Try.underlying24 Try.underlying5 Try.underlying9 (some ⟨blk, off + m, none⟩) (c - m) (b.drop m) ((HX.out w1 hI.low).drop m)
          rw [HDM.out, hnm] at hcv
          exact StepI.pure (v := .string (strOfNums (b.drop m))) rfl rfl (by go_simp) ⟨rfl, hI⟩
        · intro us au w1 k13 hlo hhi ha hd hst hI
          obtain rfl : k13 = 1 := by omega
          have e6 := hd 6 _ (by kernel_rfl) rfl
          have e12 := hd 12 _ (by kernel_rfl) rfl
          have q22 := slot_at (t := 22) 6 ha (by kernel_rfl) (by kernel_rfl) (by kernel_rfl) e6
          have p22 := slot_norm q22
          have q28 := slot_at (t := 28) 12 ha (by kernel_rfl) (by kernel_rfl) (by kernel_rfl) e12
          have p28 := slot_norm q28
          clear ha hd hst
          have hq := HSUM.out
          exact StepI.pure (v := .bool (!sumB b)) rfl rfl (by go_simp) ⟨rfl, hI⟩
      case done =>
        intro us w1 hI hd
        have hlow := hI.low
        have HLOW := Lib.hid hlow
        clear hlow hI
        have e13 := hd 13 _ (by decide) rfl
        have E13 := Lib.hid e13
        clear e13
        clear hd HX
        simp only [putAll]
        go_simp
        go_wp2
        go_meet
        exact ⟨E13.out, HLOW.out⟩
    case rest =>
      obtain ⟨rfl, hB2⟩ := hcut
      clear HX HDM HTM HSUM HI1
      generalize wc = w2 at *
      have HB12 := Lib.hid hB2
      have HB2 := Lib.hid (HB1.out.trans (hB2.mono HB1.out.size))
      clear hB2
      cases hs : sumB b
      · have HE : Hid (errV b = 6) := by
          show _ = _
          unfold errV
          rw [if_neg (by rw [HN.out]; omega), if_neg (by rw [ha]; decide), if_pos hs]
        clear hs ha
        go_wp2
        go_ret3
        exact ParsePost.no HE.out (by decide) HB2.out
      · have HE : Hid (errV b = 0) := by
          show _ = _
          unfold errV
          rw [if_neg (by rw [HN.out]; omega), if_neg (by rw [ha]; decide), if_neg (by rw [hs]; decide)]
        have hpk : (b.drop k).take 20 = (b.drop (b.length - 40)).take 20 := by rw [HN.out, HK.out]
        have hlk : ((b.drop k).take 20).length = 20 := by rw [List.length_take, List.length_drop, HN.out]; have := HK.out; omega
        have HX2 := Lib.hid (hex_any (some ⟨blk, off + k, none⟩) 20 (c - k) ((b.drop k).take 20) w2 (((HI.out.below HB2.out).drop k).take 20) hlk ((HB.out.drop k).take 20) (by decide))
        have HPK : Hid (strOfNums (hexL ((b.drop k).take 20)) = strOfNums (packV b)) := by show _ = _; rw [hpk]; rfl
        have HVV := Lib.hid (HV.out ha)
        clear hs ha hpk hlk HV
        go_wp2_with fail
        refine HX2.out.mono ?_
        rintro e w3 ⟨rfl, hb3⟩
        rw [HPK.out]
        obtain ⟨A, cc, hv, hobs⟩ := HVV.out
        have HBW := Lib.hid (HB2.out.trans (hb3.mono HB2.out.size))
        have HOB := Lib.hid ((hobs.below HB12.out).below hb3)
        subst hv
        clear hobs hb3 HX2
        go_wp2
        go_ret3
        exact ⟨.slice A (cntN b) cc, by rw [HE.out, if_pos rfl]; rfl, (fun _ => ⟨A, cc, rfl, HOB.out⟩), (fun h => absurd HE.out h), HBW.out⟩
end Go.Proofs.Ytndjebddgnmpfaa
