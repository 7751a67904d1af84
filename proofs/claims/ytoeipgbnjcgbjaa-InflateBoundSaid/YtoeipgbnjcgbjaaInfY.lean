/- The walk of the law InflateBound. -/
import Derived.Test.YtoeipgbnjcgbjaaInfX
import Derived.Test.YtoeipgbnjcgbjaaInfQ
namespace Go.Proofs.Ytoeipgbnjcgbjaa
open Go.RowKit
set_option linter.unusedVariables false

theorem inf_pos {F most n : Nat} {bs out : List Int} (h : infM F bs most = (0, n, out)) (hF : 0 < F) : 0 < n := by
  obtain ⟨f, rfl⟩ : ∃ f, F = f + 1 := ⟨F - 1, by omega⟩
  unfold infM at h
  by_cases a : (rawM (f + 1) bs most (f + 1) 0 []).1 ≠ 0
  · rw [if_pos a] at h
    injection h with h1 _
    exact absurd h1 a
  · rw [if_neg a] at h
    injection h with _ h1
    injection h1 with h1 _
    obtain ⟨b1, _, b2, b3⟩ := rawM_ok (by omega : (rawM (f + 1) bs most (f + 1) 0 []).1 = 0)
    have hu := block_up (f + 1) _ (0 + 3) ([] : List Int) (by omega) b2
    have hp : 3 ≤ (rawM (f + 1) bs most (f + 1) 0 []).2.1 := by
      have h0 : (rawM (f + 1) bs most (f + 1) 0 []).1 = 0 := by omega
      rw [b3] at h0 ⊢
      split at h0
      · rename_i c; rw [if_pos c]; omega
      · rename_i c; rw [if_neg c]; exact Nat.le_trans hu.1 (rawM_up bs most (f + 1) f _ _ h0).1
    omega
theorem Agree.self {bs : List Int} {n : Nat} (h : n ≤ bs.length) : Agree bs bs n := ⟨fun _ _ => rfl, h, h⟩
theorem Agree.more {bs : List Int} {n : Nat} (h : n ≤ bs.length) (l : List Int) : Agree bs (bs.take n ++ l) n := by
  have hl : (bs.take n).length = n := by rw [List.length_take]; omega
  refine ⟨fun j hj => ?_, h, by rw [List.length_append]; omega⟩
  rw [List.getD_eq_getElem?_getD, List.getD_eq_getElem?_getD, List.getElem?_append_left (by omega), List.getElem?_take, if_pos hj]
theorem Ints.takeI {w : World} {A : Option Addr} {bs : List Int} (h : Ints .u8 w A bs) {n : Nat} (hn : n ≤ bs.length) : Ints .u8 w A (bs.take n) := fun h0 => by
  have hl : (bs.take n).length = n := by rw [List.length_take]; omega
  rw [hl] at h0
  obtain ⟨b, o, rfl, hb, hc⟩ := h (by omega)
  refine ⟨b, o, rfl, hb, fun j hj => ?_⟩
  rw [hl] at hj
  rw [hc j (by omega), List.getD_eq_getElem?_getD, List.getD_eq_getElem?_getD, List.getElem?_take, if_pos hj]
theorem Bytes.takeI {bs : List Int} (h : Bytes bs) (n : Nat) : Bytes (bs.take n) := fun x hx => h x (List.mem_of_mem_take hx)
theorem OwnS.none_new6 {w : World} {base : Nat} {e : TypeId} (hb : base ≤ w.heap.size) : OwnS (w.alloc (.cells #[] e)) base e 1 (.slice (some ⟨w.heap.size, 0, none⟩) 0 0) 0 [] := by
  exact ⟨rfl, .inr ⟨w.heap.size, 0, 0, #[], rfl, hb, ⟨(0, 0), heap_alloc_new w _, .inl (Nat.le_refl _)⟩, Nat.le_refl _, Nat.zero_le _, Nat.le_refl _, rfl⟩⟩
theorem and16 (m : Int) (h : -9223372036854775808 ≤ m ∧ m < 9223372036854775808) : bits .and .i64 m 65535 = m % 65536 := by
  have h1 : (BitVec.ofInt 64 65535).toNat = 2 ^ 16 - 1 := by decide
  have key : (BitVec.ofInt 64 m &&& BitVec.ofInt 64 65535).toNat = (m % ((2 ^ 64 : Nat) : Int)).toNat % 2 ^ 16 := by
    rw [BitVec.toNat_and, BitVec.toNat_ofInt, h1, Nat.and_two_pow_sub_one_eq_mod]
  show IntKind.i64.wrap ((BitVec.ofInt 64 m &&& BitVec.ofInt 64 65535).toNat : Nat) = m % 65536
  rw [key, IntKind.wrap_i64]
  omega
/-- Raw at a bound that is a number. -/
theorem iRawN (A : Option Addr) (c F n : Nat) (bs : List Int) (most : Nat) (w : World) (hI : Ints .u8 w A bs) (hb : Bytes bs) (hl : bs.length = n) (hsz : n ≤ 6000) (hmm : most ≤ 65535) (hF : F = 70000) :
    Calls Try.prog 43 #[.slice A n c, .int .i64 most] w (RawPost bs most (infM F bs most) w) := by
  subst hl
  exact iRaw_any A c F bs most most w hI hb (by omega) (by omega) (by omega) (by omega) (by omega)
set_option maxRecDepth 100000 in
set_option maxHeartbeats 8000000 in
theorem inflateBound_walk (A : Option Addr) (c : Nat) (bs : List Int) (m : Int) (w : World) (hI : Ints .u8 w A bs) (wf : ∀ x ∈ bs, (Lit.int .u8 x).wf = true) (hc : bs.length ≤ c ∧ c ≤ 9223372036854775807) (hm : (Lit.int .i64 m).wf = true) :
    Calls Try.prog 14 #[.slice A bs.length c, .int .i64 m] w fun e w' => e = .returned (.bool true) ∧ Below w.heap.size w w' := by
  have hb : Bytes bs := fun x hx => by
    have := wf x hx
    simp [Lit.wf, IntKind.min, IntKind.max, IntKind.bits, IntKind.signed] at this
    omega
  have hmw : -9223372036854775808 ≤ m ∧ m < 9223372036854775808 := by
    simp [Lit.wf, IntKind.min, IntKind.max, IntKind.bits, IntKind.signed] at hm
    omega
  clear wf hm
  by_cases h5 : 5000 < bs.length
  · have d1 : decide ((5000 : Int) < (bs.length : Int)) = true := decide_eq_true (by omega)
    have HAW := Lib.hid (awake6_any w)
    clear hI hb h5
    go_enter Try.func14, Try.ntmps14
    go_wp2_with fail
    refine HAW.out.mono ?_
    rintro e w1 ⟨rfl, hB1⟩
    have HB1 := Lib.hid hB1
    clear hB1 HAW
    go_wp2
    go_ret
    exact ⟨rfl, HB1.out⟩
  · have d1 : decide ((5000 : Int) < (bs.length : Int)) = false := decide_eq_false (by omega)
    have hand := and16 m hmw
    obtain ⟨most, hmost⟩ : ∃ most : Nat, m % 65536 = (most : Int) := ⟨(m % 65536).toNat, by omega⟩
    rw [hmost] at hand
    have hmm : most ≤ 65535 := by omega
    obtain ⟨F, hF⟩ : ∃ F, F = 70000 := ⟨_, rfl⟩
    have HF := Lib.hid hF
    have hF0 : 0 < F := by omega
    have hlen : bs.length ≤ 5000 := by omega
    have HR := Lib.hid (iRawN A c F bs.length bs most w hI hb rfl (by omega) hmm HF.out)
    have HI := Lib.hid hI
    have HBY := Lib.hid hb
    have t1 : (bs.length : Int) ≤ (c : Int) := by omega
    have hc1 := hc.1
    clear hI hb h5 hmost hmw hF
    obtain ⟨X, hX⟩ : ∃ X, infM F bs most = X := ⟨_, rfl⟩
    rw [hX] at HR
    obtain ⟨ex, n, out⟩ := X
    have HX := Lib.hid hX
    clear hX
    go_enter Try.func14, Try.ntmps14
    go_wp2_with fail
    refine HR.out.mono ?_
    rintro e w1 ⟨hB1, hbad, hgood⟩
    have HB1 := Lib.hid hB1
    simp only at hbad hgood
    clear hB1 HR
    by_cases hx0 : ex = 0
    · subst hx0
      obtain ⟨⟨v1, rfl, ho1⟩, hlo, hln, hbo⟩ := hgood rfl
      obtain ⟨A1, c1, rfl⟩ := ho1.shape
      have HO1 := Lib.hid (OwnS.ints ho1)
      have hn0 := inf_pos HX.out hF0
      clear hbad hgood ho1
      have d2 : decide (most < out.length) = false := decide_eq_false (by omega)
      have d2' : decide ((most : Int) < (out.length : Int)) = false := decide_eq_false (by omega)
      have d3 : decide (bs.length < n) = false := decide_eq_false (by omega)
      have d3' : decide ((bs.length : Int) < (n : Int)) = false := decide_eq_false (by omega)
      have HX2 := Lib.hid (inf_same (most2 := out.length) HX.out (Agree.self hln) (Nat.le_refl _))
      have HR2 := Lib.hid (iRawN A c F bs.length bs out.length w1 (HI.out.below HB1.out) HBY.out rfl (by omega) (by omega) HF.out)
      rw [HX2.out] at HR2
      clear HX2
      go_wp2_with fail
      refine HR2.out.mono ?_
      rintro e w2 ⟨hB2, _, hgood⟩
      obtain ⟨⟨v2, rfl, ho2⟩, _, _, _⟩ := hgood rfl
      obtain ⟨A2, c2, rfl⟩ := ho2.shape
      have HB2 := Lib.hid (HB1.out.trans (hB2.mono HB1.out.size))
      have HO12 := Lib.hid (HO1.out.below hB2)
      have hr2 : (convert 22 9 (.slice A2 out.length c2)).run Try.prog w2 = .ok (.string (strOfNums out)) w2 := run_str_ints 22 9 5 Try.underlying22 Try.underlying5 Try.underlying9 A2 c2 out (OwnS.ints ho2)
      have hr1 : (convert 22 9 (.slice A1 out.length c1)).run Try.prog w2 = .ok (.string (strOfNums out)) w2 := run_str_ints 22 9 5 Try.underlying22 Try.underlying5 Try.underlying9 A1 c1 out HO12.out
      clear hB2 hgood ho2 HR2 HB1 HO1
      generalize hSS : strOfNums out = SS at *
      have HSS := Lib.hid hSS
      clear hSS
      have d4 : decide ((0 : Int) < (n : Int)) = true := decide_eq_true (by omega)
      obtain ⟨n1, hn1⟩ : ∃ n1, n - 1 = n1 := ⟨_, rfl⟩
      have e1 : IntKind.i64.wrap ((n : Int) - 1) = (n1 : Int) := by rw [IntWalk.i64_in _ (by omega)]; omega
      have t2 : (n1 : Int) ≤ (c : Int) := by omega
      have t3 : (n : Int) ≤ (c : Int) := by omega
      have t4 : n1 ≤ bs.length := by omega
      have HN1 := Lib.hid hn1
      clear hn1
      by_cases hz : 0 < out.length
      · have d5 : decide ((0 : Int) < (out.length : Int)) = true := decide_eq_true (by omega)
        have d5' : decide (0 < out.length) = true := decide_eq_true hz
        obtain ⟨l1, hl1⟩ : ∃ l1, out.length - 1 = l1 := ⟨_, rfl⟩
        have e2 : IntKind.i64.wrap ((out.length : Int) - 1) = (l1 : Int) := by rw [IntWalk.i64_in _ (by omega)]; omega
        have HX3 := Lib.hid (inf_big (most2 := l1) HX.out hln (by omega))
        have HR3 := Lib.hid (iRawN A c F bs.length bs l1 w2 (HI.out.below HB2.out) HBY.out rfl (by omega) (by omega) HF.out)
        rw [HX3.out] at HR3
        clear HX3 hl1
        go_wp2_with fail
        refine HR3.out.mono ?_
        rintro e w3 ⟨hB3, hbad, _⟩
        obtain rfl := hbad (by decide)
        have HB3 := Lib.hid (HB2.out.trans (hB3.mono HB2.out.size))
        have HO13 := Lib.hid (HO12.out.below hB3)
        clear hB3 hbad HR3 HB2 HO12 hr1 hr2
        have HX4 := Lib.hid (inf_torn HX.out hln hn0 hlo)
        rw [HN1.out] at HX4
        have HR4 := Lib.hid (iRawN A c F n1 (bs.take n1) most w3 ((HI.out.takeI t4).below HB3.out) (HBY.out.takeI n1) (by rw [List.length_take]; omega) (by omega) hmm HF.out)
        rw [HX4.out] at HR4
        clear HX4
        go_wp2_with fail
        refine HR4.out.mono ?_
        rintro e w4 ⟨hB4, hbad, _⟩
        obtain rfl := hbad (by decide)
        have HB4 := Lib.hid (HB3.out.trans (hB4.mono HB3.out.size))
        have HO14 := Lib.hid (HO13.out.below hB4)
        clear hB4 hbad HR4 HB3 HO13
        obtain ⟨i0, hi, hz0, hz1, hz2⟩ := info_parts Try.info_u8
        have hon : OwnS (w4.alloc (.cells #[] 5)) w4.heap.size 5 1 (.slice (some ⟨w4.heap.size, 0, none⟩) 0 0) 0 [] := OwnS.none_new6 (Nat.le_refl _)
        have hB5 : Below w4.heap.size w4 (w4.alloc (.cells #[] 5)) := (Below.refl _ _).alloc (Nat.le_refl _) _
        have HTK := Lib.hid (show (bs.take n).length = n by rw [List.length_take]; omega)
        have hsr : Src Try.prog (w4.alloc (.cells #[] 5)) 1 (.slice A n c) n ((bs.take n).map (Value.int .u8)) := by
          have := Src.ints (P := Try.prog) (c := c) (((HI.out.takeI hln).below HB4.out).below hB5)
          rwa [HTK.out] at this
        have HON := Lib.hid hon
        have HSR := Lib.hid hsr
        have HB5 := Lib.hid hB5
        clear hon hsr hB5
        go_wp2_with (first
          | (at_builtin; have hm6 := HO6.out; have hs6 := HS45.out; refine wpList_append_S rfl (.tmp 112) (.tmp 113) 22 22 rfl i0 (.int .u8 0) 1 (.slice 5) Try.underlying22 Try.underlying22 (fun _ h => by cases h) hi hz0 hz1 hz2 rfl rfl rfl hm6 (Src.new (us := [.int .u8 7, .int .u8 7, .int .u8 7]) rfl (by simp [Value.oneCell'])) (by unfold maxLen; simp; omega) (by simp; omega) (by simp; omega) ?_; intro A6 c6 w6 ho6 hg6 hw6; have HO7 := Lib.hid ho6; have HG7 := Lib.hid hg6; clear ho6 hg6 hw6 hm6 hs6)
          | (at_builtin; refine wpList_append_S rfl (.tmp 108) (.tmp 111) 22 22 rfl i0 (.int .u8 0) 1 (.slice 5) Try.underlying22 Try.underlying22 (fun _ h => by cases h) hi hz0 hz1 hz2 rfl rfl rfl HON.out HSR.out (by unfold maxLen; omega) (by omega) (by simp) ?_; intro A5 c5 w5 ho5 hg5 hw5; have HB6 := Lib.hid (HB5.out.grown hg5 (by simp) (fun k hk => by have h' : some w4.heap.size = some k := hk; injection h' with h'; omega)); have HO6 := Lib.hid (by have := ho5.alloc (.cells #[.int .u8 7, .int .u8 7, .int .u8 7] 5); rwa [List.nil_append, Nat.zero_add] at this : OwnS (w5.alloc (.cells #[.int .u8 7, .int .u8 7, .int .u8 7] 5)) w4.heap.size 5 1 (.slice A5 n c5) n ((bs.take n).map (Value.int .u8))); have HS45 := Lib.hid HB6.out.size; clear ho5 hg5 hw5))
        have hI6 : Ints .u8 w6 A6 (bs.take n ++ [7, 7, 7]) := OwnS.ints (by rw [List.map_append]; exact HO7.out : OwnS w6 w4.heap.size 5 1 (.slice A6 (n + 3) c6) (n + 3) ((bs.take n ++ [7, 7, 7]).map (Value.int .u8)))
        have hB46 := (HB6.out.alloc (by have := HB6.out.size; omega) _).grown HG7.out (by have := HB6.out.size; simp; omega) (fun k hk => (HO6.out.lt k hk).1)
        have HB7 := Lib.hid (HB4.out.trans (hB46.mono HB4.out.size))
        have HO17 := Lib.hid (HO14.out.below hB46)
        have HX5 := Lib.hid (inf_same (most2 := most) HX.out (Agree.more hln [7, 7, 7]) hlo)
        have HR5 := Lib.hid (iRawN A6 c6 F (n + 3) (bs.take n ++ [7, 7, 7]) most w6 hI6 (fun x hx => by
          rcases List.mem_append.1 hx with hx | hx
          · exact HBY.out.takeI n x hx
          · simp at hx; omega) (by rw [List.length_append, HTK.out]; rfl) (by omega) hmm HF.out)
        rw [HX5.out] at HR5
        clear HX5 hI6 hB46 HO6 HG7 HB6 HO7 HB4 HO14 HS45
        go_wp2_with fail
        refine HR5.out.mono ?_
        rintro e w7 ⟨hB7, _, hgood⟩
        obtain ⟨⟨v7, rfl, ho7⟩, _, _, _⟩ := hgood rfl
        obtain ⟨A7, c7, rfl⟩ := ho7.shape
        have HB8 := Lib.hid (HB7.out.trans (hB7.mono HB7.out.size))
        have HO18 := Lib.hid (HO17.out.below hB7)
        have hr7 : (convert 22 9 (.slice A7 out.length c7)).run Try.prog w7 = .ok (.string SS) w7 := by rw [← HSS.out]; exact run_str_ints 22 9 5 Try.underlying22 Try.underlying5 Try.underlying9 A7 c7 out (OwnS.ints ho7)
        have hr8 : (convert 22 9 (.slice A1 out.length c1)).run Try.prog w7 = .ok (.string SS) w7 := by rw [← HSS.out]; exact run_str_ints 22 9 5 Try.underlying22 Try.underlying5 Try.underlying9 A1 c1 out HO18.out
        have HAW := Lib.hid (awake6_any w7)
        clear hgood hB7 ho7 HR5 HB7 HO17
        go_wp2_with fail
        refine HAW.out.mono ?_
        rintro e w8 ⟨rfl, hB8⟩
        have HB9 := Lib.hid (HB8.out.trans (hB8.mono HB8.out.size))
        clear hB8 HAW
        go_wp2
        go_ret
        exact ⟨rfl, HB9.out⟩
      · have d5 : decide ((0 : Int) < (out.length : Int)) = false := decide_eq_false (by omega)
        have d5' : decide (0 < out.length) = false := decide_eq_false hz
        have HB3 := HB2
        have HO13 := HO12
        obtain ⟨w3, hw3⟩ : ∃ w3, w3 = w2 := ⟨_, rfl⟩
        rw [← hw3] at HB3 HO13
        have hr1' := hr1
        have hr2' := hr2
        clear HB2 HO12
        subst hw3
        have HX4 := Lib.hid (inf_torn HX.out hln hn0 hlo)
        rw [HN1.out] at HX4
        have HR4 := Lib.hid (iRawN A c F n1 (bs.take n1) most w3 ((HI.out.takeI t4).below HB3.out) (HBY.out.takeI n1) (by rw [List.length_take]; omega) (by omega) hmm HF.out)
        rw [HX4.out] at HR4
        clear HX4
        go_wp2_with fail
        refine HR4.out.mono ?_
        rintro e w4 ⟨hB4, hbad, _⟩
        obtain rfl := hbad (by decide)
        have HB4 := Lib.hid (HB3.out.trans (hB4.mono HB3.out.size))
        have HO14 := Lib.hid (HO13.out.below hB4)
        clear hB4 hbad HR4 HB3 HO13
        obtain ⟨i0, hi, hz0, hz1, hz2⟩ := info_parts Try.info_u8
        have hon : OwnS (w4.alloc (.cells #[] 5)) w4.heap.size 5 1 (.slice (some ⟨w4.heap.size, 0, none⟩) 0 0) 0 [] := OwnS.none_new6 (Nat.le_refl _)
        have hB5 : Below w4.heap.size w4 (w4.alloc (.cells #[] 5)) := (Below.refl _ _).alloc (Nat.le_refl _) _
        have HTK := Lib.hid (show (bs.take n).length = n by rw [List.length_take]; omega)
        have hsr : Src Try.prog (w4.alloc (.cells #[] 5)) 1 (.slice A n c) n ((bs.take n).map (Value.int .u8)) := by
          have := Src.ints (P := Try.prog) (c := c) (((HI.out.takeI hln).below HB4.out).below hB5)
          rwa [HTK.out] at this
        have HON := Lib.hid hon
        have HSR := Lib.hid hsr
        have HB5 := Lib.hid hB5
        clear hon hsr hB5
        go_wp2_with (first
          | (at_builtin; have hm6 := HO6.out; have hs6 := HS45.out; refine wpList_append_S rfl (.tmp 112) (.tmp 113) 22 22 rfl i0 (.int .u8 0) 1 (.slice 5) Try.underlying22 Try.underlying22 (fun _ h => by cases h) hi hz0 hz1 hz2 rfl rfl rfl hm6 (Src.new (us := [.int .u8 7, .int .u8 7, .int .u8 7]) rfl (by simp [Value.oneCell'])) (by unfold maxLen; simp; omega) (by simp; omega) (by simp; omega) ?_; intro A6 c6 w6 ho6 hg6 hw6; have HO7 := Lib.hid ho6; have HG7 := Lib.hid hg6; clear ho6 hg6 hw6 hm6 hs6)
          | (at_builtin; refine wpList_append_S rfl (.tmp 108) (.tmp 111) 22 22 rfl i0 (.int .u8 0) 1 (.slice 5) Try.underlying22 Try.underlying22 (fun _ h => by cases h) hi hz0 hz1 hz2 rfl rfl rfl HON.out HSR.out (by unfold maxLen; omega) (by omega) (by simp) ?_; intro A5 c5 w5 ho5 hg5 hw5; have HB6 := Lib.hid (HB5.out.grown hg5 (by simp) (fun k hk => by have h' : some w4.heap.size = some k := hk; injection h' with h'; omega)); have HO6 := Lib.hid (by have := ho5.alloc (.cells #[.int .u8 7, .int .u8 7, .int .u8 7] 5); rwa [List.nil_append, Nat.zero_add] at this : OwnS (w5.alloc (.cells #[.int .u8 7, .int .u8 7, .int .u8 7] 5)) w4.heap.size 5 1 (.slice A5 n c5) n ((bs.take n).map (Value.int .u8))); have HS45 := Lib.hid HB6.out.size; clear ho5 hg5 hw5))
        have hI6 : Ints .u8 w6 A6 (bs.take n ++ [7, 7, 7]) := OwnS.ints (by rw [List.map_append]; exact HO7.out : OwnS w6 w4.heap.size 5 1 (.slice A6 (n + 3) c6) (n + 3) ((bs.take n ++ [7, 7, 7]).map (Value.int .u8)))
        have hB46 := (HB6.out.alloc (by have := HB6.out.size; omega) _).grown HG7.out (by have := HB6.out.size; simp; omega) (fun k hk => (HO6.out.lt k hk).1)
        have HB7 := Lib.hid (HB4.out.trans (hB46.mono HB4.out.size))
        have HO17 := Lib.hid (HO14.out.below hB46)
        have HX5 := Lib.hid (inf_same (most2 := most) HX.out (Agree.more hln [7, 7, 7]) hlo)
        have HR5 := Lib.hid (iRawN A6 c6 F (n + 3) (bs.take n ++ [7, 7, 7]) most w6 hI6 (fun x hx => by
          rcases List.mem_append.1 hx with hx | hx
          · exact HBY.out.takeI n x hx
          · simp at hx; omega) (by rw [List.length_append, HTK.out]; rfl) (by omega) hmm HF.out)
        rw [HX5.out] at HR5
        clear HX5 hI6 hB46 HO6 HG7 HB6 HO7 HB4 HO14 HS45
        go_wp2_with fail
        refine HR5.out.mono ?_
        rintro e w7 ⟨hB7, _, hgood⟩
        obtain ⟨⟨v7, rfl, ho7⟩, _, _, _⟩ := hgood rfl
        obtain ⟨A7, c7, rfl⟩ := ho7.shape
        have HB8 := Lib.hid (HB7.out.trans (hB7.mono HB7.out.size))
        have HO18 := Lib.hid (HO17.out.below hB7)
        have hr7 : (convert 22 9 (.slice A7 out.length c7)).run Try.prog w7 = .ok (.string SS) w7 := by rw [← HSS.out]; exact run_str_ints 22 9 5 Try.underlying22 Try.underlying5 Try.underlying9 A7 c7 out (OwnS.ints ho7)
        have hr8 : (convert 22 9 (.slice A1 out.length c1)).run Try.prog w7 = .ok (.string SS) w7 := by rw [← HSS.out]; exact run_str_ints 22 9 5 Try.underlying22 Try.underlying5 Try.underlying9 A1 c1 out HO18.out
        have HAW := Lib.hid (awake6_any w7)
        clear hgood hB7 ho7 HR5 HB7 HO17
        go_wp2_with fail
        refine HAW.out.mono ?_
        rintro e w8 ⟨rfl, hB8⟩
        have HB9 := Lib.hid (HB8.out.trans (hB8.mono HB8.out.size))
        clear hB8 HAW
        go_wp2
        go_ret
        exact ⟨rfl, HB9.out⟩
    · have d6 : (ex == 0) = false := by simpa using hx0
      have d7 : (ex != 0) = true := by simpa using hx0
      obtain rfl := hbad hx0
      have HAW := Lib.hid (awake6_any w1)
      have d8 : decide ((most : Int) < 0) = false := decide_eq_false (by omega)
      have d9 : decide ((bs.length : Int) < 0) = false := decide_eq_false (by omega)
      clear hbad hgood
      go_wp2_with fail
      refine HAW.out.mono ?_
      rintro e w2 ⟨rfl, hB2⟩
      have HB2 := Lib.hid (HB1.out.trans (hB2.mono HB1.out.size))
      clear hB2 HAW
      go_wp2
      go_ret
      exact ⟨rfl, HB2.out⟩
end Go.Proofs.Ytoeipgbnjcgbjaa
