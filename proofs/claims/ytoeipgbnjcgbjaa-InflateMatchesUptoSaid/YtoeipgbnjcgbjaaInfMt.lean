/- The walk of the law InflateMatches. -/
import Derived.Test.YtoeipgbnjcgbjaaInfX
import Derived.Test.YtoeipgbnjcgbjaaInfS
namespace Go.Proofs.Ytoeipgbnjcgbjaa
open Go.RowKit
set_option linter.unusedVariables false

def natL (bs : List Int) : List Nat := bs.map Int.toNat
theorem natL_len (bs : List Int) : (natL bs).length = bs.length := by simp [natL]
theorem intL_natL {bs : List Int} (h : Bytes bs) : intL (natL bs) = bs := by
  unfold intL natL
  rw [List.map_map]
  refine (List.map_congr_left (g := id) fun x hx => ?_).trans (List.map_id _)
  have := h x hx
  simp
  omega
theorem natL_small {bs : List Int} (h : Bytes bs) : ∀ c ∈ natL bs, c < 256 := by
  intro c hc
  unfold natL at hc
  obtain ⟨x, hx, rfl⟩ := List.mem_map.1 hc
  have := h x hx
  omega
theorem natL_take (bs : List Int) (k : Nat) (h : k < bs.length) : (natL bs).take (k + 1) = (natL bs).take k ++ [(bs.getD k 0).toNat] := by
  rw [List.take_add_one]
  unfold natL
  rw [List.getElem?_map, List.getElem?_eq_getElem h, List.getD_eq_getElem?_getD, List.getElem?_eq_getElem h]
  rfl
theorem natV_int (l : List Nat) : natV l = (intL l).map (Value.int .u8) := by
  unfold natV intL
  rw [List.map_map]
  rfl
theorem bytes_nat {l : List Nat} (h : ∀ x ∈ l, x < 256) : Bytes (intL l) := by
  intro x hx
  unfold intL at hx
  obtain ⟨y, hy, rfl⟩ := List.mem_map.1 hx
  have := h y hy
  omega
theorem litB_len (c : Nat) : (litB c).length ≤ 9 := by unfold litB; split <;> simp [hiBits_length]
theorem lits_len (b : List Nat) : (b.flatMap litB).length ≤ 9 * b.length := by
  induction b with
  | nil => simp
  | cons c b ih => rw [List.flatMap_cons, List.length_append, List.length_cons]; have := litB_len c; omega
/-- The law's loop over the bytes: between its rounds. -/
def LitRel (g B0 : Nat) (bs : List Int) (w : World) (k : Nat) (w' : World) : Prop :=
  (∃ v', WrAt g B0 w' v' (loBits 3 3 ++ ((natL bs).take k).flatMap litB)) ∧ Below B0 w w'
theorem WrAt.new (w : World) : WrAt w.heap.size w.heap.size (w.alloc (.cells #[.slice none 0 0, .int .i64 0] 70)) (.slice none 0 0) [] := by
  refine ⟨[], [], ?_, OwnS.nil _ _ _ _, Holds.nil⟩
  exact Cel.new w _ #[.slice none 0 0, .int .i64 0] _ (fun i hi => by
    match i, hi with
    | 0, _ => rfl
    | 1, _ => rfl)
/-- The writer's bytes as Raw reads them. -/
theorem WrAt.read {g B0 : Nat} {w : World} {v : Value} {ws : List Nat} (h : WrAt g B0 w v ws) : ∃ (l : List Nat) (A : Option Addr) (c : Nat), v = .slice A l.length c ∧ w.cell? ⟨g, 0, none⟩ = some (.slice A l.length c) ∧ Ints .u8 w A (intL l) ∧ BitsAt (intL l) 0 ws ∧ l.length = (ws.length + 7) / 8 ∧ Bytes (intL l) := by
  obtain ⟨B, r, hc, ho, hh⟩ := h
  obtain ⟨A, c, rfl⟩ := ho.shape
  obtain ⟨h1, h2, h3⟩ := holds_bits hh
  rw [natV_int] at ho
  exact ⟨bytesB B r, A, c, rfl, hc.cell 0 (by decide), OwnS.ints ho, h1, h2, bytes_nat h3⟩
theorem iRawF (A : Option Addr) (c F n : Nat) (bs : List Int) (most : Nat) (w : World) (hI : Ints .u8 w A bs) (hb : Bytes bs) (hl : bs.length = n) (hsz : n ≤ 6000) (hmm : most ≤ 65535) (hF : F = 70000) :
    Calls Try.prog 43 #[.slice A n c, .int .i64 most] w (RawPost bs most (infM F bs most) w) := by
  subst hl
  exact iRaw_any A c F bs most most w hI hb (by omega) (by omega) (by omega) (by omega) (by omega)
theorem OwnS.none_new6 {w : World} {base : Nat} {e : TypeId} (hb : base ≤ w.heap.size) : OwnS (w.alloc (.cells #[] e)) base e 1 (.slice (some ⟨w.heap.size, 0, none⟩) 0 0) 0 [] := by
  exact ⟨rfl, .inr ⟨w.heap.size, 0, 0, #[], rfl, hb, ⟨(0, 0), heap_alloc_new w _, .inl (Nat.le_refl _)⟩, Nat.le_refl _, Nat.zero_le _, Nat.le_refl _, rfl⟩⟩
theorem copyL_snoc (d : Nat) : ∀ (n : Nat) (out : List Int), copyL d (n + 1) out = copyL d n out ++ [(copyL d n out).getD ((copyL d n out).length - d) 0] := by
  intro n
  induction n with
  | zero => intro out; rfl
  | succ n ih => intro out; rw [copyL, ih, ← copyL]
theorem i64_and_low (m : Int) (k : Nat) (hk : k ≤ 62) : bits .and .i64 m ((2 ^ k - 1 : Nat) : Int) = m % ((2 ^ k : Nat) : Int) := by
  have hp : 2 ^ k ≤ 2 ^ 62 := Nat.pow_le_pow_right (by decide) hk
  have hp0 : 0 < 2 ^ k := Nat.pow_pos (by decide)
  have h1 : (BitVec.ofInt 64 ((2 ^ k - 1 : Nat) : Int)).toNat = 2 ^ k - 1 := by
    rw [BitVec.toNat_ofInt]
    omega
  have key : (BitVec.ofInt 64 m &&& BitVec.ofInt 64 ((2 ^ k - 1 : Nat) : Int)).toNat = (m % ((2 ^ 64 : Nat) : Int)).toNat % 2 ^ k := by
    rw [BitVec.toNat_and, BitVec.toNat_ofInt, h1, Nat.and_two_pow_sub_one_eq_mod]
  show IntKind.i64.wrap ((BitVec.ofInt 64 m &&& BitVec.ofInt 64 ((2 ^ k - 1 : Nat) : Int)).toNat : Nat) = _
  rw [key, IntKind.wrap_i64]
  have hd : (2 ^ k) ∣ (2 ^ 64) := Nat.pow_dvd_pow 2 (by omega)
  have e : ((m % ((2 ^ 64 : Nat) : Int)).toNat % 2 ^ k : Nat) = (m % ((2 ^ k : Nat) : Int)).toNat := by
    have h0 : 0 ≤ m % ((2 ^ 64 : Nat) : Int) := by omega
    have h2 : (((m % ((2 ^ 64 : Nat) : Int)).toNat % 2 ^ k : Nat) : Int) = m % ((2 ^ k : Nat) : Int) := by
      rw [Int.natCast_emod, Int.toNat_of_nonneg h0]
      exact Int.emod_emod_of_dvd m (Int.natCast_dvd_natCast.2 hd)
    omega
  rw [e]
  have h3 : 0 ≤ m % ((2 ^ k : Nat) : Int) := Int.emod_nonneg _ (by omega)
  have h4 : m % ((2 ^ k : Nat) : Int) < ((2 ^ k : Nat) : Int) := Int.emod_lt_of_pos _ (by omega)
  omega
theorem i64_and7 (m : Int) : bits .and .i64 m 7 = m % 8 := i64_and_low m 3 (by decide)
theorem i64_and3 (m : Int) : bits .and .i64 m 3 = m % 4 := i64_and_low m 2 (by decide)
/-- The law's second loop: between its rounds. -/
structure WantAt (wa : World) (v : Value) (l : List Int) (w' : World) : Prop where
  own : OwnS w' wa.heap.size 5 1 v l.length (l.map (Value.int .u8))
  bel : Below wa.heap.size wa w'
theorem WantAt.grow {wa w' w9 : World} {n : Nat} {v v9 : Value} {l : List Int} {x : Int} (h : WantAt wa v l w') (o : Obj) (hg : (w'.alloc o).grownBy w9 v.ownBlock) (ho : OwnS w9 wa.heap.size 5 1 v9 n (l.map (Value.int .u8) ++ [.int .u8 x])) (hn : n = l.length + 1) : WantAt wa v9 (l ++ [x]) w9 := by
  subst hn
  have hs := h.bel.size
  exact ⟨by rw [List.length_append, List.map_append]; exact ho, (h.bel.alloc hs o).grown hg (by simp; omega) (fun k hk => (h.own.lt k hk).1)⟩
set_option maxRecDepth 100000 in
set_option maxHeartbeats 16000000 in
theorem inflateMatches_walk (A : Option Addr) (c : Nat) (bs : List Int) (x1 x2 : Int) (w : World) (hI : Ints .u8 w A bs) (wf : ∀ x ∈ bs, (Lit.int .u8 x).wf = true) (hsz : bs.length ≤ 140737488351300) (_f1 : (Lit.int .i64 x1).wf = true) (_f2 : (Lit.int .i64 x2).wf = true) :
    Calls Try.prog 10 #[.slice A bs.length c, .int .i64 x1, .int .i64 x2] w fun e w' => e = .returned (.bool true) ∧ Below w.heap.size w w' := by
  have hb : Bytes bs := fun x hx => by
    have := wf x hx
    simp [Lit.wf, IntKind.min, IntKind.max, IntKind.bits, IntKind.signed] at this
    omega
  clear wf
  by_cases h5 : 100 < bs.length
  · have d1 : decide ((100 : Int) < (bs.length : Int)) = true := decide_eq_true (by omega)
    have HAW := Lib.hid (awake6_any w)
    clear hI hb h5
    go_enter Try.func10, Try.ntmps10
    go_wp2_with fail
    refine HAW.out.mono ?_
    rintro e w1 ⟨rfl, hB1⟩
    have HB1 := Lib.hid hB1
    clear hB1 HAW
    go_wp2
    go_ret
    exact ⟨rfl, HB1.out⟩
  · have d1 : decide ((100 : Int) < (bs.length : Int)) = false := decide_eq_false (by omega)
    have hlen : bs.length ≤ 100 := by omega
    have HI := Lib.hid hI
    have HBY := Lib.hid hb
    have g1 := i64_and7 x1
    have g2 := i64_and3 x2
    obtain ⟨n0, hn0⟩ : ∃ n0 : Nat, x1 % 8 = (n0 : Int) := ⟨(x1 % 8).toNat, by omega⟩
    obtain ⟨d0, hd0⟩ : ∃ d0 : Nat, x2 % 4 = (d0 : Int) := ⟨(x2 % 4).toNat, by omega⟩
    rw [hn0] at g1
    rw [hd0] at g2
    have hn8 : n0 < 8 := by omega
    have hd4 : d0 < 4 := by omega
    clear hn0 hd0
    obtain ⟨nn, hnn⟩ : ∃ nn, n0 + 3 = nn := ⟨_, rfl⟩
    obtain ⟨dd, hdd⟩ : ∃ dd, d0 + 1 = dd := ⟨_, rfl⟩
    have g3 : IntKind.i64.wrap ((n0 : Int) + 3) = (nn : Int) := by rw [IntWalk.i64_in _ (by omega)]; omega
    have g4 : IntKind.i64.wrap ((d0 : Int) + 1) = (dd : Int) := by rw [IntWalk.i64_in _ (by omega)]; omega
    have g5 : IntKind.i64.wrap ((nn : Int) - 2) = ((nn - 2 : Nat) : Int) := by rw [IntWalk.i64_in _ (by omega)]; omega
    have g6 : IntKind.i64.wrap ((dd : Int) - 1) = ((dd - 1 : Nat) : Int) := by rw [IntWalk.i64_in _ (by omega)]; omega
    have hnr : 3 ≤ nn ∧ nn ≤ 10 := by omega
    have hdr : 1 ≤ dd ∧ dd ≤ 4 := by omega
    clear hI hb h5 hsz hnn hdd hn8 hd4
    obtain ⟨n2, hn2⟩ : ∃ n2, nn - 2 = n2 := ⟨_, rfl⟩
    obtain ⟨d2, hd2⟩ : ∃ d2, dd - 1 = d2 := ⟨_, rfl⟩
    rw [hn2] at g5
    rw [hd2] at g6
    have g7 : IntKind.u32.wrap (n2 : Int) = (n2 : Int) := IntWalk.u32_in _ (by omega)
    have g8 : IntKind.u32.wrap (d2 : Int) = (d2 : Int) := IntWalk.u32_in _ (by omega)
    have HN2 := Lib.hid hn2
    have HD2 := Lib.hid hd2
    have hnd : n2 < 100 ∧ d2 < 100 := by omega
    clear hn2 hd2
    go_enter Try.func10, Try.ntmps10
    go_wp2_with fail
    refine (refPut_any w.heap.size w.heap.size 3 3 _ _ [] (WrAt.new w) (by decide) (by decide) (by decide) (Nat.le_refl _)).mono ?_
    rintro e w1 ⟨rfl, hw1, hb1⟩
    have HR0 : Hid (LitRel w.heap.size w.heap.size bs w 0 w1) := Lib.hid ⟨by rw [List.take_zero, List.flatMap_nil, List.append_nil]; exact hw1, ((Below.refl _ _).alloc (Nat.le_refl _) _).trans hb1⟩
    clear hw1 hb1
    generalize hg : w.heap.size = g at *
    go_wp2
    clear g1 g2 g3 g4
    go_loopw [8] (fun i wr => ∃ k : Nat, i = .int .i64 k ∧ k ≤ bs.length ∧ LitRel g g bs w k wr) (fun i _ => bs.length - (intOf i).toNat)
    case atStart => exact ⟨0, rfl, Nat.zero_le _, HR0.out⟩
    case round =>
      clear HR0
      obtain ⟨k, rfl, hk, ⟨v1, hw1⟩, hb1⟩ := hrel
      have HW1 := Lib.hid hw1
      have HB1 := Lib.hid hb1
      have hB1 : Below w.heap.size w wr := by rw [hg]; exact hb1
      by_cases hlt : k < bs.length
      · have d2' : decide ((k : Int) < (bs.length : Int)) = true := decide_eq_true (by omega)
        obtain ⟨b, o, rfl, hbs, hcell⟩ := HI.out (by omega)
        have kx := (hB1.cell (p := ⟨b, o + k, none⟩) hbs).trans (hcell k hlt)
        have hx := getD_byte HBY.out k
        have HT := Lib.hid (natL_take bs k hlt)
        have hll := lits_len ((natL bs).take k)
        rw [List.length_take, natL_len, Nat.min_eq_left (by omega)] at hll
        clear hcell hw1 hb1 hB1
        obtain ⟨y, hy⟩ := Int.eq_ofNat_of_zero_le hx.1
        rw [hy] at kx hx HT
        have hy2 : y < 256 := by omega
        rw [Int.toNat_natCast] at HT
        clear hy hx
        have e0 : IntKind.u32.wrap (y : Int) = (y : Int) := IntWalk.u32_in _ (by omega)
        by_cases hc : y < 144
        · have d3 : decide ((y : Int) < 144) = true := decide_eq_true (by omega)
          have e1 : IntKind.u32.wrap (48 + (y : Int)) = ((48 + y : Nat) : Int) := by rw [IntWalk.u32_in _ (by omega)]; omega
          have HP := Lib.hid (refCode_any g g (48 + y) 8 wr v1 _ HW1.out (by rw [List.length_append, loBits_length]; omega) (by decide) (by omega) (Nat.le_refl _))
          have HS : Hid (((natL bs).take k).flatMap litB ++ hiBits (48 + y) 8 = ((natL bs).take (k + 1)).flatMap litB) := Lib.hid (by rw [HT.out, List.flatMap_append]; simp [litB, hc])
          rw [List.append_assoc, HS.out] at HP
          clear HS
          go_wp2_with fail
          refine HP.out.mono ?_
          rintro e w2 ⟨rfl, hw2, hb2⟩
          have HW2 := Lib.hid hw2
          have HB2 := Lib.hid (HB1.out.trans hb2)
          clear hw2 hb2 HP kx
          go_wp2
          go_roundw
          case rel => exact ⟨k + 1, by go_num, by omega, HW2.out, HB2.out⟩
          case measure => simp [intOf]; omega
        · have d3 : decide ((y : Int) < 144) = false := decide_eq_false (by omega)
          obtain ⟨z, hz⟩ : ∃ z, 400 + y = z := ⟨_, rfl⟩
          have e1 : IntKind.u32.wrap (400 + (y : Int)) = (z : Int) := by rw [IntWalk.u32_in _ (by omega)]; omega
          have e2 : IntKind.u32.wrap ((z : Int) - 144) = ((z - 144 : Nat) : Int) := by rw [IntWalk.u32_in _ (by omega)]; omega
          have HP := Lib.hid (refCode_any g g (z - 144) 9 wr v1 _ HW1.out (by rw [List.length_append, loBits_length]; omega) (by decide) (by omega) (Nat.le_refl _))
          have HS : Hid (((natL bs).take k).flatMap litB ++ hiBits (z - 144) 9 = ((natL bs).take (k + 1)).flatMap litB) := Lib.hid (by rw [HT.out, List.flatMap_append, ← hz]; simp [litB, hc])
          rw [List.append_assoc, HS.out] at HP
          clear HS hz
          go_wp2_with fail
          refine HP.out.mono ?_
          rintro e w2 ⟨rfl, hw2, hb2⟩
          have HW2 := Lib.hid hw2
          have HB2 := Lib.hid (HB1.out.trans hb2)
          clear hw2 hb2 HP kx
          go_wp2
          go_roundw
          case rel => exact ⟨k + 1, by go_num, by omega, HW2.out, HB2.out⟩
          case measure => simp [intOf]; omega
      · have d2' : decide ((k : Int) < (bs.length : Int)) = false := decide_eq_false (by omega)
        obtain rfl : k = bs.length := by omega
        have ht : (natL bs).take bs.length = natL bs := List.take_of_length_le (by rw [natL_len]; exact Nat.le_refl _)
        rw [ht] at HW1
        have hll := lits_len (natL bs)
        rw [natL_len] at hll
        have HP := Lib.hid (refCode_any g g n2 7 wr v1 _ HW1.out (by rw [List.length_append, loBits_length]; omega) (by decide) (by omega) (Nat.le_refl _))
        rw [List.append_assoc] at HP
        clear hw1 hb1 hB1 ht
        go_wp2_with fail
        refine HP.out.mono ?_
        rintro e w2 ⟨rfl, ⟨v2, hw2⟩, hb2⟩
        have HB2 := Lib.hid (HB1.out.trans hb2)
        have HP2 := Lib.hid (refCode_any g g d2 5 w2 v2 _ hw2 (by simp only [List.length_append, loBits_length, hiBits_length]; omega) (by decide) (by omega) (Nat.le_refl _))
        clear hw2 hb2 HP
        go_wp2_with fail
        refine HP2.out.mono ?_
        rintro e w3 ⟨rfl, ⟨v3, hw3⟩, hb3⟩
        have HB3 := Lib.hid (HB2.out.trans hb3)
        have HP3 := Lib.hid (refCode_any g g 0 7 w3 v3 _ hw3 (by simp only [List.length_append, loBits_length, hiBits_length]; omega) (by decide) (by decide) (Nat.le_refl _))
        clear hw3 hb3 HP2
        simp only [List.append_assoc] at HP3
        rw [← List.append_assoc (hiBits n2 7)] at HP3
        go_wp2_with fail
        refine HP3.out.mono ?_
        rintro e w4 ⟨rfl, ⟨v4, hw4⟩, hb4⟩
        have HB4 := Lib.hid (HB3.out.trans hb4)
        obtain ⟨l, A2, c2, rfl, hc0, hi2, hbits, hll2, hbl⟩ := hw4.read
        obtain ⟨F, hF⟩ : ∃ F, F = 70000 := ⟨_, rfl⟩
        have HF := Lib.hid hF
        have HX := Lib.hid (match_inf (F := F) (n := nn) (d := dd) (natL_small HBY.out) (by rw [natL_len]; exact hlen) hnr hdr (by rw [HN2.out, HD2.out]; exact hbits) (by rw [natL_len]; omega))
        rw [natL_len, intL_natL HBY.out] at HX
        have hl6 : l.length ≤ 2000 := by rw [hll2]; simp only [List.length_append, loBits_length, hiBits_length]; omega
        have HBW : Hid (Below w.heap.size w w4) := Lib.hid (by rw [hg]; exact HB4.out)
        have HC0 := Lib.hid hc0
        have HI2 := Lib.hid hi2
        have HBL := Lib.hid hbl
        clear hw4 hi2 hbits hll2 hbl HP3 hF hll hb4 hc0 g5 g6 g7 g8
        obtain ⟨i0, hi, hz0, hz1, hz2⟩ := info_parts Try.info_u8
        have hB5 : Below w4.heap.size w4 (w4.alloc (.cells #[] 5)) := (Below.refl _ _).alloc (Nat.le_refl _) _
        have HON := Lib.hid (OwnS.none_new6 (w := w4) (e := 5) (Nat.le_refl _))
        have HSR := Lib.hid (Src.ints (P := Try.prog) (c := c) ((HI.out.below HBW.out).below hB5))
        go_wp2_with (at_builtin; go_loud (refine wpList_append_S rfl (.tmp 66) (.tmp 67) 22 22 rfl i0 (.int .u8 0) 1 (.slice 5) Try.underlying22 Try.underlying22 (fun _ h => by cases h) hi hz0 hz1 hz2 rfl rfl rfl HON.out HSR.out (by unfold maxLen; omega) (by omega) (by simp) ?_); intro A5 c5 w5 ho5 hg5 hw5)
        have HWA : Hid (WantAt w4 (.slice A5 (bs.length) c5) (copyL dd 0 bs) w5) := Lib.hid ⟨by have := ho5; rwa [List.nil_append, Nat.zero_add] at this, hB5.grown hg5 (by simp) (fun k hk => by have h' : some w4.heap.size = some k := hk; injection h' with h'; omega)⟩
        clear ho5 hg5 hw5 HON HSR hB5
        have hc00 : (copyL dd 0 bs).length = bs.length := rfl
        have HWR : Hid (∃ j : Nat, (0 : Nat) = j ∧ j ≤ nn ∧ (¬ dd ≤ bs.length → j = 0) ∧ WantAt w4 (.slice A5 bs.length c5) (copyL dd j bs) w5) := Lib.hid ⟨0, rfl, Nat.zero_le _, fun _ => rfl, HWA.out⟩
        clear hc00 HWA
        go_loopw [10, 11] (fun v i wr => ∃ j : Nat, i = .int .i64 j ∧ j ≤ nn ∧ (¬ dd ≤ bs.length → j = 0) ∧ WantAt w4 v (copyL dd j bs) wr) (fun _ i _ => nn - (intOf i).toNat)
        case atStart =>
          obtain ⟨j, rfl, h1, h2, h3⟩ := HWR.out
          exact ⟨0, rfl, h1, h2, h3⟩
        case round =>
          clear HWR
          obtain ⟨j, rfl, hj, hj0, hW⟩ := hrel
          have hcl := copyL_len dd j bs
          obtain ⟨A6, c6, rfl⟩ := hW.own.shape
          have HW := Lib.hid hW
          have hBq := hW.bel
          have HI3 := Lib.hid (HI2.out.below hBq)
          have hcq : wr.cell? ⟨g, 0, none⟩ = some (.slice A2 l.length c2) := (hBq.cell (p := ⟨g, 0, none⟩) (World.block_lt_of_cell? w4 _ HC0.out)).trans HC0.out
          have HBQ := Lib.hid (HBW.out.trans (hBq.mono HBW.out.size))
          have HCQ := Lib.hid hcq
          have hws := hBq.size
          clear hBq hW
          by_cases hjn : j < nn
          · have d3 : decide ((j : Int) < (nn : Int)) = true := decide_eq_true (by omega)
            by_cases hdl : dd ≤ bs.length
            · have d4 : decide ((dd : Int) ≤ (bs.length : Int)) = true := decide_eq_true (by omega)
              have hown := HW.out.own
              obtain ⟨b6, o6, rfl, hb6, hcell6⟩ := OwnS.ints hown (by omega)
              have kx := hcell6 ((copyL dd j bs).length - dd) (by omega)
              have hsn := copyL_snoc dd j bs
              obtain ⟨ii, hii⟩ : ∃ ii, (copyL dd j bs).length - dd = ii := ⟨_, rfl⟩
              rw [hii] at kx hsn
              obtain ⟨L, hL⟩ : ∃ L, (copyL dd j bs).length = L := ⟨_, rfl⟩
              have e5 : IntKind.i64.wrap ((L : Int) - (dd : Int)) = (ii : Int) := by rw [IntWalk.i64_in _ (by omega)]; omega
              have e6 : (L : Int) - (dd : Int) = (ii : Int) := by omega
              have s1 : (ii : Int) < (L : Int) := by omega
              have s2 : ii < L := by omega
              have hL2 : L ≤ 200 := by omega
              have HSN := Lib.hid hsn
              rw [hL] at hown ⊢
              generalize (copyL dd j bs).getD ii 0 = x at *
              have HON := Lib.hid (hown.alloc (.cells #[.int .u8 x] 5))
              have hsa : w4.heap.size ≤ (wr.alloc (.cells #[.int .u8 x] 5)).heap.size := by simp; omega
              have HLL := Lib.hid hL
              clear hcell6 hown hcl hii hsn hL
              go_wp2_with (at_builtin; go_loud (refine wpList_append_S rfl (.tmp 80) (.tmp 88) 22 22 rfl i0 (.int .u8 0) 1 (.slice 5) Try.underlying22 Try.underlying22 (fun _ h => by cases h) hi hz0 hz1 hz2 rfl rfl rfl HON.out (Src.one_new (u := .int .u8 x) rfl) (by unfold maxLen; omega) (by omega) hsa ?_); intro A7 c7 w7 ho7 hg7 hw7)
              all_goals
                have HW7 := Lib.hid (HW.out.grow _ hg7 ho7 (by rw [HLL.out]))
                rw [← HSN.out] at HW7
                clear ho7 hg7 hw7 HON kx hcq
                go_wp2
                go_roundw
                case rel => exact ⟨j + 1, by go_num, by omega, fun h => absurd hdl h, HW7.out⟩
                case measure => simp [intOf]; omega
            · have d4 : decide ((dd : Int) ≤ (bs.length : Int)) = false := decide_eq_false (by omega)
              have d5 : decide ((bs.length : Int) < (dd : Int)) = true := decide_eq_true (by omega)
              have HX1 := Lib.hid (HX.out.1 (by omega))
              have HR := Lib.hid (iRawF A2 c2 F l.length (intL l) 1000 wr HI3.out HBL.out (by simp [intL]) (by omega) (by decide) HF.out)
              rw [HX1.out] at HR
              clear HX1 hcl
              go_wp2_with fail
              refine HR.out.mono ?_
              rintro e w8 ⟨hB8, hbad, _⟩
              obtain rfl := hbad (by decide)
              have HB8 := Lib.hid (HBQ.out.trans (hB8.mono HBQ.out.size))
              have HAW := Lib.hid (awake6_any w8)
              clear hbad hB8 HR hcq
              go_wp2_with fail
              refine HAW.out.mono ?_
              rintro e w9 ⟨rfl, hB9⟩
              have HB9 := Lib.hid (HB8.out.trans (hB9.mono HB8.out.size))
              clear hB9 HAW
              go_wp2
              go_ret
              exact ⟨rfl, HB9.out⟩
          · have d3 : decide ((j : Int) < (nn : Int)) = false := decide_eq_false (by omega)
            obtain rfl : j = nn := by omega
            have hdl : dd ≤ bs.length := by
              by_cases h : dd ≤ bs.length
              · exact h
              · have := hj0 h; omega
            have d5 : decide ((bs.length : Int) < (dd : Int)) = false := decide_eq_false (by omega)
            obtain ⟨u, hu⟩ := HX.out.2 hdl
            have HX1 := Lib.hid hu
            have HR := Lib.hid (iRawF A2 c2 F l.length (intL l) 1000 wr HI3.out HBL.out (by simp [intL]) (by omega) (by decide) HF.out)
            rw [hu] at HR
            clear hu
            go_wp2_with fail
            refine HR.out.mono ?_
            rintro e w8 ⟨hB8, _, hgood⟩
            obtain ⟨⟨v8, rfl, ho8⟩, _, hul, _⟩ := hgood rfl
            simp only at ho8 hul ⊢
            obtain ⟨A8, c8, rfl⟩ := ho8.shape
            obtain ⟨m2, hm2⟩ : ∃ m2, bs.length + j - 1 = m2 := ⟨_, rfl⟩
            obtain ⟨m1, hm1⟩ : ∃ m1, bs.length + j = m1 := ⟨_, rfl⟩
            have e5 : IntKind.i64.wrap ((bs.length : Int) + (j : Int)) = (m1 : Int) := by rw [IntWalk.i64_in _ (by omega)]; omega
            have e6 : IntKind.i64.wrap ((m1 : Int) - 1) = (m2 : Int) := by rw [IntWalk.i64_in _ (by omega)]; omega
            have HX2 := Lib.hid (inf_big (most2 := m2) HX1.out hul (by rw [hcl]; omega))
            have hcq8 : w8.cell? ⟨g, 0, none⟩ = some (.slice A2 l.length c2) := (hB8.cell (p := ⟨g, 0, none⟩) (World.block_lt_of_cell? wr _ HCQ.out)).trans HCQ.out
            have HR2 := Lib.hid (iRawF A2 c2 F l.length (intL l) m2 w8 (HI3.out.below hB8) HBL.out (by simp [intL]) (by omega) (by omega) HF.out)
            rw [HX2.out] at HR2
            have HB8 := Lib.hid (HBQ.out.trans (hB8.mono HBQ.out.size))
            have HO8 := Lib.hid (OwnS.ints ho8)
            have HW8 := Lib.hid ((OwnS.ints HW.out.own).below hB8)
            clear hgood hB8 ho8 HR HX2 hm2 hm1 hcq
            go_wp2_with fail
            refine HR2.out.mono ?_
            rintro e w9 ⟨hB9, hbad, _⟩
            obtain rfl := hbad (by decide)
            have HB9 := Lib.hid (HB8.out.trans (hB9.mono HB8.out.size))
            obtain ⟨cl, hcl2⟩ : ∃ cl, copyL dd j bs = cl := ⟨_, rfl⟩
            rw [hcl2] at HO8 HW8 hcl
            have hr1 : (convert 22 9 (.slice A8 (bs.length + j) c8)).run Try.prog w9 = .ok (.string (strOfNums cl)) w9 := (by have := run_str_ints (P := Try.prog) 22 9 5 Try.underlying22 Try.underlying5 Try.underlying9 A8 c8 cl (HO8.out.below hB9); rwa [hcl] at this)
            have hr2 : (convert 22 9 (.slice A6 (bs.length + j) c6)).run Try.prog w9 = .ok (.string (strOfNums cl)) w9 := (by have := run_str_ints (P := Try.prog) 22 9 5 Try.underlying22 Try.underlying5 Try.underlying9 A6 c6 cl (HW8.out.below hB9); rwa [hcl] at this)
            have HAW := Lib.hid (awake6_any w9)
            have HCL := Lib.hid hcl
            clear hbad hB9 HR2 hcq8 hcl
            generalize strOfNums cl = SS at *
            go_wp2_with fail
            refine HAW.out.mono ?_
            rintro e w10 ⟨rfl, hB10⟩
            have HB10 := Lib.hid (HB9.out.trans (hB10.mono HB9.out.size))
            clear hB10 HAW
            go_wp2
            go_ret
            exact ⟨rfl, HB10.out⟩
end Go.Proofs.Ytoeipgbnjcgbjaa
