/- The walk of the law InflateFixed. -/
import Derived.Test.YtoeipgbnjcgbjaaInfX
import Derived.Test.YtoeipgbnjcgbjaaInfS
namespace Go.Proofs.Ytoeipgbnjcgbjaa
open Go.RowKit
set_option linter.unusedVariables false

def natL (bs : List Int) : List Nat := bs.map Int.toNat
theorem natL_len (bs : List Int) : (natL bs).length = bs.length := by simp [natL]
theorem intL_natL {bs : List Int} (h : Bytes bs) : intL (natL bs) = bs := by
  unfold intL natL
  rw [List.map_map]
  refine (List.map_congr_left (g := id) fun x hx => ?_).trans (List.map_id _)
  have := h x hx
  simp
  omega
theorem natL_small {bs : List Int} (h : Bytes bs) : ∀ c ∈ natL bs, c < 256 := by
  intro c hc
  unfold natL at hc
  obtain ⟨x, hx, rfl⟩ := List.mem_map.1 hc
  have := h x hx
  omega
theorem natL_take (bs : List Int) (k : Nat) (h : k < bs.length) : (natL bs).take (k + 1) = (natL bs).take k ++ [(bs.getD k 0).toNat] := by
  rw [List.take_add_one]
  unfold natL
  rw [List.getElem?_map, List.getElem?_eq_getElem h, List.getD_eq_getElem?_getD, List.getElem?_eq_getElem h]
  rfl
theorem natV_int (l : List Nat) : natV l = (intL l).map (Value.int .u8) := by
  unfold natV intL
  rw [List.map_map]
  rfl
theorem bytes_nat {l : List Nat} (h : ∀ x ∈ l, x < 256) : Bytes (intL l) := by
  intro x hx
  unfold intL at hx
  obtain ⟨y, hy, rfl⟩ := List.mem_map.1 hx
  have := h y hy
  omega
theorem litB_len (c : Nat) : (litB c).length ≤ 9 := by unfold litB; split <;> simp [hiBits_length]
theorem lits_len (b : List Nat) : (b.flatMap litB).length ≤ 9 * b.length := by
  induction b with
  | nil => simp
  | cons c b ih => rw [List.flatMap_cons, List.length_append, List.length_cons]; have := litB_len c; omega
/-- The law's loop over the bytes: between its rounds. -/
def LitRel (g B0 : Nat) (bs : List Int) (w : World) (k : Nat) (w' : World) : Prop :=
  (∃ v', WrAt g B0 w' v' (loBits 3 3 ++ ((natL bs).take k).flatMap litB)) ∧ Below B0 w w'
theorem WrAt.new (w : World) : WrAt w.heap.size w.heap.size (w.alloc (.cells #[.slice none 0 0, .int .i64 0] 70)) (.slice none 0 0) [] := by
  refine ⟨[], [], ?_, OwnS.nil _ _ _ _, Holds.nil⟩
  exact Cel.new w _ #[.slice none 0 0, .int .i64 0] _ (fun i hi => by
    match i, hi with
    | 0, _ => rfl
    | 1, _ => rfl)
/-- The writer's bytes as Raw reads them. -/
theorem WrAt.read {g B0 : Nat} {w : World} {v : Value} {ws : List Nat} (h : WrAt g B0 w v ws) : ∃ (l : List Nat) (A : Option Addr) (c : Nat), v = .slice A l.length c ∧ w.cell? ⟨g, 0, none⟩ = some (.slice A l.length c) ∧ Ints .u8 w A (intL l) ∧ BitsAt (intL l) 0 ws ∧ l.length = (ws.length + 7) / 8 ∧ Bytes (intL l) := by
  obtain ⟨B, r, hc, ho, hh⟩ := h
  obtain ⟨A, c, rfl⟩ := ho.shape
  obtain ⟨h1, h2, h3⟩ := holds_bits hh
  rw [natV_int] at ho
  exact ⟨bytesB B r, A, c, rfl, hc.cell 0 (by decide), OwnS.ints ho, h1, h2, bytes_nat h3⟩
theorem iRawF (A : Option Addr) (c F n : Nat) (bs : List Int) (most : Nat) (w : World) (hI : Ints .u8 w A bs) (hb : Bytes bs) (hl : bs.length = n) (hsz : n ≤ 6000) (hmm : most ≤ 65535) (hF : F = 70000) :
    Calls Try.prog 43 #[.slice A n c, .int .i64 most] w (RawPost bs most (infM F bs most) w) := by
  subst hl
  exact iRaw_any A c F bs most most w hI hb (by omega) (by omega) (by omega) (by omega) (by omega)
set_option maxRecDepth 100000 in
set_option maxHeartbeats 8000000 in
theorem inflateFixed_walk (A : Option Addr) (c : Nat) (bs : List Int) (w : World) (hI : Ints .u8 w A bs) (wf : ∀ x ∈ bs, (Lit.int .u8 x).wf = true) (hsz : bs.length ≤ 140737488351300) :
    Calls Try.prog 9 #[.slice A bs.length c] w fun e w' => e = .returned (.bool true) ∧ Below w.heap.size w w' := by
  have hb : Bytes bs := fun x hx => by
    have := wf x hx
    simp [Lit.wf, IntKind.min, IntKind.max, IntKind.bits, IntKind.signed] at this
    omega
  clear wf
  by_cases h5 : 500 < bs.length
  · have d1 : decide ((500 : Int) < (bs.length : Int)) = true := decide_eq_true (by omega)
    have HAW := Lib.hid (awake6_any w)
    clear hI hb h5
    go_enter Try.func9, Try.ntmps9
    go_wp2_with fail
    refine HAW.out.mono ?_
    rintro e w1 ⟨rfl, hB1⟩
    have HB1 := Lib.hid hB1
    clear hB1 HAW
    go_wp2
    go_ret
    exact ⟨rfl, HB1.out⟩
  · have d1 : decide ((500 : Int) < (bs.length : Int)) = false := decide_eq_false (by omega)
    have hlen : bs.length ≤ 500 := by omega
    have HI := Lib.hid hI
    have HBY := Lib.hid hb
    clear hI hb h5 hsz
    go_enter Try.func9, Try.ntmps9
    go_wp2_with fail
    refine (refPut_any w.heap.size w.heap.size 3 3 _ _ [] (WrAt.new w) (by decide) (by decide) (by decide) (Nat.le_refl _)).mono ?_
    rintro e w1 ⟨rfl, hw1, hb1⟩
    have HR0 : Hid (LitRel w.heap.size w.heap.size bs w 0 w1) := Lib.hid ⟨by rw [List.take_zero, List.flatMap_nil, List.append_nil]; exact hw1, ((Below.refl _ _).alloc (Nat.le_refl _) _).trans hb1⟩
    clear hw1 hb1
    generalize hg : w.heap.size = g at *
    go_wp2
    go_loopw [4] (fun i wr => ∃ k : Nat, i = .int .i64 k ∧ k ≤ bs.length ∧ LitRel g g bs w k wr) (fun i _ => bs.length - (intOf i).toNat)
    case atStart => exact ⟨0, rfl, Nat.zero_le _, HR0.out⟩
    case round =>
      clear HR0
      obtain ⟨k, rfl, hk, ⟨v1, hw1⟩, hb1⟩ := hrel
      have HW1 := Lib.hid hw1
      have HB1 := Lib.hid hb1
      have hB1 : Below w.heap.size w wr := by rw [hg]; exact hb1
      by_cases hlt : k < bs.length
      · have d2 : decide ((k : Int) < (bs.length : Int)) = true := decide_eq_true (by omega)
        obtain ⟨b, o, rfl, hbs, hcell⟩ := HI.out (by omega)
        have kx := (hB1.cell (p := ⟨b, o + k, none⟩) hbs).trans (hcell k hlt)
        have hx := getD_byte HBY.out k
        have HT := Lib.hid (natL_take bs k hlt)
        have hll := lits_len ((natL bs).take k)
        rw [List.length_take, natL_len, Nat.min_eq_left (by omega)] at hll
        clear hcell hw1 hb1 hB1
        obtain ⟨y, hy⟩ := Int.eq_ofNat_of_zero_le hx.1
        rw [hy] at kx hx HT
        have hy2 : y < 256 := by omega
        rw [Int.toNat_natCast] at HT
        clear hy hx
        have e0 : IntKind.u32.wrap (y : Int) = (y : Int) := IntWalk.u32_in _ (by omega)
        by_cases hc : y < 144
        · have d3 : decide ((y : Int) < 144) = true := decide_eq_true (by omega)
          have e1 : IntKind.u32.wrap (48 + (y : Int)) = ((48 + y : Nat) : Int) := by rw [IntWalk.u32_in _ (by omega)]; omega
          have HP := Lib.hid (refCode_any g g (48 + y) 8 wr v1 _ HW1.out (by rw [List.length_append, loBits_length]; omega) (by decide) (by omega) (Nat.le_refl _))
          have HS : Hid (((natL bs).take k).flatMap litB ++ hiBits (48 + y) 8 = ((natL bs).take (k + 1)).flatMap litB) := Lib.hid (by rw [HT.out, List.flatMap_append]; simp [litB, hc])
          rw [List.append_assoc, HS.out] at HP
          clear HS
          go_wp2_with fail
          refine HP.out.mono ?_
          rintro e w2 ⟨rfl, hw2, hb2⟩
          have HW2 := Lib.hid hw2
          have HB2 := Lib.hid (HB1.out.trans hb2)
          clear hw2 hb2 HP kx
          go_wp2
          go_roundw
          case rel => exact ⟨k + 1, by go_num, by omega, HW2.out, HB2.out⟩
          case measure => simp [intOf]; omega
        · have d3 : decide ((y : Int) < 144) = false := decide_eq_false (by omega)
          obtain ⟨z, hz⟩ : ∃ z, 400 + y = z := ⟨_, rfl⟩
          have e1 : IntKind.u32.wrap (400 + (y : Int)) = (z : Int) := by rw [IntWalk.u32_in _ (by omega)]; omega
          have e2 : IntKind.u32.wrap ((z : Int) - 144) = ((z - 144 : Nat) : Int) := by rw [IntWalk.u32_in _ (by omega)]; omega
          have HP := Lib.hid (refCode_any g g (z - 144) 9 wr v1 _ HW1.out (by rw [List.length_append, loBits_length]; omega) (by decide) (by omega) (Nat.le_refl _))
          have HS : Hid (((natL bs).take k).flatMap litB ++ hiBits (z - 144) 9 = ((natL bs).take (k + 1)).flatMap litB) := Lib.hid (by rw [HT.out, List.flatMap_append, ← hz]; simp [litB, hc])
          rw [List.append_assoc, HS.out] at HP
          clear HS hz
          go_wp2_with fail
          refine HP.out.mono ?_
          rintro e w2 ⟨rfl, hw2, hb2⟩
          have HW2 := Lib.hid hw2
          have HB2 := Lib.hid (HB1.out.trans hb2)
          clear hw2 hb2 HP kx
          go_wp2
          go_roundw
          case rel => exact ⟨k + 1, by go_num, by omega, HW2.out, HB2.out⟩
          case measure => simp [intOf]; omega
      · have d2 : decide ((k : Int) < (bs.length : Int)) = false := decide_eq_false (by omega)
        obtain rfl : k = bs.length := by omega
        have ht : (natL bs).take bs.length = natL bs := List.take_of_length_le (by rw [natL_len]; exact Nat.le_refl _)
        rw [ht] at HW1
        have hll := lits_len (natL bs)
        rw [natL_len] at hll
        have HP := Lib.hid (refCode_any g g 0 7 wr v1 _ HW1.out (by rw [List.length_append, loBits_length]; omega) (by decide) (by decide) (Nat.le_refl _))
        rw [List.append_assoc] at HP
        clear hw1 hb1 hB1 ht
        go_wp2_with fail
        refine HP.out.mono ?_
        rintro e w2 ⟨rfl, ⟨v2, hw2⟩, hb2⟩
        have HB2 := Lib.hid (HB1.out.trans hb2)
        obtain ⟨l, A2, c2, rfl, hc0, hi2, hbits, hll2, hbl⟩ := hw2.read
        obtain ⟨F, hF⟩ : ∃ F, F = 70000 := ⟨_, rfl⟩
        have HX := Lib.hid (fixed_inf (F := F) (natL_small HBY.out) hbits (by rw [natL_len]; omega))
        have hl6 : l.length ≤ 6000 := by rw [hll2]; simp only [List.length_append, loBits_length, hiBits_length]; omega
        have HR := Lib.hid (iRawF A2 c2 F l.length (intL l) bs.length w2 hi2 hbl (by simp [intL]) hl6 (by omega) hF)
        rw [natL_len, ← hll2, intL_natL HBY.out] at HX
        rw [HX.out] at HR
        have HBW : Hid (Below w.heap.size w w2) := Lib.hid (by rw [hg]; exact HB2.out)
        clear hw2 hi2 hbits hll2 hbl HX HP hF hll hb2
        go_wp2_with fail
        refine HR.out.mono ?_
        rintro e w3 ⟨hB3, _, hgood⟩
        obtain ⟨⟨v3, rfl, ho3⟩, _, _, _⟩ := hgood rfl
        obtain ⟨A3, c3, rfl⟩ := ho3.shape
        simp only at ho3 ⊢
        have hcw : w3.cell? ⟨g, 0, none⟩ = some (.slice A2 l.length c2) := (hB3.cell (p := ⟨g, 0, none⟩) (World.block_lt_of_cell? w2 _ hc0)).trans hc0
        have HB3 := Lib.hid (HBW.out.trans (hB3.mono HBW.out.size))
        have hr1 : (convert 22 9 (.slice A3 bs.length c3)).run Try.prog w3 = .ok (.string (strOfNums bs)) w3 := run_str_ints 22 9 5 Try.underlying22 Try.underlying5 Try.underlying9 A3 c3 bs (OwnS.ints ho3)
        have hr2 : (convert 22 9 (.slice A bs.length c)).run Try.prog w3 = .ok (.string (strOfNums bs)) w3 := run_str_ints 22 9 5 Try.underlying22 Try.underlying5 Try.underlying9 A c bs (HI.out.below HB3.out)
        have HAW := Lib.hid (awake6_any w3)
        clear hgood hB3 ho3 HR hc0
        generalize strOfNums bs = SS at *
        go_wp2_with fail
        refine HAW.out.mono ?_
        rintro e w4 ⟨rfl, hB4⟩
        have HB4 := Lib.hid (HB3.out.trans (hB4.mono HB3.out.size))
        clear hB4 HAW
        go_wp2
        go_ret
        exact ⟨rfl, HB4.out⟩
end Go.Proofs.Ytoeipgbnjcgbjaa
