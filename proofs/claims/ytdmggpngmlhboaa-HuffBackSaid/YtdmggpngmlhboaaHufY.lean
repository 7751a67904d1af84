/- The writer of bits: Code and Bytes. -/
import Derived.Test.YtdmggpngmlhboaaHufV
namespace Go.Proofs.Ytdmggpngmlhboaa
open Go.RowKit
set_option linter.unusedVariables false
set_option linter.unusedSimpArgs false

theorem hiBits_take {v n k : Nat} (h : k < n) : (hiBits v n).take (k + 1) = (hiBits v n).take k ++ [v / 2 ^ (n - 1 - k) % 2] := by
  rw [List.take_add_one]
  unfold hiBits
  rw [List.getElem?_map, List.getElem?_range h]; rfl
theorem two_cast (n : Nat) : ((2 : Int) ^ n) = ((2 ^ n : Nat) : Int) := two_pow_cast n
set_option maxRecDepth 100000 in
set_option maxHeartbeats 4000000 in
theorem code_any (g B0 x n : Nat) (w : World) (v : Value) (ws : List Nat) (h : WH g w B0 v ws) (hlen : ws.length + n ≤ 7000000) (hn : n ≤ 32) (hx : x < 4294967296) (hB0 : B0 ≤ w.heap.size) :
    Calls Try.prog 18 #[.pointer (some ⟨g, 0, none⟩), .int .u32 x, .int .i64 n] w (PutPost g B0 w v (ws ++ hiBits x n)) := by
  have HW := Lib.hid h
  clear h
  have e0 : max (n : Int) 0 = (n : Int) := by omega
  have e1 : min (n : Int) 32 = (n : Int) := by omega
  go_enter Try.func18, Try.ntmps18
  go_upto_region 0 with (fail)
  go_cut [6] (fun v6 wx => v6 = .int .i64 ((n : Int) - 1) ∧ wx = w)
  case first =>
    go_wp2
    all_goals
      go_meet
      first
        | done
        | (refine ⟨?_, rfl⟩
           congr 1 <;> omega)
  case rest =>
    obtain ⟨rfl, rfl⟩ := hcut
    clear e0 e1
    go_wp2
    go_loopw [6] (fun iv wr => ∃ (k : Nat) (v' : Value), k ≤ n ∧ iv = .int .i64 ((n : Int) - 1 - k) ∧ WH g wr B0 v' (ws ++ (hiBits x n).take k) ∧ WLeft g wc v wr v') (fun iv _ => (intOf iv + 1).toNat)
    case atStart => exact ⟨0, v, Nat.zero_le _, by congr 1; omega, by rw [List.take_zero, List.append_nil]; exact HW.out, WLeft.refl _ _ _⟩
    case round =>
      clear HW
      obtain ⟨k, v', hk, rfl, hw, hl⟩ := hrel
      by_cases hlt : k < n
      · obtain ⟨j, hj⟩ : ∃ j : Nat, j = n - 1 - k := ⟨_, rfl⟩
        have mj : min j 32 = j := by omega
        have HLT := Lib.hid hlt
        have ej : (n : Int) - 1 - (k : Int) = (j : Int) := by omega
        have htk := hiBits_take (v := x) hlt
        rw [← hj] at htk
        obtain ⟨y, hy⟩ : ∃ y, x / 2 ^ j = y := ⟨_, rfl⟩
        have hyx : y < 4294967296 := by rw [← hy]; exact Nat.lt_of_le_of_lt (Nat.div_le_self _ _) hx
        have eyi : (x : Int) / 2 ^ j = (y : Int) := by rw [two_cast, ← hy]; simp
        rw [hy] at htk
        rw [ej]
        obtain ⟨B, r, hrep, hho⟩ := hw
        have hBl : B.length ≤ 1000000 := by
          have h1 := hho.len
          rw [List.length_append, List.length_take, hiBits_length] at h1
          omega
        have hp := put_any g B0 y wr v' B r _ hrep hho hBl hyx (Nat.le_trans hB0 hl.chg.size)
        rw [List.append_assoc, ← htk] at hp
        have HL := Lib.hid hl
        have HJ := Lib.hid hj
        clear hrep hho hBl htk hl hj hy ej
        have j0 : (0 : Int) ≤ (j : Int) := by omega
        have j1 : decide ((0 : Int) ≤ (j : Int)) = true := decide_eq_true j0
        clear hk hlt
        go_wp2_with fail
        refine hp.mono ?_
        rintro e w2 ⟨rfl, v2, hw2, hl2⟩
        have HW2 := Lib.hid hw2
        have HL2 := Lib.hid hl2
        clear hp hw2 hl2
        go_wp2
        go_roundw
        case rel => exact ⟨k + 1, v2, by have := HLT.out; omega, by congr 1; have := HJ.out; have := HLT.out; omega, HW2.out, HL.out.trans HL2.out⟩
        case measure => simp [intOf]
      · obtain rfl : k = n := by omega
        have ht : (hiBits x k).take k = hiBits x k := List.take_of_length_le (by rw [hiBits_length]; exact Nat.le_refl _)
        rw [ht] at hw
        have em : (k : Int) - 1 - (k : Int) = -1 := by omega
        rw [em]
        have HW := Lib.hid hw
        have HL := Lib.hid hl
        clear hw hl ht em
        go_wp2
        go_end0
        exact ⟨rfl, v', HW.out, HL.out⟩
def BytesPost (w : World) (bs : List Nat) (e : Ending) (w' : World) : Prop :=
  ∃ A c, e = .returned (.slice A bs.length c) ∧ Ints .u8 w' A (bs.map fun (x : Nat) => (x : Int)) ∧ Below w.heap.size w w'
set_option maxRecDepth 100000 in
set_option maxHeartbeats 4000000 in
theorem wbytes_any (g B0 : Nat) (w : World) (v : Value) (B r ws : List Nat) (h : WRep g w B0 v B r) (hh : Holds B r ws) (hB : B.length ≤ 1000000) :
    Calls Try.prog 20 #[.pointer (some ⟨g, 0, none⟩)] w (BytesPost w (bytesB B r)) := by
  obtain ⟨i0, hi, hz0, hz1, hz2⟩ := info_parts Try.info_u8
  obtain ⟨A, c, rfl⟩ := h.row.shape
  have hr8 := hh.r8
  have hv := valB_lt r hh.r01
  have hp8 : 2 ^ r.length ≤ 2 ^ 8 := Nat.pow_le_pow_right (by decide) (by omega)
  have hx := (h.row : OwnS w B0 5 1 (.slice A B.length c) B.length _)
  have hin : Ints .u8 w A (B.map fun (x : Nat) => (x : Int)) := OwnS.ints (by rw [List.map_map]; exact hx)
  have hsrc := Src.ints (P := Try.prog) (c := c) hin
  rw [List.length_map, List.map_map] at hsrc
  have c0 := h.cel.cell 0 (by decide)
  have c1 := h.cel.cell 1 (by decide)
  have c2 := h.cel.cell 2 (by decide)
  simp only [wF] at c0 c1 c2
  have hbs : bytesB B r = if r = [] then B else B ++ [valB r] := rfl
  have hr0 : r = [] ↔ r.length = 0 := ⟨fun h => by rw [h]; rfl, fun h => List.eq_nil_of_length_eq_zero h⟩
  have hgw : g < w.heap.size := h.cel.blk
  obtain ⟨nB, hnB⟩ : ∃ n, B.length = n := ⟨_, rfl⟩
  obtain ⟨lr, hlr⟩ : ∃ n, r.length = n := ⟨_, rfl⟩
  obtain ⟨vr, hvr⟩ : ∃ n, valB r = n := ⟨_, rfl⟩
  rw [hnB] at c0 hsrc hB
  rw [hlr] at c2 hr8 hr0 hp8 hv
  rw [hvr] at c1 hv hbs
  have hv8 : vr < 256 := by omega
  have HBS := Lib.hid hbs
  have HR0 := Lib.hid hr0
  have HNB := Lib.hid hnB
  have HSRC := Lib.hid hsrc
  have hmx1 : 0 + nB ≤ maxLen := by unfold maxLen; omega
  have hmx2 : (0 + nB) * 1 ≤ 140737488355328 := by omega
  clear h hh hx hin hbs hr0 hnB hlr hvr hsrc hv hp8
  go_enter Try.func20, Try.ntmps20
  go_upto_region 2 with (at_builtin; go_loud (refine wpList_append_S rfl (.const (.slice none 0 0)) (.tmp 7) 39 39 rfl i0 (.int .u8 0) 1 (.slice 5) Try.underlying39 Try.underlying39 (fun _ h => by cases h) hi hz0 hz1 hz2 rfl rfl rfl (OwnS.nil w w.heap.size 5 1) HSRC.out hmx1 hmx2 (Nat.le_refl _) ?_); intro A5 c5 w5 ho5 hg5 hw5)
  rw [Nat.zero_add, List.nil_append] at ho5
  have hb5 : Below w.heap.size w w5 := (Below.refl _ _).grown hg5 (Nat.le_refl _) (fun k h => by cases h)
  have d1 := (hb5.cell (p := ⟨g, 1, none⟩) hgw).trans c1
  have d2 := (hb5.cell (p := ⟨g, 2, none⟩) hgw).trans c2
  have hcap := ho5.cap
  have HO5 := Lib.hid ho5
  have HB5 := Lib.hid hb5
  clear ho5 hb5 hg5 hw5 c0 c1 c2
  by_cases h0 : lr = 0
  · have g1 : decide ((0 : Int) < (lr : Int)) = false := decide_eq_false (by omega)
    have g2 : decide (0 < lr) = false := decide_eq_false (by omega)
    have H0 := Lib.hid h0
    clear h0
    go_wp2
    go_ret
    have hb0 : bytesB B r = B := by rw [HBS.out, if_pos (HR0.out.2 H0.out)]
    refine ⟨A5, nB, by rw [hb0, HNB.out]; rfl, ?_, HB5.out⟩
    rw [hb0]
    exact OwnS.ints (c := c5) (n := nB) (e := 5) (base := w.heap.size) (by rw [List.map_map]; exact HO5.out)
  · have g1 : decide ((0 : Int) < (lr : Int)) = true := decide_eq_true (by omega)
    have g2 : decide (0 < lr) = true := decide_eq_true (by omega)
    have H0 := Lib.hid h0
    have hmx3 : nB + 1 ≤ maxLen := by unfold maxLen; omega
    have hmx4 : (nB + 1) * 1 ≤ 140737488355328 := by omega
    have hwv : IntKind.u8.wrap (vr : Int) = (vr : Int) := by show (vr : Int) % 256 = _; omega
    have hro := HO5.out.alloc (.cells #[.int .u8 (vr : Int)] 5)
    have hsr := Src.one_new (P := Try.prog) (w := w5) (u := .int .u8 (vr : Int)) (t := 5) rfl
    have hb6 : Below w.heap.size w (w5.alloc (.cells #[.int .u8 (vr : Int)] 5)) := HB5.out.alloc HB5.out.size _
    have hz6 := hb6.size
    have HRO := Lib.hid hro
    have HSR := Lib.hid hsr
    have HB6 := Lib.hid hb6
    clear h0 hro hsr hb6
    go_wp2_with (at_builtin; refine wpList_append_S rfl (.tmp 14) (.tmp 20) 39 39 rfl i0 (.int .u8 0) 1 (.slice 5) Try.underlying39 Try.underlying39 (fun _ h => by cases h) hi hz0 hz1 hz2 rfl rfl rfl HRO.out HSR.out hmx3 hmx4 hz6 ?_; intro A9 c9 w9 ho9 hg9 hw9; have hcap9 := ho9.cap; have hlow9 : ∀ q, (Value.slice A5 nB c5).ownBlock = some q → w.heap.size ≤ q := fun q hq => (HO5.out.lt q hq).1; have HO9 := Lib.hid ho9; have HB9 := Lib.hid (HB6.out.trans ((Chg.of_grown (S := fun q => (Value.slice A5 nB c5).ownBlock = some q) hg9 (fun _ h => h)).below hz6 (fun q hq hs => by have := hlow9 q hs; omega))); clear ho9 hg9 hw9 hlow9)
    go_ret
    have hb0 : bytesB B r = B ++ [vr] := by rw [HBS.out, if_neg (fun h => H0.out (HR0.out.1 h))]
    refine ⟨A9, nB + 1, by rw [hb0, List.length_append, HNB.out]; rfl, ?_, HB9.out⟩
    rw [hb0]
    exact OwnS.ints (c := c9) (n := nB + 1) (e := 5) (base := w.heap.size) (by rw [List.map_map, List.map_append]; exact HO9.out)
end Go.Proofs.Ytdmggpngmlhboaa
