/- Small functions that Build needs: Hash, Zero. -/
import Derived.Test.YtndjebddgnmpfaaIdxA
import Derived.Test.YtndjebddgnmpfaaSumUnhex
import Derived.Test.YtndjebddgnmpfaaSumRefU
import Derived.Test.YtndjebddgnmpfaaSoZ
import Derived.Test.YtndjebddgnmpfaaBuf
import Derived.Lib.AppendZeros
import Derived.Test.YtndjebddgnmpfaaIdxC
namespace Go.Proofs.Ytndjebddgnmpfaa
open Go.RowKit
set_option linter.unusedVariables false
set_option linter.unusedSimpArgs false

/-- Is a text a hash? -/
def hashB (l : List Int) : Bool := unOk l && decide ((unV l).length = 20)
set_option maxRecDepth 100000 in
theorem hash_any (s : ByteArray) (w : World) (hsz : s.size ≤ 140737488355328) : Calls Try.prog 24 #[.string s] w fun e w' => e = .returned (.bool (hashB (bytesOf s))) ∧ Below w.heap.size w w' := by
  have HU := Lib.hid (unhex_any s w hsz)
  go_enter Try.func24, Try.ntmps24
  go_wp2_with fail
  refine HU.out.mono ?_
  rintro e w1 ⟨A, c, rfl, hI, hb⟩
  have HB := Lib.hid hb
  have HH : Hid (hashB (bytesOf s) = (unOk (bytesOf s) && decide ((unV (bytesOf s)).length = 20))) := rfl
  generalize unV (bytesOf s) = V at *
  clear hI hb HU
  cases ho : unOk (bytesOf s)
  · rw [ho] at HH
    clear ho
    go_wp2
    go_ret
    exact ⟨by rw [HH.out]; rfl, HB.out⟩
  · rw [ho] at HH
    clear ho
    by_cases h : V.length = 20
    · have d1 : ((V.length : Int) == 20) = true := by rw [beq_iff_eq]; omega
      rw [decide_eq_true h] at HH
      clear h
      go_wp2
      go_ret
      exact ⟨by rw [HH.out]; rfl, HB.out⟩
    · have d1 : ((V.length : Int) == 20) = false := by rw [beq_eq_false_iff_ne]; omega
      rw [decide_eq_false h] at HH
      clear h
      go_wp2
      go_ret
      exact ⟨by rw [HH.out]; rfl, HB.out⟩
set_option maxRecDepth 100000 in
theorem hashR_any (s : ByteArray) (w : World) (hsz : s.size ≤ 140737488355328) : Calls Try.prog 33 #[.string s] w fun e w' => e = .returned (.bool (hashB (bytesOf s))) ∧ Below w.heap.size w w' := by
  have HU := Lib.hid (unhexR_any s w hsz)
  go_enter Try.func33, Try.ntmps33
  go_wp2_with fail
  refine HU.out.mono ?_
  rintro e w1 ⟨A, c, rfl, hI, hb⟩
  have HB := Lib.hid hb
  have HH : Hid (hashB (bytesOf s) = (unOk (bytesOf s) && decide ((unV (bytesOf s)).length = 20))) := rfl
  generalize unV (bytesOf s) = V at *
  clear hI hb HU
  cases ho : unOk (bytesOf s)
  · rw [ho] at HH
    clear ho
    go_wp2
    go_ret
    exact ⟨by rw [HH.out]; rfl, HB.out⟩
  · rw [ho] at HH
    clear ho
    by_cases h : V.length = 20
    · have d1 : ((V.length : Int) == 20) = true := by rw [beq_iff_eq]; omega
      rw [decide_eq_true h] at HH
      clear h
      go_wp2
      go_ret
      exact ⟨by rw [HH.out]; rfl, HB.out⟩
    · have d1 : ((V.length : Int) == 20) = false := by rw [beq_eq_false_iff_ne]; omega
      rw [decide_eq_false h] at HH
      clear h
      go_wp2
      go_ret
      exact ⟨by rw [HH.out]; rfl, HB.out⟩
def zeroS : ByteArray := strOfNums (List.replicate 40 48)
set_option maxRecDepth 100000 in
theorem zero_any (w : World) : Calls Try.prog 32 #[] w fun e w' => e = .returned (.string zeroS) ∧ w = w' := by
  have h : zeroS = ⟨#[48, 48, 48, 48, 48, 48, 48, 48, 48, 48, 48, 48, 48, 48, 48, 48, 48, 48, 48, 48, 48, 48, 48, 48, 48, 48, 48, 48, 48, 48, 48, 48, 48, 48, 48, 48, 48, 48, 48, 48]⟩ := by kernel_rfl
  rw [h]
  clear h
  go_enter Try.func32, Try.ntmps32
  go_wp2
  go_ret
  exact ⟨rfl, rfl⟩
/-- The last four bytes of a number. -/
def beI (n : Int) : List Int := [n / 16777216 % 256, n / 65536 % 256, n / 256 % 256, n % 256]
theorem beI_be4 (n : Int) (h0 : 0 ≤ n) (h1 : n < 4294967296) : beI n = be4 n := by
  unfold beI be4
  rw [show n / 16777216 % 256 = n / 16777216 by omega]
set_option maxHeartbeats 400000 in
set_option maxRecDepth 100000 in
theorem ifour_any (v : Value) (k : Nat) (xs : List Value) (base : Nat) (n : Int) (w : World) (hown : OwnS w base 5 1 v k xs) (h0 : 0 ≤ n) (h1 : n < 9223372036854775808) (hk : k ≤ 140737488355000) (hb : base ≤ w.heap.size) :
    Calls Try.prog 26 #[v, .int .i64 n] w (AppPost w base 5 v k xs ((beI n).map (Value.int .u8))) := by
  obtain ⟨i0, hi, hz0, hz1, hz2⟩ := info_parts Try.info_u8
  obtain ⟨A, c, rfl⟩ := hown.shape
  have w1 : IntKind.u8.wrap (n / 16777216) = n / 16777216 % 256 := IntKind.wrap_u8' _
  have w2 : IntKind.u8.wrap (n / 65536) = n / 65536 % 256 := IntKind.wrap_u8' _
  have w3 : IntKind.u8.wrap (n / 256) = n / 256 % 256 := IntKind.wrap_u8' _
  have w4 : IntKind.u8.wrap n = n % 256 := IntKind.wrap_u8' _
  go_enter Try.func26, Try.ntmps26
  go_wp2_with (at_builtin; refine wpList_append_S rfl (.tmp 5) (.tmp 17) 24 24 rfl i0 (.int .u8 0) 1 (.slice 5) Try.underlying24 Try.underlying24 (fun _ h => by cases h) hi hz0 hz1 hz2 rfl rfl rfl (hown.alloc _) (Src.new (us := (beI n).map (Value.int .u8)) rfl (ints_oneCell .u8 (beI n))) ?_ ?_ ?_ ?_; (simp only [beI, List.length_map, List.length_cons, List.length_nil]; unfold maxLen; omega); (simp only [beI, List.length_map, List.length_cons, List.length_nil]; omega); (simp; omega); intro A' c' w' ho hg hw)
  go_ret
  refine ⟨A', c', rfl, ho, grownBy_trans (World.grownBy_alloc w _ _) hg, ?_⟩
  rcases hw with h | h
  · exact .inl h
  · exact .inr ⟨_, h, by simp⟩

end Go.Proofs.Ytndjebddgnmpfaa
namespace Go.Proofs.Ytndjebddgnmpfaa
open Go.RowKit
set_option linter.unusedVariables false
set_option linter.unusedSimpArgs false

set_option maxRecDepth 100000 in
theorem cloneNil_any (c : Nat) (w : World) : Calls Try.prog 20 #[.slice none 0 c] w fun e w' => e = .returned (.slice none 0 0) ∧ w = w' := by
  have he0 := fun (W : World) => Lib.run_eql_slice_nil (P := Try.prog) W 23 30 none 0 c 0 0 Try.underlying23
  go_enter Try.func20, Try.ntmps20
  go_wp2
  go_ret
  exact ⟨rfl, rfl⟩
set_option maxRecDepth 100000 in
theorem insNil_any (fv : Value) (w : World) : Calls Try.prog 52 #[.slice none 0 0, .int .i64 0, .int .i64 0, fv] w fun e w' => e = .returned (.tuple #[]) ∧ w = w' := by
  go_enter Try.func52, Try.ntmps52
  go_wp2
  go_loopw [8] (fun a wr => a = .int .i64 1 ∧ wr = w) (fun _ _ => 0)
  case atStart => exact ⟨rfl, rfl⟩
  case round =>
    obtain ⟨rfl, rfl⟩ := hrel
    go_wp2
    go_end0
    exact ⟨rfl, rfl⟩
set_option maxRecDepth 100000 in
theorem stableNil_any (fv : Value) (w : World) : Calls Try.prog 44 #[.slice none 0 0, .int .i64 0, fv] w fun e w' => e = .returned (.tuple #[]) ∧ w = w' := by
  go_enter Try.func44, Try.ntmps44
  go_wp2
  go_loopw [7, 8] (fun a b wr => a = .int .i64 0 ∧ b = .int .i64 20 ∧ wr = w) (fun _ _ _ => 0)
  case atStart => exact ⟨rfl, rfl, rfl⟩
  case round =>
    obtain ⟨rfl, rfl, rfl⟩ := hrel
    go_wp2_with fail
    refine (insNil_any fv _).mono ?_
    rintro e w5 ⟨rfl, rfl⟩
    obtain ⟨w0, hw0⟩ : ∃ w0 : World, wr = w0 := ⟨_, rfl⟩
    go_wp2
    go_loopw [7, 8, 6] (fun _ _ c wr => c = .int .i64 20 ∧ wr = w0) (fun _ _ _ _ => 0)
    case atStart => exact ⟨rfl, rfl⟩
    case round =>
      obtain ⟨rfl, rfl⟩ := hrel
      go_wp2
      go_end0
      exact ⟨rfl, hw0⟩
end Go.Proofs.Ytndjebddgnmpfaa
namespace Go.Proofs.Ytndjebddgnmpfaa
open Go.RowKit
set_option linter.unusedVariables false
set_option linter.unusedSimpArgs false

set_option maxRecDepth 100000 in
set_option maxHeartbeats 2000000 in
theorem grow_bytes (n : Nat) (w : World) (hn : n ≤ 140737488355328) :
    Calls Try.prog 47 #[.slice none 0 0, .int .i64 n] w fun e w' => ∃ A c, e = .returned (.slice A 0 c) ∧ OwnS w' w.heap.size 5 1 (.slice A 0 c) 0 [] ∧ Below w.heap.size w w' := by
  obtain ⟨i0, hi, hz0, hz1, hz2⟩ := info_parts Try.info_u8
  have h0 : ¬ ((n : Int) < 0) := by omega
  by_cases hp : 0 < n
  · have hr := Lib.run_append_nil_zeros (P := Try.prog) w 24 3 24 5 i0 _ .i64 .i64 Try.underlying24 Try.underlying3 hi hz0 n hp (by rw [hz1]; decide) (by omega) (by rw [hz2]; omega)
    have hcap := grownCap_ge w n 0 5
    have hcm := grownCap_le_maxLen w n 0 5 (by unfold maxLen; omega)
    have hsz : (Builtin.zeroCells (Value.int .u8 0).cells n ++ Builtin.zeroCells (Value.int .u8 0).cells (grownCap w n 0 5 - n)).size = grownCap w n 0 5 * 1 := by
      simp only [Array.size_append, size_zeroCells]
      show n * 1 + (grownCap w n 0 5 - n) * 1 = _
      rw [← Nat.add_mul]
      congr 1
      omega
    generalize Builtin.zeroCells (Value.int .u8 0).cells n ++ Builtin.zeroCells (Value.int .u8 0).cells (grownCap w n 0 5 - n) = cs at *
    generalize grownCap w n 0 5 = c at *
    have HR := Lib.hid hr
    have HSZ := Lib.hid hsz
    have HCM := Lib.hid hcm
    clear hr hsz hi hz0 hz1 hz2 hcm
    go_enter Try.func47, Try.ntmps47
    go_wp2_with (at_builtin; refine Lib.wpList_append_run _ rfl (.tmp 20) (.tmp 21) _ _ rfl _ _ rfl rfl _ _ HR.out ?_)
    go_ret
    refine ⟨_, _, rfl, ⟨rfl, .inr ⟨w.heap.size, 0, c, cs, rfl, Nat.le_refl _, ⟨(0, 0), by first | exact heap_alloc_new w.drew _ | exact heap_alloc_new w _, .inl (Nat.le_refl _)⟩, Nat.zero_le _, HCM.out, ?_, ?_⟩⟩, by first | exact ((Below.refl _ _).drew).alloc (Nat.le_refl _) _ | exact ((Below.refl _ _).alloc (Nat.le_refl _) _).drew⟩
    · rw [HSZ.out]; omega
    · simp
  · obtain rfl : n = 0 := by omega
    go_enter Try.func47, Try.ntmps47
    go_wp2
    go_ret
    exact ⟨none, 0, rfl, OwnS.nil _ _ _ _, Below.refl _ _⟩
/-- The slices of a row, one behind the other. -/
def flatR (R : List (Option Addr × Nat × List Int)) : List Int := R.flatMap fun r => r.2.2
theorem flatR_succ {R : List (Option Addr × Nat × List Int)} {j : Nat} {A : Option Addr} {c : Nat} {xs : List Int} (h : R[j]? = some (A, c, xs)) : flatR (R.take (j + 1)) = flatR (R.take j) ++ xs := by
  unfold flatR
  rw [List.take_add_one, h, List.flatMap_append]
  simp
theorem flatR_le (R : List (Option Addr × Nat × List Int)) (j : Nat) : (flatR (R.take j)).length ≤ (flatR R).length := by
  have h := congrArg List.length (show flatR (R.take j) ++ flatR (R.drop j) = flatR R by unfold flatR; rw [← List.flatMap_append, List.take_append_drop])
  rw [List.length_append] at h
  omega
set_option maxRecDepth 100000 in
set_option maxHeartbeats 4000000 in
theorem concat_bytes (bb oo cc m n : Nat) (R : List (Option Addr × Nat × List Int)) (w : World) (hm : R.length = m) (hcell : ∀ (j : Nat) (A : Option Addr) (c : Nat) (xs : List Int), R[j]? = some (A, c, xs) → w.cell? ⟨bb, oo + j, none⟩ = some (.slice A xs.length c) ∧ Ints .u8 w A xs) (hbb : bb < w.heap.size) (hn : (flatR R).length = n) (hsz : n ≤ 140737488355328) (hmb : m ≤ 1000000) :
    Calls Try.prog 27 #[.slice (some ⟨bb, oo, none⟩) m cc] w fun e w' => ∃ A c, e = .returned (.slice A n c) ∧ OwnS w' w.heap.size 5 1 (.slice A n c) n ((flatR R).map (Value.int .u8)) ∧ Below w.heap.size w w' := by
  obtain ⟨i0, hi, hz0, hz1, hz2⟩ := info_parts Try.info_u8
  have HM := Lib.hid hm
  have HCELL := Lib.hid hcell
  have HN := Lib.hid hn
  have hg := Lib.hid (grow_bytes n w hsz)
  clear hm hcell hn
  go_enter Try.func27, Try.ntmps27
  go_wp2
  go_loopw [3, 11] (fun t k wr => ∃ j tn : Nat, j ≤ m ∧ k = .int .i64 j ∧ t = .int .i64 tn ∧ Hid (tn = (flatR (R.take j)).length) ∧ Below w.heap.size w wr) (fun _ k _ => m - (intOf k).toNat)
  case atStart => exact ⟨0, 0, Nat.zero_le _, rfl, rfl, rfl, Below.refl _ _⟩
  case round =>
    obtain ⟨j, tn, hj, rfl, rfl, HT, hb⟩ := hrel
    have hle : tn ≤ n := by have := flatR_le R j; rw [← HT.out, HN.out] at this; exact this
    by_cases hlt : j < m
    · have d1 : decide ((j : Int) < (m : Int)) = true := decide_eq_true (by omega)
      have d1' : decide (j < m) = true := decide_eq_true hlt
      obtain ⟨⟨A, c, xs⟩, hr⟩ : ∃ r, R[j]? = some r := ⟨_, List.getElem?_eq_getElem (by rw [HM.out]; exact hlt)⟩
      have hc := (HCELL.out j A c xs hr).1
      have hc2 := (hb.cell (p := ⟨bb, oo + j, none⟩) hbb).trans hc
      have hnx := flatR_succ hr
      have hle2 := flatR_le R (j + 1)
      rw [HN.out, hnx, List.length_append, ← HT.out] at hle2
      have s1 : IntKind.i64.wrap ((tn : Int) + (xs.length : Int)) = ((tn + xs.length : Nat) : Int) := by rw [IntWalk.i64_in _ (by omega)]; omega
      have s2 : IntKind.i64.wrap ((j : Int) + 1) = ((j + 1 : Nat) : Int) := by rw [IntWalk.i64_in _ (by omega)]; omega
      have p0 : decide (((tn + xs.length : Nat) : Int) < 0) = false := decide_eq_false (by omega)
      have HNX : Hid (tn + xs.length = (flatR (R.take (j + 1))).length) := Lib.hid (by rw [hnx, List.length_append, ← HT.out])
      have HB := Lib.hid hb
      clear hc hnx hr hle2 hb HT
      generalize xs.length = xl at *
      go_wp2
      go_roundw
      case rel => exact ⟨j + 1, tn + xl, by omega, rfl, by go_num, HNX, HB.out⟩
      case measure => simp [intOf]; omega
    · have d1 : decide ((j : Int) < (m : Int)) = false := decide_eq_false (by omega)
      have d1' : decide (j < m) = false := decide_eq_false hlt
      obtain rfl : j = m := by omega
      obtain rfl : tn = n := by rw [HT.out, List.take_of_length_le (by rw [HM.out]; exact Nat.le_refl _), HN.out]
      have HB := Lib.hid hb
      clear hb HT
      go_wp2_with fail
      refine (grow_bytes tn wr hsz).mono ?_
      rintro e w3 ⟨A3, c3, rfl, ho3, hb3⟩
      have HO3 := Lib.hid (ho3.base_ HB.out.size)
      have HB3 := Lib.hid (HB.out.trans (hb3.mono HB.out.size))
      clear ho3 hb3 hg
      go_wp2
      go_loopw [6, 27] (fun v k wr => ∃ q : Nat, q ≤ j ∧ k = .int .i64 q ∧ OwnS wr w.heap.size 5 1 v (flatR (R.take q)).length ((flatR (R.take q)).map (Value.int .u8)) ∧ Below w.heap.size w wr) (fun _ k _ => j - (intOf k).toNat)
      case atStart => exact ⟨0, Nat.zero_le _, rfl, HO3.out, HB3.out⟩
      case round =>
        clear HO3 HB3 HB
        obtain ⟨q, hq, rfl, ho, hb⟩ := hrel
        by_cases hlt : q < j
        · have d1 : decide ((q : Int) < (j : Int)) = true := decide_eq_true (by omega)
          have d1' : decide (q < j) = true := decide_eq_true hlt
          obtain ⟨⟨A, c, xs⟩, hr⟩ : ∃ r, R[q]? = some r := ⟨_, List.getElem?_eq_getElem (by rw [HM.out]; exact hlt)⟩
          obtain ⟨hc, hI⟩ := HCELL.out q A c xs hr
          have hc2 := (hb.cell (p := ⟨bb, oo + q, none⟩) hbb).trans hc
          have hI2 := hI.below (hb.mono (Nat.le_refl _))
          have hnx := flatR_succ hr
          have hle2 := flatR_le R (q + 1)
          rw [HN.out, hnx, List.length_append] at hle2
          have hs := Src.ints (P := Try.prog) (c := c) hI2
          obtain ⟨Ax, cx, rfl⟩ := ho.shape
          have hm1 : (flatR (R.take q)).length + xs.length ≤ maxLen := by unfold maxLen; omega
          have hm2 : ((flatR (R.take q)).length + xs.length) * 1 ≤ 140737488355328 := by omega
          have hsz2 := hb.size
          have HB := Lib.hid hb
          have HNX := Lib.hid hnx
          have s2 : IntKind.i64.wrap ((q : Int) + 1) = ((q + 1 : Nat) : Int) := by rw [IntWalk.i64_in _ (by omega)]; omega
          clear hb hnx hc hI hI2 hle2 hr
          go_wp2_with (at_builtin; refine wpList_append_S rfl (.tmp 31) (.tmp 32) 24 24 rfl i0 _ 1 (.slice 5) Try.underlying24 Try.underlying24 (fun _ h => by cases h) hi hz0 hz1 hz2 rfl rfl rfl ho hs hm1 hm2 hsz2 ?_; intro A9 c9 w9 ho9 hg9 hw9)
          go_roundw
          case rel =>
            refine ⟨q + 1, by omega, by go_num, ?_, HB.out.trans ((Chg.of_grown (S := fun k => (Value.slice Ax (flatR (R.take q)).length cx).ownBlock = some k) hg9 (fun _ h => h)).below hsz2 (fun k hk hs => by have := (ho.lt k hs).1; omega))⟩
            rw [HNX.out, List.length_append, List.map_append]
            exact ho9
          case measure => simp [intOf]; omega
        · have d1 : decide ((q : Int) < (j : Int)) = false := decide_eq_false (by omega)
          have d1' : decide (q < j) = false := decide_eq_false hlt
          obtain rfl : q = j := by omega
          rw [List.take_of_length_le (by rw [HM.out]; exact Nat.le_refl _), HN.out] at ho
          obtain ⟨Ax, cx, rfl⟩ := ho.shape
          have HB := Lib.hid hb
          have HO := Lib.hid ho
          clear hb ho
          go_wp2
          go_ret
          exact ⟨_, _, rfl, HO.out, HB.out⟩
end Go.Proofs.Ytndjebddgnmpfaa
namespace Go.Proofs.Ytndjebddgnmpfaa
open Go.RowKit
set_option linter.unusedVariables false
set_option linter.unusedSimpArgs false

/-- A row of objects that reads as these. -/
def ObE (w : World) (A : Option Addr) (L : List El) : Prop :=
  0 < L.length → ∃ g o, A = some ⟨g, o, none⟩ ∧ g < w.heap.size ∧ ∀ (i c : Nat) (x : El), L[i]? = some x → c < 5 → w.cell? ⟨g, o + i * 5 + c, none⟩ = (encE x)[c]?
theorem ObE.below {w w' : World} {A : Option Addr} {L : List El} (h : ObE w A L) (hb : Below w.heap.size w w') : ObE w' A L := fun hl => by
  obtain ⟨g, o, h1, h2, h3⟩ := h hl
  exact ⟨g, o, h1, Nat.lt_of_lt_of_le h2 hb.size, fun i c x hx hc => (hb.cell (p := ⟨g, o + i * 5 + c, none⟩) h2).trans (h3 i c x hx hc)⟩
theorem encE_one (L : List El) : ∀ u ∈ L.flatMap encE, u.oneCell' = true := by
  intro u hu
  obtain ⟨x, _, hx⟩ := List.mem_flatMap.1 hu
  simp only [encE, List.mem_cons, List.not_mem_nil, or_false] at hx
  rcases hx with rfl | rfl | rfl | rfl | rfl <;> rfl
theorem flat_div (L : List El) (j : Nat) (u : Value) (h : (L.flatMap encE)[j]? = some u) : ∃ x, L[j / 5]? = some x ∧ (encE x)[j % 5]? = some u := by
  have hl := flat_length encE_len L
  have hj : j < L.length * 5 := by rw [← hl]; exact (List.getElem?_eq_some_iff.1 h).1
  have hd : j / 5 < L.length := by omega
  refine ⟨L[j / 5], List.getElem?_eq_getElem hd, ?_⟩
  have := flat_at encE_len L (j / 5) (j % 5) L[j / 5] (List.getElem?_eq_getElem hd) (by omega)
  rw [show j / 5 * 5 + j % 5 = j by omega, h] at this
  exact this.symm
theorem Src.objs {P : Program} {w : World} {A : Option Addr} {n c : Nat} {L : List El} (h : ObE w A L) (hn : L.length = n) : Src P w 5 (.slice A n c) n (L.flatMap encE) := by
  refine Src.vals (by rw [flat_length encE_len, hn]) (encE_one L) (fun hl => ?_)
  rw [flat_length encE_len] at hl
  obtain ⟨g, o, rfl, hg, hc⟩ := h (by omega)
  refine ⟨_, rfl, fun j u hj => ?_⟩
  obtain ⟨x, hx, hu⟩ := flat_div L j u hj
  rw [Addr.add_lit]
  have := hc (j / 5) (j % 5) x hx (by omega)
  rw [show o + j / 5 * 5 + j % 5 = o + j by omega] at this
  rw [this, hu]
/-- What a row of the call's own holds reads as objects. -/
theorem ObE.of_own {w : World} {b n c : Nat} {A : Option Addr} {L : List El} (h : OwnS w b 30 5 (.slice A n c) n (L.flatMap encE)) : ObE w A L := fun hl => by
  have hf := flat_length encE_len L
  obtain ⟨g, off, c', hv, _, hlt, hcell⟩ := h.cells (by rw [hf]; omega)
  injection hv with hA _ _
  refine ⟨g, off, hA, hlt, fun i cc x hx hcc => ?_⟩
  have hi := (List.getElem?_eq_some_iff.1 hx).1
  rw [Nat.add_assoc, hcell _ (by rw [hf]; omega), flat_at encE_len L i cc x hx hcc]
theorem own_len {w : World} {b n : Nat} {v : Value} {L : List El} (h : OwnS w b 30 5 v n (L.flatMap encE)) : L.length = n := by
  have h1 := h.1
  rw [flat_length encE_len] at h1
  omega
theorem SRow.of_own5 {w : World} {b n : Nat} {v : Value} {L : List El} (h : OwnS w b 30 5 v n (L.flatMap encE)) (hv : v ≠ .slice none 0 0) : ∃ g off c, v = .slice (some ⟨g, off, none⟩) n c ∧ b ≤ g ∧ SRow w 30 5 encE g off c L := by
  have hl := own_len h
  rcases h.2 with ⟨rfl, _⟩ | ⟨g, off, c, cur, rfl, hb, rest⟩
  · exact absurd rfl hv
  · refine ⟨g, off, c, rfl, hb, ⟨?_, encE_len⟩⟩
    rw [hl]
    exact OwnS.base_ ⟨h.1, .inr ⟨g, off, c, cur, rfl, hb, rest⟩⟩ (Nat.zero_le _)
theorem SRow.own5 {w : World} {g off cap B n : Nat} {L : List El} (h : SRow w 30 5 encE g off cap L) (hB : B ≤ g) (hn : L.length = n) : OwnS w B 30 5 (.slice (some ⟨g, off, none⟩) n cap) n (L.flatMap encE) := by
  subst hn
  have := h.own
  refine ⟨this.1, ?_⟩
  rcases this.2 with hn | ⟨g', off', cap', cur, hv, _, rest⟩
  · exact absurd hn.1 (by simp)
  · injection hv with hA _ hc
    injection hA with hA
    injection hA with h1 h2
    subst h1; subst h2; subst hc
    exact .inr ⟨g, off, cap, cur, rfl, hB, rest⟩
/-- What Clone of objects tells: a row of its own. -/
def ClPost (W : World) (N : Nat) (L : List El) (e : Ending) (w' : World) : Prop :=
  ∃ v, e = .returned v ∧ OwnS w' W.heap.size 30 5 v N (L.flatMap encE) ∧ Below W.heap.size W w'
set_option maxRecDepth 100000 in
set_option maxHeartbeats 4000000 in
theorem cloneObj_any (A : Option Addr) (N c : Nat) (L : List El) (w : World) (hO : ObE w A L) (hN : L.length = N) (hA : A = none → N = 0) (hsz : N ≤ 2199023255552) :
    Calls Try.prog 20 #[.slice A N c] w (ClPost w N L) := by
  cases A with
  | none =>
    obtain rfl := hA rfl
    obtain rfl : L = [] := List.eq_nil_of_length_eq_zero hN
    refine (cloneNil_any c w).mono ?_
    rintro e w' ⟨rfl, rfl⟩
    exact ⟨_, rfl, OwnS.nil _ _ _ _, Below.refl _ _⟩
  | some a =>
    obtain ⟨i0, hi, hz0, hz1, hz2⟩ := info_parts info_obj
    have he0 := fun (W : World) => Lib.run_eql_slice_nil (P := Try.prog) W 23 30 (some a) N c 0 0 Try.underlying23
    have hbl : Below w.heap.size w (w.alloc (.cells #[] 30)) := (Below.refl _ _).alloc (Nat.le_refl _) _
    have hs : Src Try.prog (w.alloc (.cells #[] 30)) 5 (.slice (some a) N c) N (L.flatMap encE) := Src.objs (hO.below hbl) hN
    have ho : OwnS (w.alloc (.cells #[] 30)) w.heap.size 30 5 (.slice (some ⟨w.heap.size, 0, none⟩) 0 0) 0 [] :=
      ⟨by simp, .inr ⟨w.heap.size, 0, 0, #[], rfl, Nat.le_refl _, ⟨_, heap_alloc_new w _, .inl (Nat.le_refl _)⟩, Nat.le_refl _, by unfold maxLen; omega, by simp, by simp⟩⟩
    have hm1 : 0 + N ≤ maxLen := by unfold maxLen; omega
    have hm2 : (0 + N) * 64 ≤ 140737488355328 := by omega
    have hsz2 := hbl.size
    have HO := Lib.hid hO
    have HN := Lib.hid hN
    clear hO hN hsz
    go_enter Try.func20, Try.ntmps20
    go_wp2_with (at_builtin; refine wpList_append_S rfl (.tmp 5) (.tmp 6) 23 23 rfl i0 _ 64 (.slice 30) Try.underlying23 Try.underlying23 (fun _ h => by cases h) hi hz0 hz1 hz2 rfl rfl rfl ho hs hm1 hm2 hsz2 ?_; intro A9 c9 w9 ho9 hg9 hw9)
    go_ret
    simp only [Nat.zero_add, List.nil_append] at ho9
    exact ⟨_, by go_num, by simpa using ho9, hbl.trans ((Chg.of_grown (S := fun k => (Value.slice (some ⟨w.heap.size, 0, none⟩) 0 0).ownBlock = some k) hg9 (fun _ h => h)).below hsz2 (fun k hk hs => by simp [Value.ownBlock] at hs; omega))⟩
set_option maxRecDepth 100000 in
set_option maxHeartbeats 4000000 in
theorem sortNil_any (fv : Value) (w : World) : Calls Try.prog 21 #[.slice none 0 0, fv] w fun e w' => e = .returned (.tuple #[]) ∧ w = w' := by
  go_enter Try.func21, Try.ntmps21
  go_wp2_with (go_at_call 44; refine (stableNil_any fv _).mono ?_; rintro e w5 ⟨rfl, rfl⟩)
  go_end0
  exact ⟨rfl, rfl⟩
/-- The sort of a row of the call's own. -/
theorem sortObj_any (v : Value) (N B : Nat) (L : List El) (W : World) (hO : OwnS W B 30 5 v N (L.flatMap encE)) (hNb : N ≤ 140737488355328) :
    Calls Try.prog 21 #[v, .func (.func 22) #[] #[]] W fun e w' => e = .returned (.tuple #[]) ∧ OwnS w' B 30 5 v N ((Srt.isort ltE L).flatMap encE) ∧ Chg (fun k => v.ownBlock = some k) W w' := by
  by_cases hv : v = .slice none 0 0
  · subst hv
    have hl := own_len hO
    have hN0 : N = 0 := by
      rcases hO.2 with h | ⟨g, off, cap, cur, h, _⟩
      · exact h.2
      · cases h
    subst hN0
    obtain rfl : L = [] := List.eq_nil_of_length_eq_zero hl
    refine (sortNil_any _ W).mono ?_
    rintro e w' ⟨rfl, rfl⟩
    exact ⟨rfl, OwnS.nil _ _ _ _, Chg.refl _ _⟩
  · have hl := own_len hO
    obtain ⟨g, off, c, rfl, hb, hS⟩ := SRow.of_own5 hO hv
    refine (sortStable_any g off c N L W hS hl (fun _ _ => trivial) hNb).mono ?_
    rintro e w' ⟨rfl, hc, hS'⟩
    exact ⟨rfl, hS'.own5 hb (by rw [Srt.isort_length, hl]), hc.mono (fun k _ hk => by subst hk; rfl)⟩
end Go.Proofs.Ytndjebddgnmpfaa
namespace Go.Proofs.Ytndjebddgnmpfaa
open Go.RowKit
set_option linter.unusedVariables false
set_option linter.unusedSimpArgs false

/-- May an object stand in an index? -/
def okO (x : El) : Bool := hashB (bytesOf x.id) && (decide (0 ≤ x.at_) && decide (x.at_ ≤ 4611686018427387904))
def sameAt (S : List El) (i : Nat) : Bool := decide (0 < i) && decide ((S[i - 1]?).map El.id = (S[i]?).map El.id)
def badAt (S : List El) (i : Nat) : Bool := match S[i]? with
  | none => false
  | some x => sameAt S i || !okO x
theorem badAt_some {S : List El} {i : Nat} {x : El} (h : S[i]? = some x) : badAt S i = (sameAt S i || !okO x) := by unfold badAt; rw [h]
theorem sameAt_zero (S : List El) : sameAt S 0 = false := rfl
theorem sameAt_succ {S : List El} {j : Nat} {x y : El} (h : S[j + 1]? = some x) (hy : S[j]? = some y) : sameAt S (j + 1) = decide (y.id = x.id) := by
  unfold sameAt
  rw [Nat.add_sub_cancel, h, hy]
  simp
def GoodS (S : List El) : Prop := ∀ i, i < S.length → badAt S i = false
def uid (x : El) : List Int := unV (bytesOf x.id)
theorem okO_uid {x : El} (h : okO x = true) : unOk (bytesOf x.id) = true ∧ (uid x).length = 20 ∧ 0 ≤ x.at_ ∧ x.at_ ≤ 4611686018427387904 := by
  simp only [okO, hashB, Bool.and_eq_true, decide_eq_true_eq] at h
  exact ⟨h.1.1, h.1.2, h.2.1, h.2.2⟩
def namesL (S : List El) : List Int := S.flatMap uid
def crcsL (S : List El) : List Int := S.flatMap fun x => beI x.crc
def isFar (x : El) : Bool := decide (2147483648 ≤ x.at_)
def nfar (S : List El) : Nat := (S.filter isFar).length
def placeV (x : El) (k : Nat) : List Int := if x.at_ < 2147483648 then beI x.at_ else beI (2147483648 + (k : Int))
def placesL : Nat → List El → List Int
  | _, [] => []
  | k, x :: S => placeV x k ++ placesL (if isFar x = true then k + 1 else k) S
def farV (x : El) : List Int := if x.at_ < 2147483648 then [] else beI (x.at_ / 4294967296) ++ beI x.at_
def farL (S : List El) : List Int := S.flatMap farV
def hd0 (x : El) : Int := (uid x).getD 0 0
def cntEq (S : List El) (c : Int) : Nat := (S.filter fun x => decide (hd0 x = c)).length
def cntLt (S : List El) (c : Int) : Nat := (S.filter fun x => decide (hd0 x < c)).length
def fanL (S : List El) (k : Nat) : List Int := (List.range k).flatMap fun c : Nat => beI (cntLt S ((c : Int) + 1) : Nat)
def beginL : List Int := [255, 116, 79, 99, 0, 0, 0, 2]
def bodyL (S : List El) (p : List Int) : List Int := beginL ++ fanL S 256 ++ namesL S ++ crcsL S ++ placesL 0 S ++ farL S ++ p
def buildL (S : List El) (p : List Int) : List Int := bodyL S p ++ shaAll (bodyL S p)
def BuildOk (L : List El) (p : ByteArray) : Prop := L.length ≤ 4096 ∧ hashB (bytesOf p) = true ∧ GoodS (Srt.isort ltE L)

theorem nfar_snoc (S : List El) (x : El) : nfar (S ++ [x]) = nfar S + (if isFar x = true then 1 else 0) := by
  unfold nfar
  rw [List.filter_append, List.length_append]
  cases h : isFar x <;> simp [h]
theorem placesL_snoc (x : El) : ∀ (S : List El) (k : Nat), placesL k (S ++ [x]) = placesL k S ++ placeV x (k + nfar S)
  | [], k => by simp [placesL, nfar]
  | y :: S, k => by
    simp only [List.cons_append, placesL]
    rw [placesL_snoc x S, List.append_assoc]
    congr 3
    unfold nfar
    cases h : isFar y <;> simp [h]
    omega
theorem namesL_snoc (S : List El) (x : El) : namesL (S ++ [x]) = namesL S ++ uid x := by simp [namesL]
theorem crcsL_snoc (S : List El) (x : El) : crcsL (S ++ [x]) = crcsL S ++ beI x.crc := by simp [crcsL]
theorem farL_snoc (S : List El) (x : El) : farL (S ++ [x]) = farL S ++ farV x := by simp [farL]
theorem cntEq_snoc (S : List El) (x : El) (c : Int) : cntEq (S ++ [x]) c = cntEq S c + (if hd0 x = c then 1 else 0) := by
  unfold cntEq
  rw [List.filter_append, List.length_append]
  by_cases h : hd0 x = c <;> simp [h]
theorem fanL_succ (S : List El) (k : Nat) : fanL S (k + 1) = fanL S k ++ beI (cntLt S ((k : Int) + 1) : Nat) := by simp [fanL, List.range_succ]
theorem cntLt_succ (S : List El) (c : Int) : cntLt S (c + 1) = cntLt S c + cntEq S c := by
  unfold cntLt cntEq
  induction S with
  | nil => rfl
  | cons x S ih =>
    simp only [List.filter_cons, decide_eq_true_eq]
    by_cases h1 : hd0 x < c
    · have h2 : hd0 x < c + 1 := by omega
      have h3 : ¬ hd0 x = c := by omega
      simp only [if_pos h1, if_pos h2, if_neg h3, List.length_cons]
      omega
    · by_cases h2 : hd0 x = c
      · have h3 : hd0 x < c + 1 := by omega
        simp only [if_neg h1, if_pos h2, if_pos h3, List.length_cons]
        omega
      · have h3 : ¬ hd0 x < c + 1 := by omega
        simp only [if_neg h1, if_neg h2, if_neg h3]
        exact ih
theorem cntLt_zero (S : List El) : cntLt S 0 = 0 := by
  unfold cntLt
  rw [List.length_eq_zero_iff, List.filter_eq_nil_iff]
  intro x _
  have hb : Bytes (uid x) := unV_ok _
  unfold hd0
  generalize uid x = u at hb
  cases u with
  | nil => simp
  | cons a r =>
    have := hb a (.head _)
    simp
    omega
theorem cntLt_le (S : List El) (c : Int) : cntLt S c ≤ S.length := List.length_filter_le _ _
theorem nfar_le (S : List El) : nfar S ≤ S.length := List.length_filter_le _ _
theorem beI_len (n : Int) : (beI n).length = 4 := rfl
theorem beI_ok (n : Int) : Bytes (beI n) := fun x hx => by
  simp only [beI, List.mem_cons, List.not_mem_nil, or_false] at hx
  rcases hx with rfl | rfl | rfl | rfl <;> omega
theorem uid_ok (x : El) : Bytes (uid x) := unV_ok _
theorem hd0_ok {x : El} (h : (uid x).length = 20) : 0 ≤ hd0 x ∧ hd0 x < 256 := by
  unfold hd0
  cases hu : uid x with
  | nil => rw [hu] at h; simp at h
  | cons a r =>
    have := uid_ok x a (by rw [hu]; exact .head _)
    simpa using this
theorem farL_len (S : List El) : (farL S).length = 8 * nfar S := by
  induction S with
  | nil => rfl
  | cons x S ih =>
    have e : farL (x :: S) = farV x ++ farL S := by simp [farL]
    rw [e, List.length_append, ih]
    unfold nfar farV isFar
    by_cases h : x.at_ < 2147483648
    · have h2 : ¬ 2147483648 ≤ x.at_ := by omega
      simp [h, h2]
    · have h2 : 2147483648 ≤ x.at_ := by omega
      simp [h, h2, beI_len]
      omega
theorem crcsL_len (S : List El) : (crcsL S).length = 4 * S.length := by
  induction S with
  | nil => rfl
  | cons x S ih => rw [show crcsL (x :: S) = beI x.crc ++ crcsL S by simp [crcsL], List.length_append, ih, beI_len, List.length_cons]; omega
theorem placesL_len : ∀ (S : List El) (k : Nat), (placesL k S).length = 4 * S.length
  | [], _ => rfl
  | x :: S, k => by
    rw [placesL, List.length_append, placesL_len S, List.length_cons]
    unfold placeV
    split <;> rw [beI_len] <;> omega
theorem fanL_len (S : List El) (k : Nat) : (fanL S k).length = 4 * k := by
  induction k with
  | zero => rfl
  | succ k ih => rw [fanL_succ, List.length_append, ih, beI_len]; omega
theorem namesL_len (S : List El) (h : ∀ x ∈ S, (uid x).length = 20) : (namesL S).length = 20 * S.length := by
  induction S with
  | nil => rfl
  | cons x S ih => rw [show namesL (x :: S) = uid x ++ namesL S by simp [namesL], List.length_append, ih (fun y hy => h y (.tail _ hy)), h x (.head _), List.length_cons]; omega
theorem namesL_ok (S : List El) : Bytes (namesL S) := fun x hx => by
  obtain ⟨y, _, hy⟩ := List.mem_flatMap.1 hx
  exact uid_ok y x hy
theorem crcsL_ok (S : List El) : Bytes (crcsL S) := fun x hx => by
  obtain ⟨y, _, hy⟩ := List.mem_flatMap.1 hx
  exact beI_ok _ x hy
theorem farL_ok (S : List El) : Bytes (farL S) := fun x hx => by
  obtain ⟨y, _, hy⟩ := List.mem_flatMap.1 hx
  unfold farV at hy
  split at hy
  · cases hy
  · rcases List.mem_append.1 hy with h | h <;> exact beI_ok _ x h
theorem placesL_ok : ∀ (S : List El) (k : Nat), Bytes (placesL k S)
  | [], _ => fun _ h => by cases h
  | y :: S, k => fun x hx => by
    rw [placesL] at hx
    rcases List.mem_append.1 hx with h | h
    · unfold placeV at h
      split at h <;> exact beI_ok _ x h
    · exact placesL_ok S _ x h
theorem fanL_ok (S : List El) (k : Nat) : Bytes (fanL S k) := fun x hx => by
  obtain ⟨y, _, hy⟩ := List.mem_flatMap.1 hx
  exact beI_ok _ x hy
theorem beginL_ok : Bytes beginL := fun x hx => by
  simp only [beginL, List.mem_cons, List.not_mem_nil, or_false] at hx
  omega
theorem bodyL_ok (S : List El) (p : List Int) (hp : Bytes p) : Bytes (bodyL S p) := fun x hx => by
  simp only [bodyL, List.mem_append] at hx
  rcases hx with (((((h | h) | h) | h) | h) | h) | h
  · exact beginL_ok x h
  · exact fanL_ok _ _ x h
  · exact namesL_ok _ x h
  · exact crcsL_ok _ x h
  · exact placesL_ok _ _ x h
  · exact farL_ok _ x h
  · exact hp x h
theorem bodyL_len (S : List El) (p : List Int) (h : ∀ x ∈ S, (uid x).length = 20) : (bodyL S p).length = 1032 + 28 * S.length + 8 * nfar S + p.length := by
  simp only [bodyL, List.length_append, fanL_len, namesL_len S h, crcsL_len, placesL_len, farL_len]
  simp only [beginL, List.length_cons, List.length_nil]
  omega
theorem GoodS.all {S : List El} (h : GoodS S) {x : El} (hx : x ∈ S) : okO x = true := by
  obtain ⟨i, hi, rfl⟩ := List.getElem_of_mem hx
  have := h i hi
  rw [badAt_some (List.getElem?_eq_getElem hi)] at this
  simp only [Bool.or_eq_false_iff, Bool.not_eq_false'] at this
  exact this.2
end Go.Proofs.Ytndjebddgnmpfaa
