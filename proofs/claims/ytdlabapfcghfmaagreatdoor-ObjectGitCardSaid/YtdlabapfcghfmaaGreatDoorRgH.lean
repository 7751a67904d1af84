/- The statement's own reading of an ID's digits: raw. -/
import Derived.Test.YtdlabapfcghfmaaGreatDoorRgE
import Derived.Test.YtdlabapfcghfmaaGreatDoorRgF
import Derived.Test.YtdlabapfcghfmaaGreatDoorOid
import Derived.Lib.SlBytesConst
import Derived.Test.YtdlabapfcghfmaaGreatDoorObZ
namespace Go.Proofs.YtdlabapfcghfmaaGreatDoor
open Go.RowKit
set_option linter.unusedVariables false
set_option linter.unusedSimpArgs false

/-- The digit that stands at a place. -/
def digAt (b : List Int) (i : Nat) : Int := if i % 2 = 0 then b.getD (i / 2) 0 / 16 else b.getD (i / 2) 0 % 16
theorem digAt_ok (b : List Int) (hb : Bytes b) (i : Nat) : 0 ≤ digAt b i ∧ digAt b i < 16 := by
  have h : 0 ≤ b.getD (i / 2) 0 ∧ b.getD (i / 2) 0 < 256 := by
    by_cases hi : i / 2 < b.length
    · rw [List.getD_eq_getElem?_getD, List.getElem?_eq_getElem hi]
      exact hb _ (List.getElem_mem hi)
    · rw [List.getD_eq_getElem?_getD, List.getElem?_eq_none (by omega)]
      exact ⟨by decide, by decide⟩
  unfold digAt
  split <;> omega
theorem hexL_dig8 (b : List Int) (hb : Bytes b) (i : Nat) (h : i < (strOfNums (hexL b)).size) : ((((strOfNums (hexL b))[i]'h).toNat : Nat) : Int) = hexd (digAt b i) := by
  have hl : i < (hexL b).length := by rw [strOfNums_size] at h; exact h
  have e := Lib.data_getElem? (strOfNums (hexL b)) i h
  have hby : ((bytesOf (strOfNums (hexL b)))[i]?) = some ((((strOfNums (hexL b))[i]'h).toNat : Nat) : Int) := by
    unfold bytesOf
    rw [List.getElem?_map, e]
    rfl
  rw [bytesOf_str _ (hexL_ok b hb)] at hby
  have hg : (hexL b).getD i 0 = ((((strOfNums (hexL b))[i]'h).toNat : Nat) : Int) := by rw [List.getD_eq_getElem?_getD, hby]; rfl
  rw [← hg]
  rw [hexL_len] at hl
  have ha := hexL_at b (i / 2) (by omega)
  unfold digAt
  by_cases h2 : i % 2 = 0
  · rw [if_pos h2, ← ha.1, show 2 * (i / 2) = i by omega]
  · rw [if_neg h2, ← ha.2, show 2 * (i / 2) + 1 = i by omega]
set_option maxRecDepth 100000 in
set_option maxHeartbeats 4000000 in
theorem raw8_any (b : List Int) (w : World) (hb : Bytes b) (hs : b.length ≤ 1000) :
    Calls Tryz.prog 16 #[.string (strOfNums (hexL b))] w fun e w' => ∃ A c, e = .returned (.slice A b.length c) ∧ OwnS w' w.heap.size 5 1 (.slice A b.length c) b.length (b.map (Value.int .u8)) ∧ Below w.heap.size w w' := by
  obtain ⟨i0, hi, hz0, hz1, hz2⟩ := info_parts Tryz.info_u8
  have HD := Lib.hid (hexL_dig8 b hb)
  have HOK := Lib.hid (digAt_ok b hb)
  have hsz : (strOfNums (hexL b)).size = 2 * b.length := by rw [strOfNums_size, hexL_len]
  have HB := Lib.hid hb
  generalize strOfNums (hexL b) = S at *
  have HSZ := Lib.hid hsz
  generalize hn : b.length = n at *
  have HN := Lib.hid hn
  clear hb hn hsz
  go_enter Tryz.func16, Tryz.ntmps16
  go_wp2
  go_loopw [3, 4] (fun v3 v4 wr => ∃ j i A c, v3 = .slice A j c ∧ v4 = .int .i64 ((i : Nat) : Int) ∧ i = 2 * j ∧ j ≤ n ∧ OwnS wr w.heap.size 5 1 (.slice A j c) j ((b.take j).map (Value.int .u8)) ∧ Below w.heap.size w wr) (fun _ v4 _ => S.size - (intOf v4).toNat)
  case atStart => exact ⟨0, 0, none, 0, rfl, rfl, rfl, Nat.zero_le _, OwnS.nil _ _ _ _, Below.refl _ _⟩
  case round =>
    obtain ⟨j, i, A, c, rfl, rfl, hij, hj, ho, hbl⟩ := hrel
    have HIJ := Lib.hid hij
    clear hij
    by_cases hlt : j < n
    · have HO := Lib.hid ho
      have HBL := Lib.hid hbl
      have him : i + 1 < S.size := by rw [HIJ.out]; have := HSZ.out; omega
      have d2 : decide ((i : Int) + 1 < (S.size : Int)) = true := decide_eq_true (by omega)
      have d2' : decide (i + 1 < S.size) = true := decide_eq_true him
      have hmb : S.size ≤ 2000 := by have := HSZ.out; omega
      clear ho hbl
      go_wp2
      go_loopw [5, 6] (fun v5 v6 wz => ∃ k : Nat, v6 = .int .i64 (k : Int) ∧ k ≤ 2 ∧ wz = wr ∧ v5 = .int .u8 (if k = 0 then 0 else if k = 1 then digAt b i else 16 * digAt b i + digAt b (i + 1))) (fun _ v6 _ => 2 - (intOf v6).toNat)
      case atStart => exact ⟨0, rfl, by omega, rfl, rfl⟩
      case round =>
        obtain ⟨k, rfl, hk, hwz, rfl⟩ := hrel
        subst hwz
        by_cases hk2 : k < 2
        · have d3 : decide ((k : Int) < 2) = true := decide_eq_true (by omega)
          have d3' : decide (k < 2) = true := decide_eq_true hk2
          have hik : i + k < S.size := by omega
          have hx := HD.out (i + k) hik
          obtain ⟨x0, x1⟩ := HOK.out (i + k)
          obtain ⟨y0, y1⟩ := HOK.out i
          generalize hX : digAt b (i + k) = x at *
          generalize hV : (if k = 0 then 0 else if k = 1 then digAt b i else 16 * digAt b i + digAt b (i + 1)) = v at *
          have hv : 0 ≤ v ∧ v < 16 := by
            rw [← hV]
            by_cases h0 : k = 0
            · rw [if_pos h0]; omega
            · rw [if_neg h0, if_pos (show k = 1 by omega)]; omega
          have HNV : Hid ((if k + 1 = 0 then 0 else if k + 1 = 1 then digAt b i else 16 * digAt b i + digAt b (i + 1)) = 16 * v + x) := Lib.hid (by
            rw [if_neg (by omega)]
            by_cases h0 : k = 0
            · subst h0
              rw [if_pos rfl, ← hV, if_pos rfl, ← hX, Nat.add_zero]
              omega
            · have h1 : k = 1 := by omega
              subst h1
              rw [if_neg (by decide), ← hV, if_neg (by decide), if_pos rfl, ← hX])
          have e5 : IntKind.u8.wrap (16 * v) = 16 * v := by rw [IntKind.wrap_u8']; omega
          have e7 : IntKind.u8.wrap (IntKind.u8.wrap (16 * v + (x + 48)) - 48) = 16 * v + x := by rw [IntKind.wrap_u8', IntKind.wrap_u8']; omega
          have e7' : IntKind.u8.wrap (IntKind.u8.wrap (16 * v + (48 + x)) - 48) = 16 * v + x := by rw [IntKind.wrap_u8', IntKind.wrap_u8']; omega
          by_cases h10 : x < 10
          · have hxx : ((S[i + k]'hik).toNat : Int) = 48 + x := by rw [hx]; unfold hexd; rw [if_pos h10]
            have d4 : decide (((S[i + k]'hik).toNat : Int) ≥ 97) = false := decide_eq_false (by omega)
            have d4' : decide ((97 : Int) ≤ ((S[i + k]'hik).toNat : Int)) = false := decide_eq_false (by omega)
            have d4n : decide (97 ≤ (S[i + k]'hik).toNat) = false := decide_eq_false (by omega)
            have d4x : decide ((97 : Int) ≤ 48 + x) = false := decide_eq_false (by omega)
            clear hx hX hV
            go_wp2
            exact ⟨⟨k + 1, rfl, by omega, trivial, by rw [HNV.out, show ((16 * v + (48 + x)) % 256 - 48) % 256 = 16 * v + x by omega]⟩, by simp [intOf]; omega⟩
          · have hxx : ((S[i + k]'hik).toNat : Int) = 87 + x := by rw [hx]; unfold hexd; rw [if_neg h10]
            have d4 : decide (((S[i + k]'hik).toNat : Int) ≥ 97) = true := decide_eq_true (by omega)
            have d4' : decide ((97 : Int) ≤ ((S[i + k]'hik).toNat : Int)) = true := decide_eq_true (by omega)
            have d4n : decide (97 ≤ (S[i + k]'hik).toNat) = true := decide_eq_true (by omega)
            have d4x : decide ((97 : Int) ≤ 87 + x) = true := decide_eq_true (by omega)
            have e1 : IntKind.u8.wrap (87 + x - 97) = x - 10 := by rw [IntKind.wrap_u8']; omega
            have e2 : IntKind.u8.wrap (x - 10 + 10) = x := by rw [IntKind.wrap_u8']; omega
            have e3 : IntKind.u8.wrap (x + 48) = x + 48 := by rw [IntKind.wrap_u8']; omega
            clear hx hX hV
            go_wp2
            exact ⟨⟨k + 1, rfl, by omega, trivial, by rw [HNV.out, show ((16 * v + (x + 48)) % 256 - 48) % 256 = 16 * v + x by omega]⟩, by simp [intOf]; omega⟩
        · have HK : Hid (k = 2) := Lib.hid (by omega)
          have d3 : decide ((k : Int) < 2) = false := decide_eq_false (by omega)
          have d3' : decide (k < 2) = false := decide_eq_false hk2
          obtain ⟨y, hy⟩ : ∃ y, b[j]? = some y := ⟨_, List.getElem?_eq_getElem (by rw [HN.out]; exact hlt)⟩
          have hyb := HB.out y (List.mem_of_getElem? hy)
          have hV : (if k = 0 then 0 else if k = 1 then digAt b i else 16 * digAt b i + digAt b (i + 1)) = y := by
            rw [if_neg (by have := HK.out; omega), if_neg (by have := HK.out; omega)]
            have hg : b.getD j 0 = y := by rw [List.getD_eq_getElem?_getD, hy]; rfl
            unfold digAt
            rw [if_pos (by have := HIJ.out; omega), if_neg (by have := HIJ.out; omega), show i / 2 = j by have := HIJ.out; omega, show (i + 1) / 2 = j by have := HIJ.out; omega, hg]
            omega
          rw [hV]
          have HT : Hid ((b.take (j + 1)).map (Value.int .u8) = (b.take j).map (Value.int .u8) ++ [.int .u8 y]) := Lib.hid (by rw [List.take_add_one, hy, List.map_append]; rfl)
          have HA := Lib.hid (HO.out.alloc (.cells #[.int .u8 y] 5))
          have HBA := Lib.hid (HBL.out.alloc HBL.out.size (.cells #[.int .u8 y] 5))
          clear hV hy d2 d2'
          go_wp2_with (at_builtin; go_loud (refine wpList_append_S rfl (.tmp 35) (.tmp 37) 24 24 rfl i0 (.int .u8 0) 1 (.slice 5) Tryz.underlying24 Tryz.underlying24 (fun _ h => by cases h) hi hz0 hz1 hz2 rfl rfl rfl HA.out (Src.new (us := [.int .u8 y]) rfl (by simp [Value.oneCell'])) (show j + 1 ≤ maxLen by unfold maxLen; omega) (show (j + 1) * 1 ≤ 140737488355328 by omega) HBA.out.size ?_; intro A9 c9 w9 ho9 hg9 hw9))
          have HO9 : Hid (OwnS w9 w.heap.size 5 1 (.slice A9 (j + 1) c9) (j + 1) ((b.take (j + 1)).map (Value.int .u8))) := Lib.hid (by rw [HT.out]; exact ho9)
          have HB9 := Lib.hid (HBA.out.grown hg9 HBA.out.size (fun q hq => (HA.out.lt q hq).1))
          clear ho9 hg9 hw9
          go_roundw
          case rel => exact ⟨j + 1, i + 2, _, _, rfl, rfl, by have := HIJ.out; omega, by omega, HO9.out, HB9.out⟩
          case measure => simp [intOf]; omega
    · obtain rfl : j = n := by omega
      have d2 : decide ((i : Int) + 1 < (S.size : Int)) = false := decide_eq_false (by have := HIJ.out; have := HSZ.out; omega)
      have d2' : decide (i + 1 < S.size) = false := decide_eq_false (by have := HIJ.out; have := HSZ.out; omega)
      have hib : i ≤ 2000 := by have := HIJ.out; omega
      rw [List.take_of_length_le (by rw [HN.out]; exact Nat.le_refl _)] at ho
      have HO := Lib.hid ho
      have HBL := Lib.hid hbl
      clear ho hbl
      go_wp2
      go_ret
      exact ⟨A, c, rfl, HO.out, HBL.out⟩
end Go.Proofs.YtdlabapfcghfmaaGreatDoor
namespace Go.Proofs.YtdlabapfcghfmaaGreatDoor
open Go.RowKit
set_option linter.unusedVariables false
set_option linter.unusedSimpArgs false

def whoN : List UInt8 := [65, 32, 85, 32, 84, 104, 111, 114, 32]
def whoM : List UInt8 := [97, 117, 116, 104, 111, 114, 64, 101, 120, 97, 109, 112, 108, 101, 46, 99, 111, 109]
def zoneU : List UInt8 := [32, 43, 48, 48, 48, 48]
def whoU (D : List UInt8) : List UInt8 := whoN ++ [60] ++ (whoM ++ [62] ++ ([32] ++ D ++ zoneU))
theorem get_bk (l : List UInt8) (i : Nat) (x : UInt8) (h : l[i]? = some x) : (bk l).get! i = x := by
  have hi := (List.getElem?_eq_some_iff.1 h).1
  have := getO_toList (bk l) i (by rw [bk_size]; exact hi)
  rw [bk_list, h] at this
  injection this with this
  exact this.symm
theorem time_who (D : List UInt8) (h1 : D.all isDig = true) (h2 : 1 ≤ D.length) (h3 : D.length ≤ 12) (h0 : D = [48] ∨ D[0]? ≠ some 48) : timeB (bk ([32] ++ D ++ zoneU)) = true := by
  have hl : ([32] ++ D ++ zoneU).length = D.length + 7 := by simp [zoneU]
  have g0 : (bk ([32] ++ D ++ zoneU)).get! 0 = 32 := get_bk _ _ _ rfl
  have g1 : (bk ([32] ++ D ++ zoneU)).get! (D.length + 1) = 32 := get_bk _ _ _ (by rw [List.getElem?_append_right (by simp)]; simp [zoneU])
  have g2 : (bk ([32] ++ D ++ zoneU)).get! (D.length + 2) = 43 := get_bk _ _ _ (by rw [List.getElem?_append_right (by simp)]; simp [zoneU])
  have e1 : (([32] ++ D ++ zoneU).take (D.length + 1)).drop 1 = D := by
    rw [List.take_left' (by simp)]; rfl
  have e2 : (([32] ++ D ++ zoneU).take (D.length + 7)).drop (D.length + 3) = [48, 48, 48, 48] := by
    rw [List.take_of_length_le (by rw [hl]; exact Nat.le_refl _)]
    rw [show [32] ++ D ++ zoneU = ([32] ++ D ++ [32, 43]) ++ [48, 48, 48, 48] by simp [zoneU], List.drop_left' (by simp)]
  unfold timeB
  simp only [bk_size, bk_ext, bk_list, Lib.toList_data]
  rw [hl, show D.length + 7 - 6 = D.length + 1 by omega, show D.length + 7 - 5 = D.length + 2 by omega, show D.length + 7 - 4 = D.length + 3 by omega, g0, g1, g2, e1, e2, allDig_all, List.all_append, h1]
  have d1 : decide (8 ≤ D.length + 7) = true := decide_eq_true (by omega)
  have d2 : decide (D.length + 7 ≤ 19) = true := decide_eq_true (by omega)
  rw [d1, d2]
  have hz : (D == [48] || !((bk ([32] ++ D ++ zoneU)).get! 1 == 48)) = true := by
    rcases h0 with rfl | h0
    · rfl
    · rw [Bool.or_eq_true]
      right
      obtain ⟨y, hy⟩ : ∃ y, D[0]? = some y := ⟨_, List.getElem?_eq_getElem (by omega)⟩
      have : (bk ([32] ++ D ++ zoneU)).get! 1 = y := get_bk _ _ _ (by
        rw [List.getElem?_append_left (by simp; omega)]
        simpa using hy)
      rw [this]
      rw [hy] at h0
      simpa using h0
  rw [hz]
  rfl
set_option maxRecDepth 100000 in
theorem pers_who (D : List UInt8) (h1 : D.all isDig = true) (h2 : 1 ≤ D.length) (h3 : D.length ≤ 12) (h0 : D = [48] ∨ D[0]? ≠ some 48) : persB (bk (whoU D)) = true := by
  have i0 : Lib.indexByte (whoU D) 60 = Int.ofNat 9 := by kernel_rfl
  have i1 : Lib.indexByte (whoM ++ [62] ++ ([32] ++ D ++ zoneU)) 62 = Int.ofNat 18 := by kernel_rfl
  have hl : (whoU D).length = D.length + 36 := by simp [whoU, whoN, whoM, zoneU]
  have hl2 : (whoM ++ [62] ++ ([32] ++ D ++ zoneU)).length = D.length + 26 := by simp [whoM, zoneU]
  have t1 : ((whoU D).take (D.length + 36)).drop 10 = whoM ++ [62] ++ ([32] ++ D ++ zoneU) := by
    rw [List.take_of_length_le (by rw [hl]; exact Nat.le_refl _)]; rfl
  have t2 : ((whoM ++ [62] ++ ([32] ++ D ++ zoneU)).take (D.length + 26)).drop 19 = [32] ++ D ++ zoneU := by
    rw [List.take_of_length_le (by rw [hl2]; exact Nat.le_refl _)]; rfl
  have t3 : ((whoU D).take 8).drop 0 = [65, 32, 85, 32, 84, 104, 111, 114] := rfl
  have t4 : ((whoM ++ [62] ++ ([32] ++ D ++ zoneU)).take 18).drop 0 = whoM := rfl
  have g8 : (bk (whoU D)).get! 8 = 32 := get_bk _ _ _ rfl
  have x1 : textB [65, 32, 85, 32, 84, 104, 111, 114] = true := by decide +kernel
  have x2 : textB whoM = true := by decide +kernel
  unfold persB
  simp only [bk_list]
  rw [i0]
  simp only [bk_size, bk_ext, bk_list]
  rw [show (9 - 1 : Nat) = 8 from rfl, show (9 + 1 : Nat) = 10 from rfl, g8, t3, x1, hl, t1]
  unfold mailB
  simp only [bk_list]
  rw [i1]
  simp only [bk_size, bk_ext, bk_list]
  rw [t4, x2, show (18 + 1 : Nat) = 19 from rfl, hl2, t2, time_who D h1 h2 h3 h0]
  rfl
end Go.Proofs.YtdlabapfcghfmaaGreatDoor
namespace Go.Proofs.YtdlabapfcghfmaaGreatDoor
open Go.RowKit
set_option linter.unusedVariables false
set_option linter.unusedSimpArgs false

theorem digL_dig : ∀ n : Nat, (∀ x ∈ digL n, 48 ≤ x ∧ x ≤ 57) ∧ 1 ≤ (digL n).length ∧ (0 < n → (digL n)[0]? ≠ some 48) := by
  intro n
  induction n using Nat.strongRecOn with
  | _ n ih =>
    by_cases h : n ≤ 9
    · rw [digL_small h]
      refine ⟨fun x hx => ?_, by simp, fun h0 h1 => ?_⟩
      · rw [List.mem_singleton.1 hx]; omega
      · simp at h1; omega
    · obtain ⟨i1, i2, i3⟩ := ih (n / 10) (by omega)
      rw [digL_big (by omega)]
      refine ⟨fun x hx => ?_, by rw [List.length_append]; omega, fun _ => ?_⟩
      · rcases List.mem_append.1 hx with hx | hx
        · exact i1 x hx
        · rw [List.mem_singleton.1 hx]; omega
      · rw [List.getElem?_append_left (by omega)]
        exact i3 (by omega)
def digU (n : Nat) : List UInt8 := (strOfNums (digL n)).data.toList
theorem digU_len (n : Nat) : (digU n).length = (digL n).length := by
  unfold digU
  rw [← Lib.size_eq, strOfNums_size]
theorem digU_at (n i : Nat) (x : Int) (h : (digL n)[i]? = some x) : (digU n)[i]? = some (UInt8.ofNat x.toNat) := by
  unfold digU
  rw [strOfNums_data, List.getElem?_map, h]
  rfl
theorem digU_all (n : Nat) : (digU n).all isDig = true := by
  rw [List.all_eq_true]
  intro b hb
  unfold digU at hb
  rw [strOfNums_data] at hb
  obtain ⟨x, hx, rfl⟩ := List.mem_map.1 hb
  obtain ⟨h1, h2⟩ := (digL_dig n).1 x hx
  unfold isDig
  have e : (UInt8.ofNat x.toNat).toNat = x.toNat := by rw [UInt8.toNat_ofNat']; omega
  rw [e, decide_eq_true (show 48 ≤ x.toNat by omega), decide_eq_true (show x.toNat ≤ 57 by omega)]
  rfl
theorem digU_zero (n : Nat) : digU n = [48] ∨ (digU n)[0]? ≠ some 48 := by
  by_cases h : n = 0
  · left
    subst h
    unfold digU
    rw [digL_small (by omega)]
    decide
  · right
    obtain ⟨h1, h2, h3⟩ := digL_dig n
    obtain ⟨x, hx⟩ : ∃ x, (digL n)[0]? = some x := ⟨_, List.getElem?_eq_getElem (by omega)⟩
    rw [digU_at n 0 x hx]
    intro he
    injection he with he
    obtain ⟨x1, x2⟩ := h1 x (List.mem_of_getElem? hx)
    have e : (UInt8.ofNat x.toNat).toNat = 48 := by rw [he]; rfl
    rw [UInt8.toNat_ofNat'] at e
    exact h3 (by omega) (by rw [hx]; congr 1; omega)
theorem who_pers (n : Nat) (h : n < 100000000) : persB (bk (whoU (digU n))) = true :=
  pers_who _ (digU_all n) (by rw [digU_len]; exact (digL_dig n).2.1) (by rw [digU_len]; have := digL_pow 7 n (by omega); omega) (digU_zero n)
theorem who_line (n : Nat) : (10 : UInt8) ∉ whoU (digU n) := by
  have hd : (10 : UInt8) ∉ digU n := fun h => by
    have := List.all_eq_true.1 (digU_all n) 10 h
    exact absurd this (by decide)
  unfold whoU
  simp only [List.mem_append]
  rintro ((h | h) | (h | h) | ((h | h) | h))
  · exact absurd h (by decide)
  · exact absurd h (by decide)
  · exact absurd h (by decide)
  · exact absurd h (by decide)
  · exact absurd h (by decide)
  · exact hd h
  · exact absurd h (by decide)
theorem hash_hex (b : List Int) (hb : Bytes b) (hl : b.length = 20) : hashU (strOfNums (hexL b)).data.toList = true := by
  unfold hashU
  rw [bk_of, bytesOf_str _ (hexL_ok _ hb)]
  obtain ⟨u1, u2⟩ := unhex_hex _ hb
  unfold hashB
  rw [u1, u2, hl]
  rfl
theorem hex_line (b : List Int) (hb : Bytes b) : (10 : UInt8) ∉ (strOfNums (hexL b)).data.toList := fun h => by
  obtain ⟨i, hi, e⟩ := List.mem_iff_getElem.1 h
  have hs : i < (strOfNums (hexL b)).size := by rw [Lib.size_eq]; exact hi
  have hx := hexL_dig8 b hb i hs
  have he := Lib.data_getElem? (strOfNums (hexL b)) i hs
  rw [List.getElem?_eq_getElem hi, e] at he
  injection he with he
  rw [← he] at hx
  obtain ⟨d1, d2⟩ := digAt_ok b hb i
  unfold hexd at hx
  split at hx
  · have : ((10 : UInt8).toNat : Int) = 10 := rfl
    omega
  · have : ((10 : UInt8).toNat : Int) = 10 := rfl
    omega
def firstU : List UInt8 := [102, 105, 114, 115, 116, 10]
theorem commit_made (b : List Int) (hb : Bytes b) (hl : b.length = 20) (n : Nat) (h : n < 100000000) :
    commitF (commitU ⟨(strOfNums (hexL b)).data.toList, [], whoU (digU n), whoU (digU n), firstU⟩) = some ⟨(strOfNums (hexL b)).data.toList, [], whoU (digU n), whoU (digU n), firstU⟩ := by
  have hp := who_pers n h
  have hw := who_line n
  have ht := hash_hex b hb hl
  have htl := hex_line b hb
  generalize whoU (digU n) = W at *
  generalize (strOfNums (hexL b)).data.toList = t at *
  have e : commitU ⟨t, [], W, W, firstU⟩ = treeN ++ [32] ++ t ++ [10] ++ (authorN ++ [32] ++ W ++ [10] ++ (committerN ++ [32] ++ W ++ [10] ++ ([10] ++ firstU))) := by unfold commitU; simp only [List.append_assoc, List.flatMap_nil, List.nil_append]
  have hno : fieldL parentN (authorN ++ [32] ++ W ++ [10] ++ (committerN ++ [32] ++ W ++ [10] ++ ([10] ++ firstU))) = none := field_not parentN _ 112 97 ⟨_, rfl⟩ ⟨_, rfl⟩ (by decide)
  have hm : msgF ([10] ++ firstU) = some firstU := by decide +kernel
  rw [e]
  unfold commitF
  rw [field_fwd treeN t _ (by decide) htl]
  simp only [ht]
  rw [parsF, hno]
  simp only
  rw [field_fwd authorN W _ (by decide) hw]
  simp only [hp]
  rw [field_fwd committerN W _ (by decide) hw]
  simp only [hp, hm]
  rfl
end Go.Proofs.YtdlabapfcghfmaaGreatDoor
namespace Go.Proofs.YtdlabapfcghfmaaGreatDoor
open Go.RowKit
set_option linter.unusedVariables false

def tcW : List Int := [1651273570, 540095232, 1952805748, 543387502, 1952804468, 176160768, 0, 0, 0, 0, 0, 0, 0, 0, 0, 168, 739391532, 10795228, 15184, 232959620, 3917720912, 352351904, 465919240, 3540474865, 1915002136, 918801320, 2785984835, 4287391544, 3196112369, 1713204887, 2427847737, 3662044392, 1884807654, 1449636755, 731256663, 779271669, 893590644, 387492131, 2924147641, 360948106, 1724524861, 1657133428, 1295480030, 2723363535, 4083161488, 3437879045, 3656407379, 3582242498, 3821273363, 2252414083, 214803071, 4059717140, 3696350653, 2239687591, 3239426951, 4247127810, 2593091246, 260344191, 2675544166, 195013344, 4069144579, 114562060, 3783037519, 3100842624, 3869619100, 847688527, 4000184905, 863852959, 3130116845, 566363585, 322321907, 3787504673, 2233635115, 1264015942, 3300776986, 1982393521, 3294655951, 3069292206, 3314540834, 1609220163]
def tcS : List (List Int) := [[1732584193, 4023233417, 2562383102, 271733878, 3285377520],
  [35719189, 1732584193, 2079550178, 2562383102, 271733878],
  [3405972141, 35719189, 1506887872, 2079550178, 2562383102],
  [1104579238, 3405972141, 1082671621, 1506887872, 2079550178],
  [2189095670, 1104579238, 1925234859, 1082671621, 1506887872],
  [3101708352, 2189095670, 2423628457, 1925234859, 1082671621],
  [2995086942, 3101708352, 2694757565, 2423628457, 1925234859],
  [3196434627, 2995086942, 775427088, 2694757565, 2423628457],
  [3720991082, 3196434627, 2896255383, 775427088, 2694757565],
  [1628733508, 3720991082, 4020334128, 2896255383, 775427088],
  [2565594858, 1628733508, 3077731418, 4020334128, 2896255383],
  [3562086131, 2565594858, 407183377, 3077731418, 4020334128],
  [328787539, 3562086131, 2788882362, 407183377, 3077731418],
  [287698695, 328787539, 4111747004, 2788882362, 407183377],
  [1287115332, 287698695, 3303422356, 4111747004, 2788882362],
  [2079056792, 1287115332, 3293150145, 3303422356, 4111747004],
  [2438246620, 2079056792, 321778833, 3293150145, 3303422356],
  [221970364, 2438246620, 519764198, 321778833, 3293150145],
  [3645545084, 221970364, 609561655, 519764198, 321778833],
  [2916361611, 3645545084, 55492591, 609561655, 519764198],
  [1732546791, 2916361611, 911386271, 55492591, 609561655],
  [4262272783, 1732546791, 3950315874, 911386271, 55492591],
  [53494601, 4262272783, 3654362169, 3950315874, 911386271],
  [4087581372, 53494601, 4286793667, 3654362169, 3950315874],
  [3341404485, 4087581372, 1087115474, 4286793667, 3654362169],
  [3975525207, 3341404485, 1021895343, 1087115474, 4286793667],
  [4276397377, 3975525207, 1909092945, 1021895343, 1087115474],
  [3558902174, 4276397377, 4215106773, 1909092945, 1021895343],
  [2742297895, 3558902174, 2142841168, 4215106773, 1909092945],
  [1582210290, 2742297895, 3037209191, 2142841168, 4215106773],
  [63804264, 1582210290, 3906799945, 3037209191, 2142841168],
  [4237770246, 63804264, 2543036220, 3906799945, 3037209191],
  [227764460, 4237770246, 15951066, 2543036220, 3906799945],
  [3866358321, 227764460, 3206926209, 15951066, 2543036220],
  [3717812323, 3866358321, 56941115, 3206926209, 15951066],
  [2831178712, 3717812323, 2040331404, 56941115, 3206926209],
  [467626752, 2831178712, 4150678552, 2040331404, 56941115],
  [1235891615, 467626752, 707794678, 4150678552, 2040331404],
  [4217335591, 1235891615, 116906688, 707794678, 4150678552],
  [3857125914, 4217335591, 3530198375, 116906688, 707794678],
  [2603753469, 3857125914, 4275559369, 3530198375, 116906688],
  [1510562775, 2603753469, 3111765126, 4275559369, 3530198375],
  [3236658799, 1510562775, 1724680191, 3111765126, 4275559369],
  [1927586642, 3236658799, 3598866165, 1724680191, 3111765126],
  [239566206, 1927586642, 4030390171, 3598866165, 1724680191],
  [2765809151, 239566206, 2629380308, 4030390171, 3598866165],
  [1780494504, 2765809151, 2207375199, 2629380308, 4030390171],
  [568785078, 1780494504, 3912677759, 2207375199, 2629380308],
  [694772917, 568785078, 445123626, 3912677759, 2207375199],
  [1296362545, 694772917, 2289679917, 445123626, 3912677759],
  [2946123060, 1296362545, 1247435053, 2289679917, 445123626],
  [4061335111, 2946123060, 1397832460, 1247435053, 2289679917],
  [2538339143, 4061335111, 736530765, 1397832460, 1247435053],
  [312111109, 2538339143, 4236559249, 736530765, 1397832460],
  [2063644534, 312111109, 3855810257, 4236559249, 736530765],
  [3502369552, 2063644534, 1151769601, 3855810257, 4236559249],
  [109488090, 3502369552, 2663394781, 1151769601, 3855810257],
  [3037975212, 109488090, 875592388, 2663394781, 1151769601],
  [2621532110, 3037975212, 2174855670, 875592388, 2663394781],
  [179597270, 2621532110, 759493803, 2174855670, 875592388],
  [2998649647, 179597270, 2802866675, 759493803, 2174855670],
  [384289875, 2998649647, 2192382965, 2802866675, 759493803],
  [1920718360, 384289875, 3970887883, 2192382965, 2802866675],
  [458135699, 1920718360, 3317297940, 3970887883, 2192382965],
  [3408060533, 458135699, 480179590, 3317297940, 3970887883],
  [3296531191, 3408060533, 3335759396, 480179590, 3317297940],
  [1672837896, 3296531191, 1925756957, 3335759396, 480179590],
  [3162840959, 1672837896, 4045358269, 1925756957, 3335759396],
  [901396792, 3162840959, 418209474, 4045358269, 1925756957],
  [75198694, 901396792, 4011935711, 418209474, 4045358269],
  [791169337, 75198694, 225349198, 4011935711, 418209474],
  [3250863911, 791169337, 2166283321, 225349198, 4011935711],
  [1998898716, 3250863911, 1271534158, 2166283321, 225349198],
  [1285396013, 1998898716, 4033941449, 1271534158, 2166283321],
  [4146829721, 1285396013, 499724679, 4033941449, 1271534158],
  [1636010975, 4146829721, 1395090827, 499724679, 4033941449],
  [456394705, 1636010975, 2110449254, 1395090827, 499724679],
  [1652255617, 456394705, 3630228215, 2110449254, 1395090827],
  [3800516987, 1652255617, 1187840500, 3630228215, 2110449254],
  [1534935388, 3800516987, 1486805728, 1187840500, 3630228215],
  [1865097994, 1534935388, 4171354718, 1486805728, 1187840500]]
def tcM : List Int := [98, 108, 111, 98, 32, 49, 51, 0, 116, 101, 115, 116, 32, 99, 111, 110, 116, 101, 110, 116, 10, 128, 0, 0, 0, 0, 0, 0, 0, 0, 0, 0, 0, 0, 0, 0, 0, 0, 0, 0, 0, 0, 0, 0, 0, 0, 0, 0, 0, 0, 0, 0, 0, 0, 0, 0, 0, 0, 0, 0, 0, 0, 0, 168]
def tcokW (t : Nat) : Bool := tcW.getD t 0 == if t < 16 then wordAt tcM t else nextW tcW t
def tcokS (t : Nat) : Bool := tcS.getD (t + 1) [] == h5L (stepW (tcW.getD t 0) t (h5of (tcS.getD t [])))
theorem tcokW_all : (List.range 80).all tcokW = true := by decide +kernel
theorem tcokS_all : (List.range 80).all tcokS = true := by decide +kernel
theorem tcW_len : tcW.length = 80 := by decide
theorem tc_sched (t : Nat) (h : t ≤ 80) : schedTo tcM t = tcW.take t := by
  induction t with
  | zero => rfl
  | succ t ih =>
    have hk := List.all_eq_true.1 tcokW_all t (List.mem_range.2 (by omega))
    have hk := eq_of_beq hk
    rw [schedTo, ih (by omega), List.take_succ_eq_append_getElem (by rw [tcW_len]; omega)]
    congr 2
    rw [List.getD_eq_getElem?_getD, List.getElem?_eq_getElem (by rw [tcW_len]; omega), Option.getD_some] at hk
    rw [hk]
    by_cases h16 : t < 16
    · rw [if_pos h16, if_pos h16]
    · rw [if_neg h16, if_neg h16]
      have e : ∀ j, j < t → (tcW.take t).getD j 0 = tcW.getD j 0 := fun j hj => by
        rw [List.getD_eq_getElem?_getD, List.getD_eq_getElem?_getD, List.getElem?_take_of_lt hj]
      unfold nextW
      rw [e _ (by omega), e _ (by omega), e _ (by omega), e _ (by omega)]
theorem tc_run (t : Nat) (h : t ≤ 80) : runH tcM h0 t = h5of (tcS.getD t []) := by
  induction t with
  | zero => rfl
  | succ t ih =>
    have hk := List.all_eq_true.1 tcokS_all t (List.mem_range.2 (by omega))
    have hk := eq_of_beq hk
    rw [hk, h5of_L, runH, ih (by omega)]
    unfold stepH stepW
    rw [tc_sched 80 (Nat.le_refl _), List.take_of_length_le (Nat.le_of_eq tcW_len)]
theorem tc_mix : mixH h0 tcM = ⟨3597682187, 1263201509, 2438770524, 1758539606, 178250724⟩ := by
  unfold mixH
  rw [tc_run 80 (Nat.le_refl _)]
  have e : ∀ a b c d e a' b' c' d' e' : Int, a = a' → b = b' → c = c' → d = d' → e = e' → H5.mk a b c d e = H5.mk a' b' c' d' e' := by
    intro a b c d e a' b' c' d' e' h1 h2 h3 h4 h5; rw [h1, h2, h3, h4, h5]
  exact e _ _ _ _ _ _ _ _ _ _ (by decide +kernel) (by decide +kernel) (by decide +kernel) (by decide +kernel) (by decide +kernel)
theorem tc_msg : shaMsg [98, 108, 111, 98, 32, 49, 51, 0, 116, 101, 115, 116, 32, 99, 111, 110, 116, 101, 110, 116, 10] 21 = tcM := by decide +kernel
theorem tc_sha : shaAll [98, 108, 111, 98, 32, 49, 51, 0, 116, 101, 115, 116, 32, 99, 111, 110, 116, 101, 110, 116, 10] = [214, 112, 70, 11, 75, 74, 236, 229, 145, 92, 175, 92, 104, 209, 47, 86, 10, 159, 227, 228] := by
  rw [shaAll_eq]
  show shaTo (fb ((shaMsg [98, 108, 111, 98, 32, 49, 51, 0, 116, 101, 115, 116, 32, 99, 111, 110, 116, 101, 110, 116, 10] 21).length / 64) h0 (shaMsg [98, 108, 111, 98, 32, 49, 51, 0, 116, 101, 115, 116, 32, 99, 111, 110, 116, 101, 110, 116, 10] 21)) 5 = _
  rw [tc_msg, show tcM.length / 64 = 1 from by decide]
  show shaTo (mixH h0 tcM) 5 = _
  rw [tc_mix]
  decide +kernel
theorem tc_hex : hexL [214, 112, 70, 11, 75, 74, 236, 229, 145, 92, 175, 92, 104, 209, 47, 86, 10, 159, 227, 228] = [100, 54, 55, 48, 52, 54, 48, 98, 52, 98, 52, 97, 101, 99, 101, 53, 57, 49, 53, 99, 97, 102, 53, 99, 54, 56, 100, 49, 50, 102, 53, 54, 48, 97, 57, 102, 101, 51, 101, 52] := by decide +kernel
theorem tc_head : headL 3 13 = [98, 108, 111, 98, 32, 49, 51, 0] := by
  unfold headL
  rw [digL_big (by decide), digL_small (by decide)]
  decide
theorem tc_id : strOfNums (hexL (shaAll (headL 3 13 ++ [116, 101, 115, 116, 32, 99, 111, 110, 116, 101, 110, 116, 10]))) = ⟨#[100, 54, 55, 48, 52, 54, 48, 98, 52, 98, 52, 97, 101, 99, 101, 53, 57, 49, 53, 99, 97, 102, 53, 99, 54, 56, 100, 49, 50, 102, 53, 54, 48, 97, 57, 102, 101, 51, 101, 52]⟩ := by
  rw [tc_head]
  show strOfNums (hexL (shaAll [98, 108, 111, 98, 32, 49, 51, 0, 116, 101, 115, 116, 32, 99, 111, 110, 116, 101, 110, 116, 10])) = _
  rw [tc_sha, tc_hex]
  kernel_rfl
end Go.Proofs.YtdlabapfcghfmaaGreatDoor
namespace Go.Proofs.YtdlabapfcghfmaaGreatDoor
open Go.RowKit
set_option linter.unusedVariables false
set_option linter.unusedSimpArgs false

theorem and15g (n : Int) : ∃ N : Nat, bits .and .i64 n 15 = (N : Int) ∧ N < 16 := by
  have h127 : (BitVec.ofInt 64 15).toNat = 2 ^ 4 - 1 := by decide
  have key : (BitVec.ofInt 64 n &&& BitVec.ofInt 64 15).toNat = (n % ((2 ^ 64 : Nat) : Int)).toNat % 2 ^ 4 := by
    rw [BitVec.toNat_and, BitVec.toNat_ofInt, h127, Nat.and_two_pow_sub_one_eq_mod]
  refine ⟨(n % ((2 ^ 64 : Nat) : Int)).toNat % 2 ^ 4, ?_, by omega⟩
  show IntKind.i64.wrap ((BitVec.ofInt 64 n &&& BitVec.ofInt 64 15).toNat : Nat) = _
  rw [key, IntWalk.i64_in _ (by omega)]
theorem and24g (n : Int) : ∃ N : Nat, bits .and .i64 n 16777215 = (N : Int) ∧ N < 16777216 := by
  have h127 : (BitVec.ofInt 64 16777215).toNat = 2 ^ 24 - 1 := by decide
  have key : (BitVec.ofInt 64 n &&& BitVec.ofInt 64 16777215).toNat = (n % ((2 ^ 64 : Nat) : Int)).toNat % 2 ^ 24 := by
    rw [BitVec.toNat_and, BitVec.toNat_ofInt, h127, Nat.and_two_pow_sub_one_eq_mod]
  refine ⟨(n % ((2 ^ 64 : Nat) : Int)).toNat % 2 ^ 24, ?_, by omega⟩
  show IntKind.i64.wrap ((BitVec.ofInt 64 n &&& BitVec.ofInt 64 16777215).toNat : Nat) = _
  rw [key, IntWalk.i64_in _ (by omega)]
theorem one_ent (w : World) (a b c : ByteArray) (t : TypeId) : EntsAt (w.alloc (.cells #[.string a, .string b, .string c] t)) (some ⟨w.heap.size, 0, none⟩) [⟨a, b, c⟩] := fun _ => by
  refine ⟨w.heap.size, 0, rfl, by simp, fun i x hx => ?_⟩
  obtain rfl : i = 0 := by
    have := (List.getElem?_eq_some_iff.1 hx).1
    simpa using this
  obtain rfl : (⟨a, b, c⟩ : Ent) = x := by simpa using hx
  exact ⟨by rw [World.cell?_alloc_at _ _ _ _ (by simp)]; rfl, by rw [World.cell?_alloc_at _ _ _ _ (by simp)]; rfl, by rw [World.cell?_alloc_at _ _ _ _ (by simp)]; rfl⟩
def modeG : ByteArray := ⟨#[49, 48, 48, 54, 52, 52]⟩
def fileG : ByteArray := ⟨#[102, 105, 108, 101]⟩
def entG (b : List Int) : ByteArray := (⟨#[49, 48, 48, 54, 52, 52, 32, 102, 105, 108, 101, 0]⟩ : ByteArray) ++ strOfNums b
theorem entG_tree (b : List Int) (hb : Bytes b) (hl : b.length = 20) : bytesOf (entG b) = treeL [⟨modeG, fileG, strOfNums (hexL b)⟩] := by
  have hid : rawL (strOfNums (hexL b)) = b := by
    unfold rawL
    rw [bytesOf_str _ (hexL_ok _ hb)]
    obtain ⟨u1, u2⟩ := unhex_hex _ hb
    unfold hashB
    rw [u1, u2, hl]
    rfl
  unfold entG treeL
  rw [bytesOf_app, bytesOf_str _ hb, List.flatMap_cons, List.flatMap_nil, List.append_nil]
  unfold entL
  simp only
  rw [hid]
  congr 1
def fstG : ByteArray := ⟨#[102, 105, 114, 115, 116, 10]⟩
theorem git_text (h W : ByteArray) : bytesOf ((⟨#[116, 114, 101, 101, 32]⟩ : ByteArray) ++ h ++ (⟨#[10, 97, 117, 116, 104, 111, 114, 32]⟩ : ByteArray) ++ W ++ (⟨#[10, 99, 111, 109, 109, 105, 116, 116, 101, 114, 32]⟩ : ByteArray) ++ W ++ (⟨#[10, 10, 102, 105, 114, 115, 116, 10]⟩ : ByteArray)) = commitL h [] W W fstG := by
  unfold commitL
  rw [show parL [] = [] from rfl, List.append_nil, ← bytesOf_app]
  congr 1
  rw [← bk_of h, ← bk_of W]
  unfold headS tailS treeW nlW authorW committerW nl2W fstG
  show bk [116, 114, 101, 101, 32] ++ bk _ ++ bk [10, 97, 117, 116, 104, 111, 114, 32] ++ bk _ ++ bk [10, 99, 111, 109, 109, 105, 116, 116, 101, 114, 32] ++ bk _ ++ bk [10, 10, 102, 105, 114, 115, 116, 10] = bk [116, 114, 101, 101, 32] ++ bk _ ++ bk [10] ++ (bk [97, 117, 116, 104, 111, 114, 32] ++ bk _ ++ bk [10, 99, 111, 109, 109, 105, 116, 116, 101, 114, 32] ++ bk _ ++ bk [10, 10] ++ bk [102, 105, 114, 115, 116, 10])
  simp only [bk_app]
  congr 1
  simp
theorem git_test (W : World) (hE : EnvO W) : Calls Tryz.prog 8 #[.int .i64 3, .slice (some ⟨W.heap.size, 0, none⟩) 13 13] (W.alloc (.cells #[.int .u8 116, .int .u8 101, .int .u8 115, .int .u8 116, .int .u8 32, .int .u8 99, .int .u8 111, .int .u8 110, .int .u8 116, .int .u8 101, .int .u8 110, .int .u8 116, .int .u8 10] 5 (13, 14))) fun e w' => e = .returned (.string ⟨#[100, 54, 55, 48, 52, 54, 48, 98, 52, 98, 52, 97, 101, 99, 101, 53, 57, 49, 53, 99, 97, 102, 53, 99, 54, 56, 100, 49, 50, 102, 53, 54, 48, 97, 57, 102, 101, 51, 101, 52]⟩) ∧ Below W.heap.size W w' := by
  have hl : Below W.heap.size W (W.alloc (.cells #[.int .u8 116, .int .u8 101, .int .u8 115, .int .u8 116, .int .u8 32, .int .u8 99, .int .u8 111, .int .u8 110, .int .u8 116, .int .u8 101, .int .u8 110, .int .u8 116, .int .u8 10] 5 (13, 14))) := (Below.refl _ _).alloc (Nat.le_refl _) _
  refine (oidB_any 3 (some ⟨W.heap.size, 0, none⟩) 13 13 [116, 101, 115, 116, 32, 99, 111, 110, 116, 101, 110, 116, 10] _ (hE.below hl) (fun _ => ⟨_, 0, rfl, by simp, fun j hj => ?_⟩) rfl (fun x hx => by simp at hx; omega) (by decide)).mono ?_
  · rw [cell_of_row _ _ _ _ _ _ (heap_alloc_new W _)]
    have : j = 0 ∨ j = 1 ∨ j = 2 ∨ j = 3 ∨ j = 4 ∨ j = 5 ∨ j = 6 ∨ j = 7 ∨ j = 8 ∨ j = 9 ∨ j = 10 ∨ j = 11 ∨ j = 12 := by have : j < 13 := hj; omega
    rcases this with rfl | rfl | rfl | rfl | rfl | rfl | rfl | rfl | rfl | rfl | rfl | rfl | rfl <;> rfl
  · rintro e w' ⟨rfl, hb⟩
    refine ⟨?_, hl.trans (hb.mono hl.size)⟩
    unfold oidS
    rw [show ([116, 101, 115, 116, 32, 99, 111, 110, 116, 101, 110, 116, 10] : List Int).length = 13 from rfl, tc_id]
set_option maxRecDepth 100000 in
set_option maxHeartbeats 8000000 in
theorem git_any (n now : Int) (w : World) (hE : EnvO w) : Calls Tryz.prog 4 #[.int .i64 n, .int .i64 now] w fun e w' => e = .returned (.bool true) ∧ Below w.heap.size w w' := by
  have HE := Lib.hid hE
  clear hE
  obtain ⟨N, hN, hNb⟩ := and15g n
  obtain ⟨M, hM, hMb⟩ := and24g now
  go_enter Tryz.func4, Tryz.ntmps4
  go_upto_region 2 with (fail)
  have HNN := Lib.hid hN
  have HMM := Lib.hid hM
  clear hN hM
  go_wp2
  go_loopw [5, 6] (fun v5 v6 wr => ∃ (i : Nat) (S : ByteArray), v5 = .string S ∧ v6 = .int .i64 (i : Int) ∧ i ≤ N ∧ S.size ≤ 30 * i ∧ Below w.heap.size w wr) (fun _ v6 _ => N - (intOf v6).toNat)
  case atStart => exact ⟨0, _, rfl, rfl, Nat.zero_le _, by decide, Below.refl _ _⟩
  case round =>
    obtain ⟨i, S, rfl, rfl, hi, hS, hb⟩ := hrel
    by_cases hlt : i < N
    · have d2 : decide ((i : Int) < (N : Int)) = true := decide_eq_true (by omega)
      have d2' : decide (i < N) = true := decide_eq_true hlt
      have HDG := Lib.hid (digitsB_any i wr (by omega))
      have hds : (strOfNums (digL i)).size ≤ 8 := by rw [strOfNums_size]; exact digL_pow 7 i (by omega)
      generalize strOfNums (digL i) = D at *
      have s1 : S.size ≤ 1000 := by omega
      have HS := Lib.hid hS
      have HDS := Lib.hid hds
      have HB := Lib.hid hb
      clear hb hS
      go_wp2_with (go_at_call 14; refine HDG.out.mono ?_; rintro e w5 ⟨rfl, hb5⟩; have HB5 := Lib.hid (HB.out.trans (hb5.mono HB.out.size)); clear hb5)
      go_roundw
      case rel => exact ⟨i + 1, _, rfl, rfl, by omega, by simp only [ByteArray.size_append]; have := HS.out; have := HDS.out; show S.size + 5 + D.size + 1 ≤ _; omega, HB5.out⟩
      case measure => simp [intOf]; omega
    · have d2 : decide ((i : Int) < (N : Int)) = false := decide_eq_false (by omega)
      have d2' : decide (i < N) = false := decide_eq_false hlt
      have HB := Lib.hid hb
      have s1 : S.size ≤ 1000 := by omega
      clear hb hS
      have hIDb : ∀ W A c, EnvO W → Ints .u8 W A (bytesOf S) → Calls Tryz.prog 8 #[.int .i64 3, .slice A S.size c] W fun e w' => e = .returned (.string (oidS 3 (bytesOf S))) ∧ Below W.heap.size W w' := fun W A c h1 h2 => oidB_any 3 A S.size c (bytesOf S) W h1 h2 (bytesOf_len _) (bytesOf_ok _) (by omega)
      have HIDB := Lib.hid hIDb
      clear hIDb
      go_upto_region 8 with (first
        | (go_at_call 8; go_loud (refine (HIDB.out w5 A5 c5 HE5.out HO5.out.ints).mono ?_; rintro e w6 ⟨rfl, hb6⟩; have HB6 := Lib.hid (HB5.out.trans (hb6.mono HB5.out.size)); clear hb6))
        | (refine wpList_convO rfl (.tmp 30) rfl S S.size (bytesOf S) rfl rfl rfl (by omega) ?_; intro A5 c5 w5 ho5 hc5 hm5 hb5; have HO5 := Lib.hid ho5; have HB5 := Lib.hid (HB.out.trans (hb5.mono HB.out.size)); have HE5 := Lib.hid (HE.out.below HB5.out); clear ho5 hb5 hc5 hm5))
      generalize hH1 : oidS 3 (bytesOf S) = H1 at *
      have HH1 := Lib.hid hH1
      clear hH1 HIDB
      go_upto_region 9 with (fail)
      have hl1 : Below w6.heap.size w6 (w6.alloc (.cells #[.string modeG, .string fileG, .string H1] 28)) := (Below.refl _ _).alloc (Nat.le_refl _) _
      have he1 := one_ent w6 modeG fileG H1 28
      have hsz1 : (w6.alloc (.cells #[.string modeG, .string fileG, .string H1] 28)).heap.size = w6.heap.size + 1 := by simp
      change Code.wp _ _ _ _ ((w6.alloc (.cells #[.string modeG, .string fileG, .string H1] 28)).alloc (.cells #[.slice (some ⟨w6.heap.size, 0, none⟩) 1 1] 36))
      generalize w6.alloc (.cells #[.string modeG, .string fileG, .string H1] 28) = w7 at *
      rw [← hsz1]
      have hl2 : Below w7.heap.size w7 (w7.alloc (.cells #[.slice (some ⟨w6.heap.size, 0, none⟩) 1 1] 36)) := (Below.refl _ _).alloc (Nat.le_refl _) _
      have kt : (w7.alloc (.cells #[.slice (some ⟨w6.heap.size, 0, none⟩) 1 1] 36)).cell? ⟨w7.heap.size, 0, none⟩ = some (.slice (some ⟨w6.heap.size, 0, none⟩) 1 1) := by rw [World.cell?_alloc_at _ _ _ _ (by simp)]; rfl
      have HB8 := Lib.hid ((HB6.out.trans (hl1.mono HB6.out.size)).trans (hl2.mono (Nat.le_trans HB6.out.size hl1.size)))
      have HEN := Lib.hid (he1.below hl2)
      generalize w7.alloc (.cells #[.slice (some ⟨w6.heap.size, 0, none⟩) 1 1] 36) = w8 at *
      generalize w7.heap.size = gt at *
      generalize w6.heap.size = ge at *
      have HE8 := Lib.hid (HE.out.below HB8.out)
      clear hl1 hl2 he1 hsz1 HB6
      have hTLn : (treeL [⟨modeG, fileG, H1⟩]).length = 32 := by
        unfold treeL
        rw [List.flatMap_cons, List.flatMap_nil, List.append_nil, entL_len]
        rfl
      have hTLb := treeL_ok [⟨modeG, fileG, H1⟩]
      have HTB := Lib.hid (treeBytes_any (some ⟨ge, 0, none⟩) 1 1 [⟨modeG, fileG, H1⟩] w8 HEN.out rfl (by omega) (fun x hx => by
        rw [List.mem_singleton.1 hx]
        show H1.size ≤ _
        rw [← HH1.out]
        unfold oidS
        rw [strOfNums_size, hexL_len, oid_sha_len]
        decide) (by omega))
      generalize hTL : treeL [⟨modeG, fileG, H1⟩] = TL at *
      have HTL := Lib.hid hTL
      unfold BytesPost at HTB
      rw [hTLn] at HTB
      have HTN := Lib.hid hTLn
      have HTO := Lib.hid hTLb
      clear hTL hTLn hTLb
      have HID2 := Lib.hid (fun (W : World) (A : Option Addr) (h1 : EnvO W) (h2 : Ints .u8 W A TL) => oidB_any 2 A 32 32 TL W h1 h2 HTN.out HTO.out (by omega))
      go_upto_region 10 with (first
        | (go_at_call 8; go_loud (refine (HID2.out w9 A9 HE9.out HO9.out.ints).mono ?_; rintro e w10 ⟨rfl, hb10⟩; have HB10 := Lib.hid (HB9.out.trans (hb10.mono HB9.out.size)); clear hb10))
        | (go_at_call 11; go_loud (refine HTB.out.mono ?_; rintro e w9 ⟨A9, rfl, ho9, hb9⟩; have HO9 := Lib.hid ho9; have HB9 := Lib.hid (HB8.out.trans (hb9.mono HB8.out.size)); have HE9 := Lib.hid (HE.out.below HB9.out); clear ho9 hb9)))
      generalize hH2 : oidS 2 TL = H2 at *
      have HH2 := Lib.hid hH2
      clear hH2 HID2 kt HTB
      have HDG := Lib.hid (digitsB_any M w10 (by omega))
      have hD2 : (strOfNums (digL M)).size ≤ 8 := by rw [strOfNums_size]; exact digL_pow 7 M (by omega)
      generalize hDD : strOfNums (digL M) = D2 at *
      have HDD := Lib.hid hDD
      clear hDD
      go_upto_region 11 with (go_at_call 14; refine HDG.out.mono ?_; rintro e w11 ⟨rfl, hb11⟩; have HB11 := Lib.hid (HB10.out.trans (hb11.mono HB10.out.size)); clear hb11)
      have hW0 : bk (whoU (digU M)) = (⟨#[65, 32, 85, 32, 84, 104, 111, 114, 32, 60, 97, 117, 116, 104, 111, 114, 64, 101, 120, 97, 109, 112, 108, 101, 46, 99, 111, 109, 62, 32]⟩ : ByteArray) ++ D2 ++ (⟨#[32, 43, 48, 48, 48, 48]⟩ : ByteArray) := by
        rw [← HDD.out, ← bk_of (strOfNums (digL M))]
        show _ = bk [65, 32, 85, 32, 84, 104, 111, 114, 32, 60, 97, 117, 116, 104, 111, 114, 64, 101, 120, 97, 109, 112, 108, 101, 46, 99, 111, 109, 62, 32] ++ bk (digU M) ++ bk [32, 43, 48, 48, 48, 48]
        rw [bk_app, bk_app]
        first | rfl | (congr 1; unfold whoU; simp [whoN, whoM, zoneU])
      have hWs : ((⟨#[65, 32, 85, 32, 84, 104, 111, 114, 32, 60, 97, 117, 116, 104, 111, 114, 64, 101, 120, 97, 109, 112, 108, 101, 46, 99, 111, 109, 62, 32]⟩ : ByteArray) ++ D2 ++ (⟨#[32, 43, 48, 48, 48, 48]⟩ : ByteArray)).size ≤ 44 := by
        rw [ByteArray.size_append, ByteArray.size_append]
        show 30 + D2.size + 6 ≤ 44
        omega
      generalize (⟨#[65, 32, 85, 32, 84, 104, 111, 114, 32, 60, 97, 117, 116, 104, 111, 114, 64, 101, 120, 97, 109, 112, 108, 101, 46, 99, 111, 109, 62, 32]⟩ : ByteArray) ++ D2 ++ (⟨#[32, 43, 48, 48, 48, 48]⟩ : ByteArray) = WHO at *
      have HW0 := Lib.hid hW0
      clear hW0
      have hH2s : H2.size = 40 := by
        rw [← HH2.out]
        unfold oidS
        rw [strOfNums_size, hexL_len, oid_sha_len]
      go_upto_region 12 with (fail)
      have hl12 : Below w11.heap.size w11 (w11.alloc (.cells #[.string H2, .slice none 0 0, .string WHO, .string WHO, .string ⟨#[102, 105, 114, 115, 116, 10]⟩] 44)) := (Below.refl _ _).alloc (Nat.le_refl _) _
      have m0 : (w11.alloc (.cells #[.string H2, .slice none 0 0, .string WHO, .string WHO, .string ⟨#[102, 105, 114, 115, 116, 10]⟩] 44)).cell? ⟨w11.heap.size, 0, none⟩ = some (.string H2) := by rw [World.cell?_alloc_at _ _ _ _ (by simp)]; rfl
      have m1 : (w11.alloc (.cells #[.string H2, .slice none 0 0, .string WHO, .string WHO, .string ⟨#[102, 105, 114, 115, 116, 10]⟩] 44)).cell? ⟨w11.heap.size, 1, none⟩ = some (.slice none 0 0) := by rw [World.cell?_alloc_at _ _ _ _ (by simp)]; rfl
      have m2 : (w11.alloc (.cells #[.string H2, .slice none 0 0, .string WHO, .string WHO, .string ⟨#[102, 105, 114, 115, 116, 10]⟩] 44)).cell? ⟨w11.heap.size, 2, none⟩ = some (.string WHO) := by rw [World.cell?_alloc_at _ _ _ _ (by simp)]; rfl
      have m3 : (w11.alloc (.cells #[.string H2, .slice none 0 0, .string WHO, .string WHO, .string ⟨#[102, 105, 114, 115, 116, 10]⟩] 44)).cell? ⟨w11.heap.size, 3, none⟩ = some (.string WHO) := by rw [World.cell?_alloc_at _ _ _ _ (by simp)]; rfl
      have m4 : (w11.alloc (.cells #[.string H2, .slice none 0 0, .string WHO, .string WHO, .string ⟨#[102, 105, 114, 115, 116, 10]⟩] 44)).cell? ⟨w11.heap.size, 4, none⟩ = some (.string ⟨#[102, 105, 114, 115, 116, 10]⟩) := by rw [World.cell?_alloc_at _ _ _ _ (by simp)]; rfl
      have HB12 := Lib.hid (HB11.out.trans (hl12.mono HB11.out.size))
      generalize w11.alloc (.cells #[.string H2, .slice none 0 0, .string WHO, .string WHO, .string ⟨#[102, 105, 114, 115, 116, 10]⟩] 44) = w12 at *
      generalize w11.heap.size = gc at *
      have HGC : Hid (gc < w12.heap.size) := Lib.hid (World.block_lt_of_cell? w12 _ m0)
      have hM0 := Lib.hid m0
      have hM1 := Lib.hid m1
      have hM2 := Lib.hid m2
      have hM3 := Lib.hid m3
      have hM4 := Lib.hid m4
      clear hl12 m0 m1 m2 m3 m4
      have hb1 := oid_sha_bytes (headL 3 S.size ++ bytesOf S)
      have hn1 := oid_sha_len (headL 3 S.size ++ bytesOf S)
      have hH1 : H1 = strOfNums (hexL (shaAll (headL 3 S.size ++ bytesOf S))) := by
        rw [← HH1.out]
        unfold oidS
        rw [bytesOf_len]
      have HR3 := Lib.hid (fun W => ridB_any 3 S W (by omega))
      rw [← hH1] at HR3
      generalize shaAll (headL 3 S.size ++ bytesOf S) = b1 at *
      have HRW := Lib.hid (fun W => raw8_any b1 W hb1 (by omega))
      rw [← hH1, hn1] at HRW
      have hET := entG_tree b1 hb1 hn1
      rw [← hH1, HTL.out] at hET
      have hes : (entG b1).size = 32 := by rw [← bytesOf_len, hET, HTN.out]
      have HR2 : Hid (∀ W, Calls Tryz.prog 15 #[.int .i64 2, .string (entG b1)] W fun e w' => e = .returned (.string H2) ∧ Below W.heap.size W w') := Lib.hid (fun W => (ridB_any 2 (entG b1) W (by omega)).mono (by
        rintro e w' ⟨rfl, hb⟩
        refine ⟨?_, hb⟩
        rw [hET, hes, ← HH2.out]
        unfold oidS
        rw [HTN.out]))
      unfold entG at HR2
      have hrbs : (strOfNums b1).size = 20 := by rw [strOfNums_size]; exact hn1
      have HBO := Lib.hid hb1
      have HN1 := Lib.hid hn1
      have HH1E := Lib.hid hH1
      clear hb1 hn1 hH1 hET hes
      have HTX := Lib.hid (git_text H2 WHO)
      have hcl : (commitL H2 [] WHO WHO fstG).length = H2.size + WHO.size + WHO.size + 32 := by
        rw [← HTX.out, bytesOf_len]
        simp only [ByteArray.size_append]
        show 5 + H2.size + 8 + WHO.size + 11 + WHO.size + 8 = _
        omega
      have HR1 : Hid (∀ W, Calls Tryz.prog 15 #[.int .i64 1, .string ((⟨#[116, 114, 101, 101, 32]⟩ : ByteArray) ++ H2 ++ (⟨#[10, 97, 117, 116, 104, 111, 114, 32]⟩ : ByteArray) ++ WHO ++ (⟨#[10, 99, 111, 109, 109, 105, 116, 116, 101, 114, 32]⟩ : ByteArray) ++ WHO ++ (⟨#[10, 10, 102, 105, 114, 115, 116, 10]⟩ : ByteArray))] W fun e w' => e = .returned (.string (oidS 1 (commitL H2 [] WHO WHO fstG))) ∧ Below W.heap.size W w') := Lib.hid (fun W => (ridB_any 1 _ W (by rw [← bytesOf_len, HTX.out, hcl]; omega)).mono (by
        rintro e w' ⟨rfl, hb⟩
        refine ⟨?_, hb⟩
        unfold oidS
        rw [← HTX.out, bytesOf_len]))
      have HCB := Lib.hid (fun W => commitBytes_any H2 none 0 0 [] WHO WHO fstG W (fun h => absurd h (by simp)) rfl (by decide) (by omega))
      have hcb := commitL_bk H2 [] WHO WHO fstG
      have hok := commit_made (shaAll (headL 2 TL.length ++ TL)) (oid_sha_bytes _) (oid_sha_len _) M (by omega)
      have hcr : comR H2 [] WHO WHO fstG = ⟨(strOfNums (hexL (shaAll (headL 2 TL.length ++ TL)))).data.toList, [], whoU (digU M), whoU (digU M), firstU⟩ := by
        rw [← HH2.out, ← HW0.out]
        unfold comR oidS
        rw [bk_list]
        rfl
      rw [← hcr] at hok
      have HPC := Lib.hid (fun (W : World) (A : Option Addr) (h1 : EnvO W) (h2 : Ints .u8 W A (commitL H2 [] WHO WHO fstG)) => parseCommit_any A _ _ (commitU (comR H2 [] WHO WHO fstG)) W h1 (by rw [← hcb]; exact h2) rfl (Nat.le_refl _) (by rw [← bk_size, ← bytesOf_len, ← hcb, hcl]; omega) (by rw [← bk_size, ← bytesOf_len, ← hcb, hcl]; omega))
      have hln : (commitU (comR H2 [] WHO WHO fstG)).length = (commitL H2 [] WHO WHO fstG).length := by rw [hcb, bytesOf_len, bk_size]
      have HOID := Lib.hid (fun (W : World) (A : Option Addr) (h1 : EnvO W) (h2 : Ints .u8 W A (commitL H2 [] WHO WHO fstG)) => oidB_any 1 A (commitL H2 [] WHO WHO fstG).length (commitL H2 [] WHO WHO fstG).length (commitL H2 [] WHO WHO fstG) W h1 h2 rfl (by rw [hcb]; exact bytesOf_ok _) (by rw [hcl]; omega))
      have HOKC := Lib.hid hok
      rw [hln] at HPC
      have HPK : Hid (∀ (W : World) (A : Option Addr), EnvO W → Ints .u8 W A (commitL H2 [] WHO WHO fstG) → Calls Tryz.prog 10 #[.int .i64 1, .slice A (commitL H2 [] WHO WHO fstG).length (commitL H2 [] WHO WHO fstG).length] W fun e w' => Below W.heap.size W w' ∧ ∃ v, e = .returned (.tuple #[v, .int .i64 0])) := Lib.hid (fun W A h1 h2 => (HPC.out W A h1 h2).mono (by
        rintro e w' ⟨hb, ⟨hno, _⟩ | ⟨r, A2, _, rfl, _⟩⟩
        · rw [HOKC.out] at hno; cases hno
        · exact ⟨hb, _, rfl⟩))
      unfold BytesPost at HCB
      have HPE : Hid (persB WHO = true) := Lib.hid (by rw [← HW0.out]; exact who_pers M (by omega))
      generalize commitL H2 [] WHO WHO fstG = CL at *
      generalize CL.length = cn at *
      clear hcb hok hcr hln hcl HTX
      go_upto_region 13 with (first
        | (have hm := HB15; go_at_call 15; go_loud (refine (HR1.out w15).mono ?_; rintro e w16 ⟨rfl, hb16⟩; have HB16 := Lib.hid (HB15.out.trans (hb16.mono HB15.out.size)); have HC16 := Lib.hid (HC15.out.trans (hb16.mono HC15.out.size)); clear hb16))
        | (have hm := HB14; go_at_call 15; go_loud (refine (HR2.out w14).mono ?_; rintro e w15 ⟨rfl, hb15⟩; have HB15 := Lib.hid (HB14.out.trans (hb15.mono HB14.out.size)); have HC15 := Lib.hid (HC14.out.trans (hb15.mono HC14.out.size)); clear hb15))
        | (go_at_call 16; go_loud (refine (HRW.out w13).mono ?_; rintro e w14 ⟨A14, c14, rfl, ho14, hb14⟩; have cv14 := run_str_ints (P := Tryz.prog) (w := w14) 24 9 5 Tryz.underlying24 Tryz.underlying5 Tryz.underlying9 A14 c14 b1 ho14.ints; rw [HN1.out] at cv14; have HB14 := Lib.hid (HB13.out.trans (hb14.mono HB13.out.size)); have HC14 := Lib.hid (HC13.out.trans (hb14.mono HC13.out.size)); clear ho14 hb14))
        | (go_at_call 15; go_loud (refine (HR3.out w12).mono ?_; rintro e w13 ⟨rfl, hb13⟩; have HB13 := Lib.hid (HB12.out.trans (hb13.mono HB12.out.size)); have HC13 := Lib.hid hb13; clear hb13)))
      have q0 := (HC16.out.cell (p := ⟨gc, 0, none⟩) HGC.out).trans hM0.out
      have q1 := (HC16.out.cell (p := ⟨gc, 1, none⟩) HGC.out).trans hM1.out
      have q2 := (HC16.out.cell (p := ⟨gc, 2, none⟩) HGC.out).trans hM2.out
      have q3 := (HC16.out.cell (p := ⟨gc, 3, none⟩) HGC.out).trans hM3.out
      have q4 := (HC16.out.cell (p := ⟨gc, 4, none⟩) HGC.out).trans hM4.out
      clear HPC
      generalize oidS 1 CL = H3 at *
      go_upto_region 14 with (first
        | (go_at_call 10; go_loud (refine (HPK.out w17 A17 HE17.out HO17.out.ints).mono ?_; rintro e w18 ⟨hb18, v18, rfl⟩; have HB18 := Lib.hid (HB17.out.trans (hb18.mono HB17.out.size)); have HC18 := Lib.hid (HC17.out.trans (hb18.mono HC17.out.size)); clear hb18))
        | (go_at_call 17; go_loud (refine (HCB.out w16).mono ?_; rintro e w17 ⟨A17, rfl, ho17, hb17⟩; have HO17 := Lib.hid ho17; have HB17 := Lib.hid (HB16.out.trans (hb17.mono HB16.out.size)); have HC17 := Lib.hid (HC16.out.trans (hb17.mono HC16.out.size)); have HE17 := Lib.hid (HE.out.below HB17.out); clear ho17 hb17)))
      have z0 := (HC18.out.cell (p := ⟨gc, 0, none⟩) HGC.out).trans hM0.out
      have z1 := (HC18.out.cell (p := ⟨gc, 1, none⟩) HGC.out).trans hM1.out
      have z2 := (HC18.out.cell (p := ⟨gc, 2, none⟩) HGC.out).trans hM2.out
      have z3 := (HC18.out.cell (p := ⟨gc, 3, none⟩) HGC.out).trans hM3.out
      have z4 := (HC18.out.cell (p := ⟨gc, 4, none⟩) HGC.out).trans hM4.out
      clear q0 q1 q2 q3 q4
      have kc := fun (w : World) => Lib.run_convert_bytes_const (P := Tryz.prog) w 24 5 #[.int .u8 116, .int .u8 101, .int .u8 115, .int .u8 116, .int .u8 32, .int .u8 99, .int .u8 111, .int .u8 110, .int .u8 116, .int .u8 101, .int .u8 110, .int .u8 116, .int .u8 10] 13 13 Tryz.underlying24 Tryz.underlying5
      go_wp2_with (first
        | (go_at_call 13; go_loud (refine (awake8_any w22 HE22.out).mono ?_; rintro e w23 ⟨rfl, hb23⟩; have HB23 := Lib.hid (HB22.out.trans (hb23.mono HB22.out.size)); clear hb23))
        | (have hm := HB21; go_at_call 8; go_loud (refine (git_test w21 HE21.out).mono ?_; rintro e w22 ⟨rfl, hb22⟩; have HB22 := Lib.hid (HB21.out.trans (hb22.mono HB21.out.size)); have HE22 := Lib.hid (HE.out.below HB22.out); clear hb22))
        | (go_at_call 18; go_loud (refine (person_any WHO w20 HE20.out (by omega)).mono ?_; rintro e w21 ⟨rfl, hb21⟩; rw [HPE.out]; have HB21 := Lib.hid (HB20.out.trans (hb21.mono HB20.out.size)); have HE21 := Lib.hid (HE.out.below HB21.out); clear hb21))
        | (have hm := HO19; go_at_call 8; go_loud (refine (HOID.out w19 A19 HE19.out HO19.out.ints).mono ?_; rintro e w20 ⟨rfl, hb20⟩; have HB20 := Lib.hid (HB19.out.trans (hb20.mono HB19.out.size)); have HE20 := Lib.hid (HE.out.below HB20.out); clear hb20))
        | (go_at_call 17; go_loud (refine (HCB.out w18).mono ?_; rintro e w19 ⟨A19, rfl, ho19, hb19⟩; have HO19 := Lib.hid ho19; have HB19 := Lib.hid (HB18.out.trans (hb19.mono HB18.out.size)); have HE19 := Lib.hid (HE.out.below HB19.out); clear ho19 hb19)))
      go_ret
      exact ⟨rfl, HB23.out⟩
theorem objectGit_walk (x0 x1 : Int) (W : World) (hE : EnvO W) (f0 : (Lit.int .i64 x0).wf = true) (f1 : (Lit.int .i64 x1).wf = true) : Calls Tryz.prog 4 #[.int .i64 x0, .int .i64 x1] W fun e w' => e = .returned (.bool true) ∧ Below W.heap.size W w' := git_any x0 x1 W hE
end Go.Proofs.YtdlabapfcghfmaaGreatDoor
