/- IdxFan: plain laws, and the walk. -/
import Derived.Test.YtndjebddgnmpfaaIdxV
import Derived.Test.YtndjebddgnmpfaaOid
namespace Go.Proofs.Ytndjebddgnmpfaa
open Go.RowKit
set_option linter.unusedVariables false
set_option linter.unusedSimpArgs false

/-- A text of forty digits. -/
def hex40 (s : ByteArray) : Prop := s.size = 40 ∧ ∀ x ∈ bytesOf s, (dig x).isSome = true
theorem dig_of_hexd2 (n : Int) (h0 : 0 ≤ n) (h1 : n < 16) : (dig (hexd n)).isSome = true := by
  unfold hexd dig
  by_cases h : n < 10
  · rw [if_pos h, if_pos (by omega)]; rfl
  · rw [if_neg h, if_neg (by omega), if_pos (by omega)]; rfl
theorem hexL_dig : ∀ {xs : List Int}, Bytes xs → ∀ y ∈ hexL xs, (dig y).isSome = true
  | [], _, y, h => by cases h
  | x :: xs, hb, y, h => by
    have hx := hb x (.head _)
    rcases List.mem_append.1 h with h | h
    · simp only [hexOf, List.mem_cons, List.not_mem_nil, or_false] at h
      rcases h with rfl | rfl
      · exact dig_of_hexd2 _ (by omega) (by omega)
      · exact dig_of_hexd2 _ (by omega) (by omega)
    · exact hexL_dig (fun z hz => hb z (.tail _ hz)) y h
theorem hex40_of {xs : List Int} (hl : xs.length = 40) (hb : Bytes xs) (hd : ∀ x ∈ xs, (dig x).isSome = true) : hex40 (strOfNums xs) := by
  refine ⟨by rw [strOfNums_size, hl], fun x hx => ?_⟩
  rw [bytesOf_str xs hb] at hx
  exact hd x hx
theorem hex40.hash {s : ByteArray} (h : hex40 s) : hashB (bytesOf s) = true := by
  obtain ⟨h1, h2⟩ := h
  have hl : (bytesOf s).length = 40 := by rw [bytesOf_len, h1]
  have hat : ∀ j, j < 40 → (dig ((bytesOf s).getD j 0)).isSome = true := fun j hj => by
    rw [List.getD_eq_getElem?_getD, List.getElem?_eq_getElem (by omega)]
    exact h2 _ (List.getElem_mem _)
  have hok : unOk (bytesOf s) = true := unOk_good _ (by omega) (fun j hj => by
    unfold pairOk
    rw [hat (2 * j) (by omega), hat (2 * j + 1) (by omega)]; rfl)
  unfold hashB unV
  rw [hok, if_pos rfl, unTo_len, hl]
  rfl
/-- What the rows of IdxFan's first loop hold. -/
structure FanL (L : List El) : Prop where
  ids : ∀ x ∈ L, hex40 x.id
  ats : ∀ x ∈ L, 0 ≤ x.at_ ∧ x.at_ ≤ 6300
  crcs : ∀ x ∈ L, 0 ≤ x.crc ∧ x.crc < 4294967296
  one : L.Pairwise fun x y => x.id ≠ y.id
theorem FanL.nil : FanL [] := ⟨(fun x h => by cases h), (fun x h => by cases h), (fun x h => by cases h), List.Pairwise.nil⟩
theorem FanL.snoc {L : List El} {x : El} (h : FanL L) (h1 : hex40 x.id) (h2 : 0 ≤ x.at_ ∧ x.at_ ≤ 6300) (h3 : 0 ≤ x.crc ∧ x.crc < 4294967296) (h4 : ∀ y ∈ L, y.id ≠ x.id) : FanL (L ++ [x]) := by
  refine ⟨fun y hy => ?_, fun y hy => ?_, fun y hy => ?_, ?_⟩
  · rcases List.mem_append.1 hy with hy | hy
    · exact h.ids y hy
    · rw [List.mem_singleton.1 hy]; exact h1
  · rcases List.mem_append.1 hy with hy | hy
    · exact h.ats y hy
    · rw [List.mem_singleton.1 hy]; exact h2
  · rcases List.mem_append.1 hy with hy | hy
    · exact h.crcs y hy
    · rw [List.mem_singleton.1 hy]; exact h3
  · refine List.pairwise_append.2 ⟨h.one, List.pairwise_singleton _ _, fun a ha b hb => ?_⟩
    rw [List.mem_singleton.1 hb]; exact h4 a ha
theorem FanL.good {L : List El} (h : FanL L) : GoodS (Srt.isort ltE L) := by
  have hp := Srt.isort_perm (lt := ltE) L
  have h1 : (Srt.isort ltE L).Pairwise fun x y => x.id ≠ y.id := (hp.pairwise_iff (fun h e => h e.symm)).2 h.one
  generalize Srt.isort ltE L = S at *
  intro i hi
  have hx : S[i]? = some S[i] := List.getElem?_eq_getElem hi
  have hm : S[i] ∈ L := hp.mem_iff.1 (List.getElem_mem hi)
  rw [badAt_some hx]
  have ho : okO S[i] = true := by
    unfold okO
    have := h.ats _ hm
    rw [(h.ids _ hm).hash, decide_eq_true this.1, decide_eq_true (by omega : S[i].at_ ≤ 4611686018427387904)]; rfl
  rw [ho]
  by_cases h0 : i = 0
  · subst h0; rfl
  · obtain ⟨j, rfl⟩ : ∃ j, i = j + 1 := ⟨i - 1, by omega⟩
    have hy : S[j]? = some S[j] := List.getElem?_eq_getElem (by omega)
    rw [sameAt_succ hx hy, decide_eq_false (List.pairwise_iff_getElem.1 h1 j (j + 1) (by omega) hi (by omega))]; rfl
theorem FanL.near {L : List El} (h : FanL L) : nfar (Srt.isort ltE L) = 0 := by
  unfold nfar
  rw [List.length_eq_zero_iff, List.filter_eq_nil_iff]
  intro x hx
  have := h.ats x (Srt.mem_isort.1 hx)
  unfold isFar
  simp only [decide_eq_true_eq]
  omega
theorem FanL.build {L : List El} {p : ByteArray} (h : FanL L) (hp : hashB (bytesOf p) = true) (hn : L.length ≤ 63) : BuildOk L p ∧ (buildL (Srt.isort ltE L) (unV (bytesOf p))).length = 1072 + 28 * L.length := by
  have hp2 : (unV (bytesOf p)).length = 20 := by
    simp only [hashB, Bool.and_eq_true, decide_eq_true_eq] at hp
    exact hp.2
  have hg := h.good
  refine ⟨⟨by omega, hp, hg⟩, ?_⟩
  have hr := reads_build (S := Srt.isort ltE L) (P := unV (bytesOf p)) ⟨by rw [Srt.isort_length]; omega, fun x hx => ⟨hg.all hx, h.crcs x (Srt.mem_isort.1 hx)⟩⟩ hp2 (unV_ok _)
  rw [hr.len, Srt.isort_length, h.near]; omega
/-- The last bits of a number. -/
theorem and_le (a : Int) (m : Nat) (hm : m < 9223372036854775808) : ∃ k : Nat, bits .and .i64 a (m : Int) = (k : Int) ∧ k ≤ m := by
  have h2 : (BitVec.ofInt 64 (m : Int)).toNat = m := ofInt_i64 m (by omega)
  refine ⟨(BitVec.ofInt 64 a).toNat &&& m, ?_, Nat.and_le_right⟩
  show IntKind.i64.wrap ((BitVec.ofInt 64 a &&& BitVec.ofInt 64 (m : Int)).toNat : Int) = _
  have h3 : (BitVec.ofInt 64 a).toNat &&& m ≤ m := Nat.and_le_right
  rw [BitVec.toNat_and, h2]
  exact IntWalk.i64_in _ (by omega)
theorem hexIy0 (w : World) : (Instr.index 9 (.string (⟨#[48, 49, 50, 51, 52, 53, 54, 55, 56, 57, 97, 98, 99, 100, 101, 102]⟩ : ByteArray)) (.int .i64 ((0 : Nat) : Int))).run Try.prog w = .ok (.int .u8 48) w := by kernel_rfl
theorem hexIy1 (w : World) : (Instr.index 9 (.string (⟨#[48, 49, 50, 51, 52, 53, 54, 55, 56, 57, 97, 98, 99, 100, 101, 102]⟩ : ByteArray)) (.int .i64 ((1 : Nat) : Int))).run Try.prog w = .ok (.int .u8 49) w := by kernel_rfl
theorem hexIy2 (w : World) : (Instr.index 9 (.string (⟨#[48, 49, 50, 51, 52, 53, 54, 55, 56, 57, 97, 98, 99, 100, 101, 102]⟩ : ByteArray)) (.int .i64 ((2 : Nat) : Int))).run Try.prog w = .ok (.int .u8 50) w := by kernel_rfl
theorem hexIy3 (w : World) : (Instr.index 9 (.string (⟨#[48, 49, 50, 51, 52, 53, 54, 55, 56, 57, 97, 98, 99, 100, 101, 102]⟩ : ByteArray)) (.int .i64 ((3 : Nat) : Int))).run Try.prog w = .ok (.int .u8 51) w := by kernel_rfl
theorem hexIy4 (w : World) : (Instr.index 9 (.string (⟨#[48, 49, 50, 51, 52, 53, 54, 55, 56, 57, 97, 98, 99, 100, 101, 102]⟩ : ByteArray)) (.int .i64 ((4 : Nat) : Int))).run Try.prog w = .ok (.int .u8 52) w := by kernel_rfl
theorem hexIy5 (w : World) : (Instr.index 9 (.string (⟨#[48, 49, 50, 51, 52, 53, 54, 55, 56, 57, 97, 98, 99, 100, 101, 102]⟩ : ByteArray)) (.int .i64 ((5 : Nat) : Int))).run Try.prog w = .ok (.int .u8 53) w := by kernel_rfl
theorem hexIy6 (w : World) : (Instr.index 9 (.string (⟨#[48, 49, 50, 51, 52, 53, 54, 55, 56, 57, 97, 98, 99, 100, 101, 102]⟩ : ByteArray)) (.int .i64 ((6 : Nat) : Int))).run Try.prog w = .ok (.int .u8 54) w := by kernel_rfl
theorem hexIy7 (w : World) : (Instr.index 9 (.string (⟨#[48, 49, 50, 51, 52, 53, 54, 55, 56, 57, 97, 98, 99, 100, 101, 102]⟩ : ByteArray)) (.int .i64 ((7 : Nat) : Int))).run Try.prog w = .ok (.int .u8 55) w := by kernel_rfl
theorem hexIy8 (w : World) : (Instr.index 9 (.string (⟨#[48, 49, 50, 51, 52, 53, 54, 55, 56, 57, 97, 98, 99, 100, 101, 102]⟩ : ByteArray)) (.int .i64 ((8 : Nat) : Int))).run Try.prog w = .ok (.int .u8 56) w := by kernel_rfl
theorem hexIy9 (w : World) : (Instr.index 9 (.string (⟨#[48, 49, 50, 51, 52, 53, 54, 55, 56, 57, 97, 98, 99, 100, 101, 102]⟩ : ByteArray)) (.int .i64 ((9 : Nat) : Int))).run Try.prog w = .ok (.int .u8 57) w := by kernel_rfl
theorem hexIy10 (w : World) : (Instr.index 9 (.string (⟨#[48, 49, 50, 51, 52, 53, 54, 55, 56, 57, 97, 98, 99, 100, 101, 102]⟩ : ByteArray)) (.int .i64 ((10 : Nat) : Int))).run Try.prog w = .ok (.int .u8 97) w := by kernel_rfl
theorem hexIy11 (w : World) : (Instr.index 9 (.string (⟨#[48, 49, 50, 51, 52, 53, 54, 55, 56, 57, 97, 98, 99, 100, 101, 102]⟩ : ByteArray)) (.int .i64 ((11 : Nat) : Int))).run Try.prog w = .ok (.int .u8 98) w := by kernel_rfl
theorem hexIy12 (w : World) : (Instr.index 9 (.string (⟨#[48, 49, 50, 51, 52, 53, 54, 55, 56, 57, 97, 98, 99, 100, 101, 102]⟩ : ByteArray)) (.int .i64 ((12 : Nat) : Int))).run Try.prog w = .ok (.int .u8 99) w := by kernel_rfl
theorem hexIy13 (w : World) : (Instr.index 9 (.string (⟨#[48, 49, 50, 51, 52, 53, 54, 55, 56, 57, 97, 98, 99, 100, 101, 102]⟩ : ByteArray)) (.int .i64 ((13 : Nat) : Int))).run Try.prog w = .ok (.int .u8 100) w := by kernel_rfl
theorem hexIy14 (w : World) : (Instr.index 9 (.string (⟨#[48, 49, 50, 51, 52, 53, 54, 55, 56, 57, 97, 98, 99, 100, 101, 102]⟩ : ByteArray)) (.int .i64 ((14 : Nat) : Int))).run Try.prog w = .ok (.int .u8 101) w := by kernel_rfl
theorem hexIy15 (w : World) : (Instr.index 9 (.string (⟨#[48, 49, 50, 51, 52, 53, 54, 55, 56, 57, 97, 98, 99, 100, 101, 102]⟩ : ByteArray)) (.int .i64 ((15 : Nat) : Int))).run Try.prog w = .ok (.int .u8 102) w := by kernel_rfl
theorem hexIxI (j : Nat) (hj : j < 16) (w : World) : (Instr.index 9 (.string (⟨#[48, 49, 50, 51, 52, 53, 54, 55, 56, 57, 97, 98, 99, 100, 101, 102]⟩ : ByteArray)) (.int .i64 (j : Int))).run Try.prog w = .ok (.int .u8 (hexd (j : Int))) w := by
  rcases (by omega : j = 0 ∨ j = 1 ∨ j = 2 ∨ j = 3 ∨ j = 4 ∨ j = 5 ∨ j = 6 ∨ j = 7 ∨ j = 8 ∨ j = 9 ∨ j = 10 ∨ j = 11 ∨ j = 12 ∨ j = 13 ∨ j = 14 ∨ j = 15) with rfl | rfl | rfl | rfl | rfl | rfl | rfl | rfl | rfl | rfl | rfl | rfl | rfl | rfl | rfl | rfl
  · exact hexIy0 w
  · exact hexIy1 w
  · exact hexIy2 w
  · exact hexIy3 w
  · exact hexIy4 w
  · exact hexIy5 w
  · exact hexIy6 w
  · exact hexIy7 w
  · exact hexIy8 w
  · exact hexIy9 w
  · exact hexIy10 w
  · exact hexIy11 w
  · exact hexIy12 w
  · exact hexIy13 w
  · exact hexIy14 w
  · exact hexIy15 w
/-- A string made into bytes of its own. -/
theorem run_convO (w : World) (s : ByteArray) (n : Nat) (hn : s.size = n) (hsz : n ≤ 140737488351300) : ∃ cap w', (convert 9 24 (.string s)).run Try.prog w = .ok (.slice (some ⟨w.heap.size, 0, none⟩) n cap) w' ∧ OwnS w' w.heap.size 5 1 (.slice (some ⟨w.heap.size, 0, none⟩) n cap) n ((bytesOf s).map (Value.int .u8)) ∧ Below w.heap.size w w' := by
  subst hn
  have hge := grownCap_ge w s.size 0 5
  have hcm : grownCap w s.size 0 5 ≤ maxLen := grownCap_le_maxLen w s.size 0 5 (by unfold maxLen; omega)
  have ho := OwnS.of_str w.drew s 5 _ hge hcm
  exact ⟨_, _, run_bytes_of_string (P := Try.prog) w 9 24 5 s Try.underlying9 Try.underlying24 Try.underlying5, ho, ((Below.refl _ _).drew).alloc (by simp) _⟩
set_option maxRecDepth 100000 in
theorem indexOf_any (c : Int) (w : World) (h0 : 0 ≤ c) (h1 : c < 256) : Calls Try.prog 11 #[.int .u8 c] w fun e w' => (∃ r : Nat, e = .returned (.int .i64 r) ∧ r ≤ 15) ∧ w' = w := by
  have HIX := Lib.hid hexIxI
  go_enter Try.func11, Try.ntmps11
  go_wp2
  go_loopw [3] (fun vi wr => ∃ i : Nat, vi = .int .i64 i ∧ i ≤ 16 ∧ wr = w) (fun vi _ => 16 - (intOf vi).toNat)
  case atStart => exact ⟨0, rfl, Nat.zero_le _, rfl⟩
  case round =>
    obtain ⟨i, rfl, hi, rfl⟩ := hrel
    by_cases hlt : i < 16
    · have d1 : decide ((i : Int) < 16) = true := decide_eq_true (by omega)
      have d1' : decide (i < 16) = true := decide_eq_true hlt
      have hix := HIX.out i hlt wr
      have s1 : IntKind.i64.wrap ((i : Int) + 1) = ((i + 1 : Nat) : Int) := by rw [IntWalk.i64_in _ (by omega)]; omega
      by_cases he : hexd (i : Int) = c
      · have e1 : (hexd (i : Int) == c) = true := by rw [beq_iff_eq]; exact he
        clear he
        go_wp2
        go_ret
        exact ⟨⟨i, rfl, by omega⟩, rfl⟩
      · have e1 : (hexd (i : Int) == c) = false := by rw [beq_eq_false_iff_ne]; exact he
        clear he
        go_wp2
        go_roundw
        case rel => exact ⟨i + 1, by go_num, by omega, by first | rfl | trivial⟩
        case measure => simp [intOf]; omega
    · have d1 : decide ((i : Int) < 16) = false := decide_eq_false (by omega)
      have d1' : decide (i < 16) = false := decide_eq_false hlt
      go_wp2
      go_ret
      exact ⟨⟨0, rfl, by omega⟩, rfl⟩
theorem OwnS.free {w : World} {b g off n c sz j : Nat} {e : TypeId} {xs : List Value} (h : OwnS w b e sz (.slice (some ⟨g, off, none⟩) n c) n xs) (hj : j < xs.length) : w.frozen? ⟨g, off + j, none⟩ = false ∧ ∃ v, w.cell? ⟨g, off + j, none⟩ = some v := by
  refine ⟨?_, ?_⟩
  · rcases h.2 with ⟨hv, _⟩ | ⟨g', off', cap', cur, hv, _, ⟨⟨lo, hi⟩, hg, hf⟩, hn, hm, hs, ht⟩
    · cases hv
    · injection hv with hA _ hc
      injection hA with hA
      injection hA with h1 h2
      subst h1; subst h2; subst hc
      have hl := h.1
      have hmul : n * sz ≤ c * sz := Nat.mul_le_mul_right _ hn
      simp only at hf
      simp only [World.frozen?, hg, Bool.and_eq_false_iff, decide_eq_false_iff_not]
      omega
  · obtain ⟨g', off', c', hv, _, _, hc⟩ := h.cells (by omega)
    injection hv with hA
    injection hA with hA
    injection hA with h1 h2
    subst h1; subst h2
    exact ⟨_, (hc j hj).trans (List.getElem?_eq_getElem hj)⟩
/-- Between the two stores into an ID. -/
def I8 (w8 : World) (gi : Nat) (c1 c2 : Int) : List Value → World → Prop
  | [], w => w = w8.drew
  | [_], w => w = w8.drew.setCell ⟨gi, 0, none⟩ (.int .u8 c1)
  | _, w => w = (w8.drew.setCell ⟨gi, 0, none⟩ (.int .u8 c1)).setCell ⟨gi, 1, none⟩ (.int .u8 c2)
theorem I8.own {w8 w : World} {gi b cap : Nat} {c1 c2 : Int} {xs : List Int} (h : OwnS w8 b 5 1 (.slice (some ⟨gi, 0, none⟩) 40 cap) 40 (xs.map (Value.int .u8))) (hl : xs.length = 40) : ∀ {vs : List Value}, I8 w8 gi c1 c2 vs w → ∃ ys : List Int, ys.length = 40 ∧ OwnS w b 5 1 (.slice (some ⟨gi, 0, none⟩) 40 cap) 40 (ys.map (Value.int .u8)) := by
  have h1 : OwnS (w8.drew.setCell ⟨gi, 0, none⟩ (.int .u8 c1)) b 5 1 (.slice (some ⟨gi, 0, none⟩) 40 cap) 40 ((xs.set 0 c1).map (Value.int .u8)) := by
    rw [List.map_set]
    exact h.drew.setAt (j := 0) (by simp; omega) _
  have h2 : OwnS ((w8.drew.setCell ⟨gi, 0, none⟩ (.int .u8 c1)).setCell ⟨gi, 1, none⟩ (.int .u8 c2)) b 5 1 (.slice (some ⟨gi, 0, none⟩) 40 cap) 40 (((xs.set 0 c1).set 1 c2).map (Value.int .u8)) := by
    rw [List.map_set]
    have := h1.setAt (j := 1) (by simp; omega) (.int .u8 c2)
    rwa [Nat.zero_add] at this
  intro vs hI
  match vs, hI with
  | [], hI => exact ⟨xs, hl, by rw [show w = w8.drew from hI]; exact h.drew⟩
  | [_], hI => exact ⟨xs.set 0 c1, by rw [List.length_set]; exact hl, by rw [show w = _ from hI]; exact h1⟩
  | _ :: _ :: _, hI => exact ⟨(xs.set 0 c1).set 1 c2, by rw [List.length_set, List.length_set]; exact hl, by rw [show w = _ from hI]; exact h2⟩
structure G8 (w8 : World) (gi b cap : Nat) (xs : List Int) : Prop where
  own : OwnS w8 b 5 1 (.slice (some ⟨gi, 0, none⟩) 40 cap) 40 (xs.map (Value.int .u8))
  len : xs.length = 40
theorem I8.cell {w8 w : World} {gi b cap k : Nat} {c1 c2 : Int} {xs : List Int} (h : G8 w8 gi b cap xs) {vs : List Value} (hI : I8 w8 gi c1 c2 vs w) (hk : k < 40) : ∃ v, w.cell? ⟨gi, k, none⟩ = some v := by
  obtain ⟨ys, hl, ho⟩ := I8.own h.own h.len hI
  have := (ho.free (j := k) (by rw [List.length_map, hl]; exact hk)).2
  rwa [Nat.zero_add] at this
theorem I8.free {w8 w : World} {gi b cap k : Nat} {c1 c2 : Int} {xs : List Int} (h : G8 w8 gi b cap xs) {vs : List Value} (hI : I8 w8 gi c1 c2 vs w) (hk : k < 40) : w.frozen? ⟨gi, k, none⟩ = false := by
  obtain ⟨ys, hl, ho⟩ := I8.own h.own h.len hI
  have := (ho.free (j := k) (by rw [List.length_map, hl]; exact hk)).1
  rwa [Nat.zero_add] at this
/-- An ID's bytes as they lie in memory. -/
structure IdAt (w : World) (B gi cap : Nat) (xs : List Int) : Prop where
  own : OwnS w B 5 1 (.slice (some ⟨gi, 0, none⟩) 40 cap) 40 (xs.map (Value.int .u8))
  len : xs.length = 40
  ok : Bytes xs
  dg : ∀ x ∈ xs, (dig x).isSome = true
theorem set_dig {xs : List Int} {k : Nat} {c : Int} (h : ∀ x ∈ xs, (dig x).isSome = true) (hc : (dig c).isSome = true) : ∀ x ∈ xs.set k c, (dig x).isSome = true := fun x hx => by
  rcases List.mem_or_eq_of_mem_set hx with h' | rfl
  · exact h x h'
  · exact hc
theorem set_ok {xs : List Int} {k : Nat} {c : Int} (h : Bytes xs) (hc : 0 ≤ c ∧ c < 256) : Bytes (xs.set k c) := fun x hx => by
  rcases List.mem_or_eq_of_mem_set hx with h' | rfl
  · exact h x h'
  · exact hc
theorem hexd_ok2 (j : Nat) (h : j < 16) : 0 ≤ hexd (j : Int) ∧ hexd (j : Int) < 256 := by unfold hexd; split <;> omega
theorem IdAt.two {w8 w : World} {B gi cap j1 j2 : Nat} {xs : List Int} (h : IdAt w8 B gi cap xs) (h1 : j1 < 16) (h2 : j2 < 16) (hw : w = (w8.drew.setCell ⟨gi, 0, none⟩ (.int .u8 (hexd (j1 : Int)))).setCell ⟨gi, 1, none⟩ (.int .u8 (hexd (j2 : Int)))) : IdAt w B gi cap ((xs.set 0 (hexd (j1 : Int))).set 1 (hexd (j2 : Int))) := by
  subst hw
  refine ⟨?_, by rw [List.length_set, List.length_set, h.len], set_ok (set_ok h.ok (hexd_ok2 j1 h1)) (hexd_ok2 j2 h2), set_dig (set_dig h.dg (dig_of_hexd2 _ (by omega) (by omega))) (dig_of_hexd2 _ (by omega) (by omega))⟩
  have k1 : OwnS (w8.drew.setCell ⟨gi, 0, none⟩ (.int .u8 (hexd (j1 : Int)))) B 5 1 (.slice (some ⟨gi, 0, none⟩) 40 cap) 40 ((xs.set 0 (hexd (j1 : Int))).map (Value.int .u8)) := by
    rw [List.map_set]
    exact h.own.drew.setAt (j := 0) (by have := h.len; simp; omega) _
  rw [List.map_set]
  have := k1.setAt (j := 1) (by have := h.len; simp; omega) (.int .u8 (hexd (j2 : Int)))
  rwa [Nat.zero_add] at this
theorem IdAt.below {w w' : World} {B gi cap : Nat} {xs : List Int} (h : IdAt w B gi cap xs) (hb : Below w.heap.size w w') : IdAt w' B gi cap xs :=
  ⟨h.own.chg (Chg.of_below (S := fun _ => False) hb) (fun _ _ h => h), h.len, h.ok, h.dg⟩
theorem IdAt.conv {w : World} {B gi cap : Nat} {xs : List Int} (h : IdAt w B gi cap xs) (w' : World) (hw : w'.heap = w.heap) : (convert 24 9 (.slice (some ⟨gi, 0, none⟩) 40 cap)).run Try.prog w' = .ok (.string (strOfNums xs)) w' := by
  have := run_str_ints (P := Try.prog) (w := w') 24 9 5 Try.underlying24 Try.underlying5 Try.underlying9 (some ⟨gi, 0, none⟩) cap xs (h.own.ints.heap hw)
  rw [h.len] at this
  exact this
theorem IdAt.one {w : World} {B gi cap j : Nat} {xs : List Int} (h : IdAt w B gi cap xs) (h1 : j < 16) : IdAt (w.setCell ⟨gi, 39, none⟩ (.int .u8 (hexd (j : Int)))) B gi cap (xs.set 39 (hexd (j : Int))) := by
  refine ⟨?_, by rw [List.length_set, h.len], set_ok h.ok (hexd_ok2 j h1), set_dig h.dg (dig_of_hexd2 _ (by omega) (by omega))⟩
  rw [List.map_set]
  have := h.own.setAt (j := 39) (by have := h.len; simp; omega) (.int .u8 (hexd (j : Int)))
  rwa [Nat.zero_add] at this
set_option maxRecDepth 100000 in
set_option maxHeartbeats 8000000 in
theorem idxFan_walk (n0 : Int) (AF : Option Addr) (cF : Nat) (fs : List Int) (W : World) (hF : Ints .i64 W AF fs) (hFl : fs.length ≤ 9223372036854775807) :
    Calls Try.prog 3 #[.int .i64 n0, .slice AF fs.length cF] W fun e w' => e = .returned (.bool true) ∧ Below W.heap.size W w' := by
  have HAW := Lib.hid (fun w => awake12_any w)
  have HIX := Lib.hid hexIxI
  obtain ⟨N, hN, hN63⟩ := and_le n0 63 (by decide)
  obtain ⟨NF, hNF⟩ : ∃ NF, fs.length = NF := ⟨_, rfl⟩
  rw [hNF] at hFl ⊢
  have HF := Lib.hid hF
  have HNF := Lib.hid hNF
  have HN63 := Lib.hid hN63
  have hN : bits .and .i64 n0 63 = (N : Int) := hN
  clear hF hNF
  go_enter Try.func3, Try.ntmps3
  go_wp2
  clear hN
  go_loopw [6, 5] (fun vi vl wr => ∃ (i : Nat) (L : List El) (Al : Option Addr) (cl : Nat), vi = .int .i64 i ∧ vl = .slice Al L.length cl ∧ OwnS wr W.heap.size 30 5 (.slice Al L.length cl) L.length (L.flatMap encE) ∧ FanL L ∧ L.length ≤ i ∧ i ≤ N ∧ Below W.heap.size W wr) (fun vi _ _ => N - (intOf vi).toNat)
  case atStart => exact ⟨0, [], none, 0, rfl, rfl, OwnS.nil _ _ _ _, FanL.nil, Nat.le_refl _, Nat.zero_le _, Below.refl _ _⟩
  case round =>
    obtain ⟨i, L, Al, cl, rfl, rfl, hO, hP, hLi, hi, hB⟩ := hrel
    have hN63 := HN63.out
    by_cases hlt : i < N
    · have d1 : decide ((i : Int) < (N : Int)) = true := decide_eq_true (by omega)
      have d1' : decide (i < N) = true := decide_eq_true hlt
      have HDG := Lib.hid (digits_any i wr (by omega))
      have HID := Lib.hid (fun w => rid_any 3 (strOfNums (digL i)) w (by rw [strOfNums_size]; have := digL_len i; omega))
      obtain ⟨nl, hnl⟩ : ∃ nl, L.length = nl := ⟨_, rfl⟩
      rw [hnl] at hO hLi ⊢
      have HNL := Lib.hid hnl
      have HO := Lib.hid hO
      have HP := Lib.hid hP
      have HB := Lib.hid hB
      have HLI := Lib.hid hLi
      clear hO hP hB hnl hLi
      obtain ⟨SD, hSD⟩ : ∃ SD, strOfNums (digL i) = SD := ⟨_, rfl⟩
      rw [hSD] at HDG HID
      clear hSD
      go_wp2_with fail
      refine HDG.out.mono ?_
      rintro e w1 ⟨rfl, hb1⟩
      have HB1 := Lib.hid hb1
      clear hb1
      go_wp2_with fail
      refine (HID.out w1).mono ?_
      rintro e w2 ⟨rfl, hb2⟩
      have hsb := oid_sha_bytes (headL 3 SD.size ++ bytesOf SD)
      have hsl := oid_sha_len (headL 3 SD.size ++ bytesOf SD)
      generalize shaAll (headL 3 SD.size ++ bytesOf SD) = D at *
      obtain ⟨cap, w8, hcv, ho3, hb3⟩ := run_convO w2 (strOfNums (hexL D)) 40 (by rw [strOfNums_size, hexL_len, hsl]) (by decide)
      rw [bytesOf_str _ (hexL_ok hsb)] at ho3
      have HB3 : Hid (Below W.heap.size W w8) := Lib.hid (HB.out.trans ((HB1.out.trans ((hb2.trans (hb3.mono hb2.size)).mono HB1.out.size)).mono HB.out.size))
      have hgW : W.heap.size ≤ w2.heap.size := Nat.le_trans HB.out.size (Nat.le_trans HB1.out.size hb2.size)
      have HO3 : Hid (OwnS w8 W.heap.size 30 5 (.slice Al nl cl) nl (L.flatMap encE)) := Lib.hid (((HO.out.chg (Chg.of_below (S := fun _ => False) HB1.out) (fun _ _ h => h)).chg (Chg.of_below (S := fun _ => False) hb2) (fun _ _ h => h)).chg (Chg.of_below (S := fun _ => False) hb3) (fun _ _ h => h))
      have HD3 : Hid (IdAt w8 W.heap.size w2.heap.size cap (hexL D)) := Lib.hid ⟨ho3.base_ hgW, by rw [hexL_len, hsl], hexL_ok hsb, hexL_dig hsb⟩
      generalize w2.heap.size = gi at *
      obtain ⟨SH, hSH⟩ : ∃ SH, strOfNums (hexL D) = SH := ⟨_, rfl⟩
      rw [hSH] at hcv ⊢
      generalize hexL D = x0 at *
      clear hb2 hb3 ho3 hsb hsl hSH HO HB HB1 HDG HID
      go_upto_if 34 with (fail)
      go_cut [] (fun wx => ∃ xs, IdAt wx W.heap.size gi cap xs ∧ OwnS wx W.heap.size 30 5 (.slice Al nl cl) nl (L.flatMap encE) ∧ Below W.heap.size W wx)
      case first => as_aux_lemma =>
        by_cases hf : i < NF
        · have d2 : decide ((i : Int) < (NF : Int)) = true := decide_eq_true (by omega)
          have d2' : decide (i < NF) = true := decide_eq_true hf
          have hi2 : (i : Int) < (NF : Int) := by omega
          obtain ⟨bf, of, rfl, hbf, hcf⟩ := HF.out (by have := HNF.out; omega)
          have KF0 := hcf i (by have := HNF.out; omega)
          obtain ⟨F, hFv⟩ : ∃ F, fs.getD i 0 = F := ⟨_, rfl⟩
          rw [hFv] at KF0
          have KF : Hid (w8.cell? ⟨bf, of + i, none⟩ = some (.int .i64 F)) := Lib.hid ((HB3.out.cell (p := ⟨bf, of + i, none⟩) hbf).trans KF0)
          obtain ⟨j1, hj1, hj1b⟩ := and_le F 15 (by decide)
          obtain ⟨j2, hj2, hj2b⟩ := and_le (F / 16) 15 (by decide)
          have hj1 : bits .and .i64 F 15 = (j1 : Int) := hj1
          have hj2 : bits .and .i64 (F / 16) 15 = (j2 : Int) := hj2
          have HJ1 : Hid (j1 < 16) := Lib.hid (by omega)
          have HJ2 : Hid (j2 < 16) := Lib.hid (by omega)
          have HQ8 : Hid (G8 w8 gi W.heap.size cap x0) := Lib.hid ⟨HD3.out.own, HD3.out.len⟩
          clear hcv hcf KF0 hFv hj1b hj2b
          go_upto_region 8 with (fail)
          refine wp_region_ph (by kernel_rfl) [16, 18] [.span 0 0, .span 0 1, .span 0 0, .span 0 0, .span 0 0, .span 0 0, .span 0 0, .span 0 0, .span 0 0, .span 0 0, .span 0 0, .span 0 0, .span 0 1, .span 0 1, .span 0 1, .span 0 0, .phase 0, .span 1 1, .phase 1] [fun z9 => z9 = .slice (some ⟨gi, 0, none⟩) 40 cap, fun z9 => z9 = .slice (some ⟨gi, 0, none⟩) 40 cap, fun z9 => z9 = .slice (some ⟨bf, of, none⟩) NF cF, fun z9 => z9 = .int .i64 (i : Int), fun z9 => z9 = .pointer (some ⟨bf, of + i, none⟩), fun z9 => z9 = .int .i64 (F : Int), fun z9 => z9 = .int .i64 (j1 : Int), fun z9 => z9 = .int .u8 (hexd (j1 : Int)), fun z9 => z9 = .slice (some ⟨bf, of, none⟩) NF cF, fun z9 => z9 = .int .i64 (i : Int), fun z9 => z9 = .pointer (some ⟨bf, of + i, none⟩), fun z9 => z9 = .int .i64 (F : Int), fun z9 => z9 = .int .i64 (F / 16), fun z9 => z9 = .int .i64 (j2 : Int), fun z9 => z9 = .int .u8 (hexd (j2 : Int)), fun z9 => z9 = .pointer (some ⟨gi, 0, none⟩), fun _ => True, fun z9 => z9 = .pointer (some ⟨gi, 1, none⟩), fun _ => True] (I8 w8 gi (hexd (j1 : Int)) (hexd (j2 : Int))) (by kernel_rfl) (by kernel_rfl) (by kernel_rfl) (by kernel_rfl) (by kernel_rfl) (by kernel_rfl) rfl rfl ((show w8.drew = w8.drew from rfl)) ?steps ?done
          case steps =>
            refine ⟨?_, ?_, ?_, ?_, ?_, ?_, ?_, ?_, ?_, ?_, ?_, ?_, ?_, ?_, ?_, ?_, ?_, ?_, ?_, trivial⟩
            · intro us au w1 k0 hlo hhi ha hd hst hI
              obtain rfl : k0 = 0 := by omega
              have q7 := slot_far (t := 7) (v := .slice (some ⟨gi, 0, none⟩) 40 cap) ha (by kernel_rfl) (by kernel_rfl)
              have p7 := slot_norm q7
              clear ha hd hst
              exact StepI.pure (v := .slice (some ⟨gi, 0, none⟩) 40 cap) rfl rfl (by go_simp) ⟨rfl, hI⟩
            · intro us au w1 k1 hlo hhi ha hd hst hI
              have q7 := slot_far (t := 7) (v := .slice (some ⟨gi, 0, none⟩) 40 cap) ha (by kernel_rfl) (by kernel_rfl)
              have p7 := slot_norm q7
              clear ha hd hst
              exact StepI.pure (v := .slice (some ⟨gi, 0, none⟩) 40 cap) rfl rfl (by go_simp) ⟨rfl, hI⟩
            · intro us au w1 k2 hlo hhi ha hd hst hI
              obtain rfl : k2 = 0 := by omega
              have q1 := slot_far (t := 1) (v := .slice (some ⟨bf, of, none⟩) NF cF) ha (by kernel_rfl) (by kernel_rfl)
              have p1 := slot_norm q1
              clear ha hd hst
              exact StepI.pure (v := .slice (some ⟨bf, of, none⟩) NF cF) rfl rfl (by go_simp) ⟨rfl, hI⟩
            · intro us au w1 k3 hlo hhi ha hd hst hI
              obtain rfl : k3 = 0 := by omega
              have q6 := slot_far (t := 6) (v := .int .i64 (i : Int)) ha (by kernel_rfl) (by kernel_rfl)
              have p6 := slot_norm q6
              clear ha hd hst
              exact StepI.pure (v := .int .i64 (i : Int)) rfl rfl (by go_simp) ⟨rfl, hI⟩
            · intro us au w1 k4 hlo hhi ha hd hst hI
              obtain rfl : k4 = 0 := by omega
              have e2 := hd 2 _ (by kernel_rfl) rfl
              have e3 := hd 3 _ (by kernel_rfl) rfl
              have q37 := slot_at (t := 37) 2 ha (by kernel_rfl) (by kernel_rfl) (by kernel_rfl) e2
              have p37 := slot_norm q37
              have q38 := slot_at (t := 38) 3 ha (by kernel_rfl) (by kernel_rfl) (by kernel_rfl) e3
              have p38 := slot_norm q38
              clear ha hd hst
              exact StepI.pure (v := .pointer (some ⟨bf, of + i, none⟩)) rfl rfl (by go_simp) ⟨rfl, hI⟩
            · intro us au w1 k5 hlo hhi ha hd hst hI
              obtain rfl : k5 = 0 := by omega
              have e4 := hd 4 _ (by kernel_rfl) rfl
              have q39 := slot_at (t := 39) 4 ha (by kernel_rfl) (by kernel_rfl) (by kernel_rfl) e4
              have p39 := slot_norm q39
              clear ha hd hst
              have kk : w1.cell? ⟨bf, of + i, none⟩ = some (.int .i64 F) := by
                rw [show w1 = w8.drew from hI]
                exact KF.out
              exact StepI.pure (v := .int .i64 (F : Int)) rfl rfl (by go_simp) ⟨rfl, hI⟩
            · intro us au w1 k6 hlo hhi ha hd hst hI
              obtain rfl : k6 = 0 := by omega
              have e5 := hd 5 _ (by kernel_rfl) rfl
              have q40 := slot_at (t := 40) 5 ha (by kernel_rfl) (by kernel_rfl) (by kernel_rfl) e5
              have p40 := slot_norm q40
              clear ha hd hst
              exact StepI.pure (v := .int .i64 (j1 : Int)) rfl rfl (by go_simp) ⟨rfl, hI⟩
            · intro us au w1 k7 hlo hhi ha hd hst hI
              obtain rfl : k7 = 0 := by omega
              have e6 := hd 6 _ (by kernel_rfl) rfl
              have q41 := slot_at (t := 41) 6 ha (by kernel_rfl) (by kernel_rfl) (by kernel_rfl) e6
              have p41 := slot_norm q41
              clear ha hd hst
              have hix := HIX.out j1 HJ1.out
              exact StepI.pure (v := .int .u8 (hexd (j1 : Int))) rfl rfl (by go_simp) ⟨rfl, hI⟩
            · intro us au w1 k8 hlo hhi ha hd hst hI
              obtain rfl : k8 = 0 := by omega
              have q1 := slot_far (t := 1) (v := .slice (some ⟨bf, of, none⟩) NF cF) ha (by kernel_rfl) (by kernel_rfl)
              have p1 := slot_norm q1
              clear ha hd hst
              exact StepI.pure (v := .slice (some ⟨bf, of, none⟩) NF cF) rfl rfl (by go_simp) ⟨rfl, hI⟩
            · intro us au w1 k9 hlo hhi ha hd hst hI
              obtain rfl : k9 = 0 := by omega
              have q6 := slot_far (t := 6) (v := .int .i64 (i : Int)) ha (by kernel_rfl) (by kernel_rfl)
              have p6 := slot_norm q6
              clear ha hd hst
              exact StepI.pure (v := .int .i64 (i : Int)) rfl rfl (by go_simp) ⟨rfl, hI⟩
            · intro us au w1 k10 hlo hhi ha hd hst hI
              obtain rfl : k10 = 0 := by omega
              have e8 := hd 8 _ (by kernel_rfl) rfl
              have e9 := hd 9 _ (by kernel_rfl) rfl
              have q43 := slot_at (t := 43) 8 ha (by kernel_rfl) (by kernel_rfl) (by kernel_rfl) e8
              have p43 := slot_norm q43
              have q44 := slot_at (t := 44) 9 ha (by kernel_rfl) (by kernel_rfl) (by kernel_rfl) e9
              have p44 := slot_norm q44
              clear ha hd hst
              exact StepI.pure (v := .pointer (some ⟨bf, of + i, none⟩)) rfl rfl (by go_simp) ⟨rfl, hI⟩
            · intro us au w1 k11 hlo hhi ha hd hst hI
              obtain rfl : k11 = 0 := by omega
              have e10 := hd 10 _ (by kernel_rfl) rfl
              have q45 := slot_at (t := 45) 10 ha (by kernel_rfl) (by kernel_rfl) (by kernel_rfl) e10
              have p45 := slot_norm q45
              clear ha hd hst
              have kk : w1.cell? ⟨bf, of + i, none⟩ = some (.int .i64 F) := by
                rw [show w1 = w8.drew from hI]
                exact KF.out
              exact StepI.pure (v := .int .i64 (F : Int)) rfl rfl (by go_simp) ⟨rfl, hI⟩
            · intro us au w1 k12 hlo hhi ha hd hst hI
              have e11 := hd 11 _ (by kernel_rfl) rfl
              have q46 := slot_at (t := 46) 11 ha (by kernel_rfl) (by kernel_rfl) (by kernel_rfl) e11
              have p46 := slot_norm q46
              clear ha hd hst
              exact StepI.pure (v := .int .i64 (F / 16)) rfl rfl (by go_simp) ⟨rfl, hI⟩
            · intro us au w1 k13 hlo hhi ha hd hst hI
              have e12 := hd 12 _ (by kernel_rfl) rfl
              have q47 := slot_at (t := 47) 12 ha (by kernel_rfl) (by kernel_rfl) (by kernel_rfl) e12
              have p47 := slot_norm q47
              clear ha hd hst
              exact StepI.pure (v := .int .i64 (j2 : Int)) rfl rfl (by go_simp) ⟨rfl, hI⟩
            · intro us au w1 k14 hlo hhi ha hd hst hI
              have e13 := hd 13 _ (by kernel_rfl) rfl
              have q48 := slot_at (t := 48) 13 ha (by kernel_rfl) (by kernel_rfl) (by kernel_rfl) e13
              have p48 := slot_norm q48
              clear ha hd hst
              have hix := HIX.out j2 HJ2.out
              exact StepI.pure (v := .int .u8 (hexd (j2 : Int))) rfl rfl (by go_simp) ⟨rfl, hI⟩
            · intro us au w1 k15 hlo hhi ha hd hst hI
              obtain rfl : k15 = 0 := by omega
              have e0 := hd 0 _ (by kernel_rfl) rfl
              have q35 := slot_at (t := 35) 0 ha (by kernel_rfl) (by kernel_rfl) (by kernel_rfl) e0
              have p35 := slot_norm q35
              clear ha hd hst
              exact StepI.pure (v := .pointer (some ⟨gi, 0, none⟩)) rfl rfl (by go_simp) ⟨rfl, hI⟩
            · intro us au w1 ha hd hst hI
              have e15 := hd 15 _ (by kernel_rfl) rfl
              have e7 := hd 7 _ (by kernel_rfl) rfl
              have q50 := slot_at (t := 50) 15 ha (by kernel_rfl) (by kernel_rfl) (by kernel_rfl) e15
              have p50 := slot_norm q50
              have q42 := slot_at (t := 42) 7 ha (by kernel_rfl) (by kernel_rfl) (by kernel_rfl) e7
              have p42 := slot_norm q42
              clear ha hd hst
              have k0 : ∃ v, w1.cell? ⟨gi, 0, none⟩ = some v := I8.cell HQ8.out hI (by decide)
              obtain ⟨v0, k0⟩ := k0
              have f0 : w1.frozen? ⟨gi, 0, none⟩ = false := I8.free HQ8.out hI (by decide)
              exact StepI.stored (w' := w1.setCell ⟨gi, 0, none⟩ (.int .u8 (hexd (j1 : Int)))) rfl rfl (by go_simp) ⟨trivial, by rw [hI]; rfl⟩
            · intro us au w1 k17 hlo hhi ha hd hst hI
              obtain rfl : k17 = 1 := by omega
              have e1 := hd 1 _ (by kernel_rfl) rfl
              have q36 := slot_at (t := 36) 1 ha (by kernel_rfl) (by kernel_rfl) (by kernel_rfl) e1
              have p36 := slot_norm q36
              clear ha hd hst
              exact StepI.pure (v := .pointer (some ⟨gi, 1, none⟩)) rfl rfl (by go_simp) ⟨rfl, hI⟩
            · intro us au w1 ha hd hst hI
              have e17 := hd 17 _ (by kernel_rfl) rfl
              have e14 := hd 14 _ (by kernel_rfl) rfl
              have q51 := slot_at (t := 51) 17 ha (by kernel_rfl) (by kernel_rfl) (by kernel_rfl) e17
              have p51 := slot_norm q51
              have q49 := slot_at (t := 49) 14 ha (by kernel_rfl) (by kernel_rfl) (by kernel_rfl) e14
              have p49 := slot_norm q49
              clear ha hd hst
              have k0 : ∃ v, w1.cell? ⟨gi, 1, none⟩ = some v := I8.cell HQ8.out hI (by decide)
              obtain ⟨v0, k0⟩ := k0
              have f0 : w1.frozen? ⟨gi, 1, none⟩ = false := I8.free HQ8.out hI (by decide)
              exact StepI.stored (w' := w1.setCell ⟨gi, 1, none⟩ (.int .u8 (hexd (j2 : Int)))) rfl rfl (by go_simp) ⟨trivial, by rw [hI]; rfl⟩
          case done =>
            intro us w1 hI hd
            have hI : w1 = (w8.drew.setCell ⟨gi, 0, none⟩ (.int .u8 (hexd (j1 : Int)))).setCell ⟨gi, 1, none⟩ (.int .u8 (hexd (j2 : Int))) := hI
            have hid := HD3.out.two HJ1.out HJ2.out hI
            have hgi := (HD3.out.own.lt gi rfl).1
            have hrow : OwnS w1 W.heap.size 30 5 (.slice Al nl cl) nl (L.flatMap encE) := by
              have hc : Chg (fun k => k = gi) w8 w1 := by
                rw [hI]
                exact (((Chg.refl (fun k => k = gi) w8).drew).setCell (a := ⟨gi, 0, none⟩) (.inl rfl) _).setCell (a := ⟨gi, 1, none⟩) (.inl rfl) _
              exact HO3.out.chg hc (fun k hk hs => by subst hs; exact HD3.out.own.ne_own HO3.out (by decide) k rfl hk)
            have hbl : Below W.heap.size W w1 := by
              rw [hI]
              exact Below.setCell (Below.setCell HB3.out.drew (show W.heap.size ≤ gi from hgi) _) (show W.heap.size ≤ gi from hgi) _
            have HR := Lib.hid (And.intro hid (And.intro hrow hbl))
            clear hd hI hid hrow hbl
            simp only [putAll]
            go_simp
            go_wp2
            go_meet
            exact ⟨_, HR.out.1, HR.out.2.1, HR.out.2.2⟩
        · have d2 : decide ((i : Int) < (NF : Int)) = false := decide_eq_false (by omega)
          have d2' : decide (i < NF) = false := decide_eq_false hf
          clear hcv
          go_wp2
          go_meet
          exact ⟨_, HD3.out, HO3.out, HB3.out⟩
      case rest =>
        obtain ⟨xs, hid, hO, hB⟩ := hcut
        have HID := Lib.hid hid
        have HO := Lib.hid hO
        have HB := Lib.hid hB
        clear hid hO hB hcv HO3 HB3 HD3 HF
        obtain ⟨IDS, hIDS⟩ : ∃ IDS, strOfNums xs = IDS := ⟨_, rfl⟩
        have HIDS := Lib.hid hIDS
        have HX40 : Hid (hex40 IDS) := Lib.hid (by rw [← hIDS]; exact hex40_of HID.out.len HID.out.ok HID.out.dg)
        have HCV : Hid (∀ w', w'.heap = wc.heap → (convert 24 9 (.slice (some ⟨gi, 0, none⟩) 40 cap)).run Try.prog w' = .ok (.string IDS) w') := Lib.hid (fun w' h => by rw [← hIDS]; exact HID.out.conv w' h)
        clear hIDS d1 d1'
        go_wp2
        go_loopw [9, 8] (fun vk vo wr => ∃ k m : Nat, vk = .int .i64 k ∧ vo = .bool (hasB L IDS k) ∧ k ≤ nl ∧ wr = wc.drewN m) (fun vk _ _ => nl - (intOf vk).toNat)
        case atStart => exact ⟨0, 0, rfl, rfl, Nat.zero_le _, rfl⟩
        case round =>
          obtain ⟨k, m, rfl, rfl, hk, rfl⟩ := hrel
          by_cases hkl : k < nl
          · have d1 : decide ((k : Int) < (nl : Int)) = true := decide_eq_true (by omega)
            have d1' : decide (k < nl) = true := decide_eq_true hkl
            have hk0 : (0 : Int) ≤ (k : Int) := by omega
            have hk2 : (k : Int) < (nl : Int) := by omega
            have hnl63 : nl ≤ 63 := by have h1 := HLI.out; have h2 := HN63.out; omega
            have s1 : IntKind.i64.wrap ((k : Int) + 1) = ((k + 1 : Nat) : Int) := by rw [IntWalk.i64_in _ (by omega)]; omega
            obtain ⟨y, hy⟩ : ∃ y, L[k]? = some y := ⟨_, List.getElem?_eq_getElem (by rw [HNL.out]; exact hkl)⟩
            obtain ⟨gl, ol, rfl, hgl, hcl⟩ := ObE.of_own HO.out (by rw [HNL.out]; omega)
            have HHS := Lib.hid (hasB_succ (t := IDS) hy)
            obtain ⟨wk, hwk⟩ : ∃ wk, wk = wc.drewN m := ⟨_, rfl⟩
            have KY : Hid (wk.cell? ⟨gl, ol + k * 5 + 2, none⟩ = some (.string y.id)) := Lib.hid (by rw [hwk]; exact hcl k 2 y hy (by decide))
            have KV : Hid (∀ w', w'.heap = wk.heap → (convert 24 9 (.slice (some ⟨gi, 0, none⟩) 40 cap)).run Try.prog w' = .ok (.string IDS) w') := Lib.hid (fun w' h => HCV.out w' (by rw [h, hwk]; rfl))
            have hq0 := str_beq y.id IDS
            obtain ⟨q, hq⟩ : ∃ q, decide (y.id = IDS) = q := ⟨_, rfl⟩
            rw [hq] at hq0 HHS
            have HQ := Lib.hid hq0
            obtain ⟨hv, hhv⟩ : ∃ hv, hasB L IDS k = hv := ⟨_, rfl⟩
            rw [hhv] at HHS ⊢
            clear hy hgl hcl hq hq0 hhv
            have HWK := Lib.hid hwk
            rw [← hwk]
            clear hwk
            cases hv
            · go_upto_region 13 with (fail)
              refine wp_region_ph (by kernel_rfl) [] [.span 0 0, .span 0 0, .span 0 0, .span 0 0, .span 0 0, .span 0 0, .span 0 0, .span 0 0, .span 0 0, .span 0 0, .span 0 0, .span 0 0] [fun z9 => z9 = .bool false, fun z9 => z9 = .bool false, fun z9 => z9 = .slice (some ⟨gl, ol, none⟩) nl cl, fun z9 => z9 = .int .i64 (k : Int), fun z9 => z9 = .pointer (some ⟨gl, ol + k * 5, none⟩), fun z9 => z9 = .pointer (some ⟨gl, ol + k * 5 + 2, none⟩), fun z9 => z9 = .string y.id, fun z9 => z9 = .slice (some ⟨gi, 0, none⟩) 40 cap, fun z9 => z9 = .string IDS, fun z9 => z9 = .bool q, fun z9 => z9 = .bool q, fun z9 => z9 = .bool q] ((fun _ w => w = wk.drew)) (by kernel_rfl) (by kernel_rfl) (by kernel_rfl) (by kernel_rfl) (by kernel_rfl) (by kernel_rfl) rfl rfl (rfl) ?steps ?done
              case steps =>
                refine ⟨?_, ?_, ?_, ?_, ?_, ?_, ?_, ?_, ?_, ?_, ?_, ?_, trivial⟩
                · intro us au w1 k0 hlo hhi ha hd hst hI
                  obtain rfl : k0 = 0 := by omega
                  have q8 := slot_start (t := 8) (v := .bool false) 11 ha (hst 11 (by decide) (by kernel_rfl)) (by kernel_rfl) (by kernel_rfl) (by kernel_rfl) (by kernel_rfl)
                  have p8 := slot_norm q8
                  clear ha hd hst
                  exact StepI.pure (v := .bool false) rfl rfl (by go_simp) ⟨rfl, hI⟩
                · intro us au w1 k1 hlo hhi ha hd hst hI
                  obtain rfl : k1 = 0 := by omega
                  have e0 := hd 0 _ (by kernel_rfl) rfl
                  have q58 := slot_at (t := 58) 0 ha (by kernel_rfl) (by kernel_rfl) (by kernel_rfl) e0
                  have p58 := slot_norm q58
                  clear ha hd hst
                  exact StepI.pure (v := .bool false) rfl rfl (by go_simp) ⟨rfl, hI⟩
                · intro us au w1 k2 hlo hhi ha hd hst hI
                  obtain rfl : k2 = 0 := by omega
                  have e1 := hd 1 _ (by kernel_rfl) rfl
                  have q5 := slot_far (t := 5) (v := .slice (some ⟨gl, ol, none⟩) nl cl) ha (by kernel_rfl) (by kernel_rfl)
                  have p5 := slot_norm q5
                  have hg := slot_at (t := 59) 1 ha (by kernel_rfl) (by kernel_rfl) (by kernel_rfl) e1
                  clear ha hd hst
                  exact StepI.pure (v := .slice (some ⟨gl, ol, none⟩) nl cl) rfl (wanted_at rfl rfl hg) (by go_simp) ⟨rfl, hI⟩
                · intro us au w1 k3 hlo hhi ha hd hst hI
                  obtain rfl : k3 = 0 := by omega
                  have e1 := hd 1 _ (by kernel_rfl) rfl
                  have q9 := slot_far (t := 9) (v := .int .i64 (k : Int)) ha (by kernel_rfl) (by kernel_rfl)
                  have p9 := slot_norm q9
                  have hg := slot_at (t := 59) 1 ha (by kernel_rfl) (by kernel_rfl) (by kernel_rfl) e1
                  clear ha hd hst
                  exact StepI.pure (v := .int .i64 (k : Int)) rfl (wanted_at rfl rfl hg) (by go_simp) ⟨rfl, hI⟩
                · intro us au w1 k4 hlo hhi ha hd hst hI
                  obtain rfl : k4 = 0 := by omega
                  have e2 := hd 2 _ (by kernel_rfl) rfl
                  have e3 := hd 3 _ (by kernel_rfl) rfl
                  have e1 := hd 1 _ (by kernel_rfl) rfl
                  have q60 := slot_at (t := 60) 2 ha (by kernel_rfl) (by kernel_rfl) (by kernel_rfl) e2
                  have p60 := slot_norm q60
                  have q61 := slot_at (t := 61) 3 ha (by kernel_rfl) (by kernel_rfl) (by kernel_rfl) e3
                  have p61 := slot_norm q61
                  have hg := slot_at (t := 59) 1 ha (by kernel_rfl) (by kernel_rfl) (by kernel_rfl) e1
                  clear ha hd hst
                  exact StepI.pure (v := .pointer (some ⟨gl, ol + k * 5, none⟩)) rfl (wanted_at rfl rfl hg) (by go_simp) ⟨rfl, hI⟩
                · intro us au w1 k5 hlo hhi ha hd hst hI
                  obtain rfl : k5 = 0 := by omega
                  have e4 := hd 4 _ (by kernel_rfl) rfl
                  have e1 := hd 1 _ (by kernel_rfl) rfl
                  have q62 := slot_at (t := 62) 4 ha (by kernel_rfl) (by kernel_rfl) (by kernel_rfl) e4
                  have p62 := slot_norm q62
                  have hg := slot_at (t := 59) 1 ha (by kernel_rfl) (by kernel_rfl) (by kernel_rfl) e1
                  clear ha hd hst
                  exact StepI.pure (v := .pointer (some ⟨gl, ol + k * 5 + 2, none⟩)) rfl (wanted_at rfl rfl hg) (by go_simp) ⟨rfl, hI⟩
                · intro us au w1 k6 hlo hhi ha hd hst hI
                  obtain rfl : k6 = 0 := by omega
                  have e5 := hd 5 _ (by kernel_rfl) rfl
                  have e1 := hd 1 _ (by kernel_rfl) rfl
                  have q63 := slot_at (t := 63) 5 ha (by kernel_rfl) (by kernel_rfl) (by kernel_rfl) e5
                  have p63 := slot_norm q63
                  have hg := slot_at (t := 59) 1 ha (by kernel_rfl) (by kernel_rfl) (by kernel_rfl) e1
                  clear ha hd hst
                  have kk := KY.out
                  exact StepI.pure (v := .string y.id) rfl (wanted_at rfl rfl hg) (by go_simp) ⟨rfl, hI⟩
                · intro us au w1 k7 hlo hhi ha hd hst hI
                  obtain rfl : k7 = 0 := by omega
                  have e1 := hd 1 _ (by kernel_rfl) rfl
                  have q7 := slot_far (t := 7) (v := .slice (some ⟨gi, 0, none⟩) 40 cap) ha (by kernel_rfl) (by kernel_rfl)
                  have p7 := slot_norm q7
                  have hg := slot_at (t := 59) 1 ha (by kernel_rfl) (by kernel_rfl) (by kernel_rfl) e1
                  clear ha hd hst
                  exact StepI.pure (v := .slice (some ⟨gi, 0, none⟩) 40 cap) rfl (wanted_at rfl rfl hg) (by go_simp) ⟨rfl, hI⟩
                · intro us au w1 k8 hlo hhi ha hd hst hI
                  obtain rfl : k8 = 0 := by omega
                  have e7 := hd 7 _ (by kernel_rfl) rfl
                  have e1 := hd 1 _ (by kernel_rfl) rfl
                  have q65 := slot_at (t := 65) 7 ha (by kernel_rfl) (by kernel_rfl) (by kernel_rfl) e7
                  have p65 := slot_norm q65
                  have hg := slot_at (t := 59) 1 ha (by kernel_rfl) (by kernel_rfl) (by kernel_rfl) e1
                  clear ha hd hst
                  have hcv := KV.out wk.drew rfl
                  exact StepI.pure (v := .string IDS) rfl (wanted_at rfl rfl hg) (by go_simp) ⟨rfl, hI⟩
                · intro us au w1 k9 hlo hhi ha hd hst hI
                  obtain rfl : k9 = 0 := by omega
                  have e6 := hd 6 _ (by kernel_rfl) rfl
                  have e8 := hd 8 _ (by kernel_rfl) rfl
                  have e1 := hd 1 _ (by kernel_rfl) rfl
                  have q64 := slot_at (t := 64) 6 ha (by kernel_rfl) (by kernel_rfl) (by kernel_rfl) e6
                  have p64 := slot_norm q64
                  have q66 := slot_at (t := 66) 8 ha (by kernel_rfl) (by kernel_rfl) (by kernel_rfl) e8
                  have p66 := slot_norm q66
                  have hg := slot_at (t := 59) 1 ha (by kernel_rfl) (by kernel_rfl) (by kernel_rfl) e1
                  clear ha hd hst
                  have hq := HQ.out
                  exact StepI.pure (v := .bool q) rfl (wanted_at rfl rfl hg) (by go_simp) ⟨rfl, hI⟩
                · intro us au w1 k10 hlo hhi ha hd hst hI
                  obtain rfl : k10 = 0 := by omega
                  have e1 := hd 1 _ (by kernel_rfl) rfl
                  have e9 := hd 9 _ (by kernel_rfl) rfl
                  have q59 := slot_at (t := 59) 1 ha (by kernel_rfl) (by kernel_rfl) (by kernel_rfl) e1
                  have p59 := slot_norm q59
                  have q67 := slot_at (t := 67) 9 ha (by kernel_rfl) (by kernel_rfl) (by kernel_rfl) e9
                  have p67 := slot_norm q67
                  clear ha hd hst
                  exact StepI.pure (v := .bool q) rfl rfl (by go_simp) ⟨rfl, hI⟩
                · intro us au w1 k11 hlo hhi ha hd hst hI
                  obtain rfl : k11 = 0 := by omega
                  have e10 := hd 10 _ (by kernel_rfl) rfl
                  have q68 := slot_at (t := 68) 10 ha (by kernel_rfl) (by kernel_rfl) (by kernel_rfl) e10
                  have p68 := slot_norm q68
                  clear ha hd hst
                  exact StepI.pure (v := .bool q) rfl rfl (by go_simp) ⟨rfl, hI⟩
              case done =>
                intro us w1 hI hd
                have hI : w1 = wk.drew := hI
                have e11 := hd 11 _ (by decide) rfl
                have HWN : Hid (w1 = wc.drewN (m + 1) ∧ wk.drew = wc.drewN (m + 1)) := Lib.hid ⟨by rw [hI, HWK.out]; rfl, by rw [HWK.out]; rfl⟩
                clear hd hI
                simp only [putAll]
                go_simp
                go_wp2
                go_roundw
                case rel =>
                  exact ⟨k + 1, m + 1, by go_num, by rw [HHS.out]; rfl, by omega, by first | exact HWN.out.1 | exact HWN.out.2⟩
                case measure => simp [intOf]; omega
            · go_upto_region 13 with (fail)
              refine wp_region_ph (by kernel_rfl) [] [.span 0 0, .span 0 0, .span 0 0, .span 0 0, .span 0 0, .span 0 0, .span 0 0, .span 0 0, .span 0 0, .span 0 0, .span 0 0, .span 0 0] [fun z9 => z9 = .bool true, fun z9 => z9 = .bool true, fun z9 => z9 = undef, fun z9 => z9 = undef, fun z9 => z9 = undef, fun z9 => z9 = undef, fun z9 => z9 = undef, fun z9 => z9 = undef, fun z9 => z9 = undef, fun z9 => z9 = undef, fun z9 => z9 = .bool true, fun z9 => z9 = .bool true] ((fun _ w => w = wk.drew)) (by kernel_rfl) (by kernel_rfl) (by kernel_rfl) (by kernel_rfl) (by kernel_rfl) (by kernel_rfl) rfl rfl (rfl) ?steps ?done
              case steps =>
                refine ⟨?_, ?_, ?_, ?_, ?_, ?_, ?_, ?_, ?_, ?_, ?_, ?_, trivial⟩
                · intro us au w1 k0 hlo hhi ha hd hst hI
                  obtain rfl : k0 = 0 := by omega
                  have q8 := slot_start (t := 8) (v := .bool true) 11 ha (hst 11 (by decide) (by kernel_rfl)) (by kernel_rfl) (by kernel_rfl) (by kernel_rfl) (by kernel_rfl)
                  have p8 := slot_norm q8
                  clear ha hd hst
                  exact StepI.pure (v := .bool true) rfl rfl (by go_simp) ⟨rfl, hI⟩
                · intro us au w1 k1 hlo hhi ha hd hst hI
                  obtain rfl : k1 = 0 := by omega
                  have e0 := hd 0 _ (by kernel_rfl) rfl
                  have q58 := slot_at (t := 58) 0 ha (by kernel_rfl) (by kernel_rfl) (by kernel_rfl) e0
                  have p58 := slot_norm q58
                  clear ha hd hst
                  exact StepI.pure (v := .bool true) rfl rfl (by go_simp) ⟨rfl, hI⟩
                · intro us au w1 k2 hlo hhi ha hd hst hI
                  obtain rfl : k2 = 0 := by omega
                  have e1 := hd 1 _ (by kernel_rfl) rfl
                  have hg := slot_at (t := 59) 1 ha (by kernel_rfl) (by kernel_rfl) (by kernel_rfl) e1
                  exact StepI.skip rfl (unwanted_at rfl rfl hg rfl) ⟨rfl, hI⟩
                · intro us au w1 k3 hlo hhi ha hd hst hI
                  obtain rfl : k3 = 0 := by omega
                  have e1 := hd 1 _ (by kernel_rfl) rfl
                  have hg := slot_at (t := 59) 1 ha (by kernel_rfl) (by kernel_rfl) (by kernel_rfl) e1
                  exact StepI.skip rfl (unwanted_at rfl rfl hg rfl) ⟨rfl, hI⟩
                · intro us au w1 k4 hlo hhi ha hd hst hI
                  obtain rfl : k4 = 0 := by omega
                  have e1 := hd 1 _ (by kernel_rfl) rfl
                  have hg := slot_at (t := 59) 1 ha (by kernel_rfl) (by kernel_rfl) (by kernel_rfl) e1
                  exact StepI.skip rfl (unwanted_at rfl rfl hg rfl) ⟨rfl, hI⟩
                · intro us au w1 k5 hlo hhi ha hd hst hI
                  obtain rfl : k5 = 0 := by omega
                  have e1 := hd 1 _ (by kernel_rfl) rfl
                  have hg := slot_at (t := 59) 1 ha (by kernel_rfl) (by kernel_rfl) (by kernel_rfl) e1
                  exact StepI.skip rfl (unwanted_at rfl rfl hg rfl) ⟨rfl, hI⟩
                · intro us au w1 k6 hlo hhi ha hd hst hI
                  obtain rfl : k6 = 0 := by omega
                  have e1 := hd 1 _ (by kernel_rfl) rfl
                  have hg := slot_at (t := 59) 1 ha (by kernel_rfl) (by kernel_rfl) (by kernel_rfl) e1
                  exact StepI.skip rfl (unwanted_at rfl rfl hg rfl) ⟨rfl, hI⟩
                · intro us au w1 k7 hlo hhi ha hd hst hI
                  obtain rfl : k7 = 0 := by omega
                  have e1 := hd 1 _ (by kernel_rfl) rfl
                  have hg := slot_at (t := 59) 1 ha (by kernel_rfl) (by kernel_rfl) (by kernel_rfl) e1
                  exact StepI.skip rfl (unwanted_at rfl rfl hg rfl) ⟨rfl, hI⟩
                · intro us au w1 k8 hlo hhi ha hd hst hI
                  obtain rfl : k8 = 0 := by omega
                  have e1 := hd 1 _ (by kernel_rfl) rfl
                  have hg := slot_at (t := 59) 1 ha (by kernel_rfl) (by kernel_rfl) (by kernel_rfl) e1
                  exact StepI.skip rfl (unwanted_at rfl rfl hg rfl) ⟨rfl, hI⟩
                · intro us au w1 k9 hlo hhi ha hd hst hI
                  obtain rfl : k9 = 0 := by omega
                  have e1 := hd 1 _ (by kernel_rfl) rfl
                  have hg := slot_at (t := 59) 1 ha (by kernel_rfl) (by kernel_rfl) (by kernel_rfl) e1
                  exact StepI.skip rfl (unwanted_at rfl rfl hg rfl) ⟨rfl, hI⟩
                · intro us au w1 k10 hlo hhi ha hd hst hI
                  obtain rfl : k10 = 0 := by omega
                  have e1 := hd 1 _ (by kernel_rfl) rfl
                  have e9 := hd 9 _ (by kernel_rfl) rfl
                  have q59 := slot_at (t := 59) 1 ha (by kernel_rfl) (by kernel_rfl) (by kernel_rfl) e1
                  have p59 := slot_norm q59
                  have q67 := slot_at (t := 67) 9 ha (by kernel_rfl) (by kernel_rfl) (by kernel_rfl) e9
                  have p67 := slot_norm q67
                  clear ha hd hst
                  exact StepI.pure (v := .bool true) rfl rfl (by go_simp) ⟨rfl, hI⟩
                · intro us au w1 k11 hlo hhi ha hd hst hI
                  obtain rfl : k11 = 0 := by omega
                  have e10 := hd 10 _ (by kernel_rfl) rfl
                  have q68 := slot_at (t := 68) 10 ha (by kernel_rfl) (by kernel_rfl) (by kernel_rfl) e10
                  have p68 := slot_norm q68
                  clear ha hd hst
                  exact StepI.pure (v := .bool true) rfl rfl (by go_simp) ⟨rfl, hI⟩
              case done =>
                intro us w1 hI hd
                have hI : w1 = wk.drew := hI
                have e11 := hd 11 _ (by decide) rfl
                have HWN : Hid (w1 = wc.drewN (m + 1) ∧ wk.drew = wc.drewN (m + 1)) := Lib.hid ⟨by rw [hI, HWK.out]; rfl, by rw [HWK.out]; rfl⟩
                clear hd hI
                simp only [putAll]
                go_simp
                go_wp2
                go_roundw
                case rel =>
                  exact ⟨k + 1, m + 1, by go_num, by rw [HHS.out]; rfl, by omega, by first | exact HWN.out.1 | exact HWN.out.2⟩
                case measure => simp [intOf]; omega
          · obtain rfl : nl = k := by omega
            have d1 : decide ((nl : Int) < (nl : Int)) = false := decide_eq_false (by omega)
            have d1' : decide (nl < nl) = false := decide_eq_false (by omega)
            have hall : hasB L IDS nl = L.any fun x => decide (x.id = IDS) := by unfold hasB; rw [List.take_of_length_le (by rw [HNL.out]; exact Nat.le_refl _)]
            have hB9 := Below.drewN HB.out m
            have hO9 := HO.out.chg (S := fun _ => False) (Chg.of_below (Below.drewN (Below.refl _ _) m)) (fun _ _ h => h)
            have KV : Hid (∀ w', w'.heap = (wc.drewN m).heap → (convert 24 9 (.slice (some ⟨gi, 0, none⟩) 40 cap)).run Try.prog w' = .ok (.string IDS) w') := Lib.hid (fun w' h => HCV.out w' (by rw [h]; rfl))
            generalize wc.drewN m = w9 at *
            have HB9 := Lib.hid hB9
            have HO9 := Lib.hid hO9
            have s1 : IntKind.i64.wrap ((i : Int) + 1) = ((i + 1 : Nat) : Int) := by rw [IntWalk.i64_in _ (by omega)]; omega
            rw [hall]
            cases hany : L.any fun x => decide (x.id = IDS)
            · have HNE : Hid (∀ y ∈ L, y.id ≠ IDS) := Lib.hid (fun y hy he => by
                rw [List.any_eq_false] at hany
                exact hany y hy (decide_eq_true he))
              have r1 : IntKind.u32.wrap (i : Int) = (i : Int) := IntWalk.u32_in _ (by omega)
              have r2 : IntKind.i64.wrap (100 * (i : Int)) = 100 * (i : Int) := IntWalk.i64_in _ (by omega)
              have hcv := KV.out w9 rfl
              obtain ⟨i0, hi0, hz0, hz1, hz2⟩ := info_parts info_obj
              have hO2 := HO9.out.alloc (.cells #[.int .i64 0, .slice none 0 0, .string IDS, .int .i64 (100 * (i : Int)), .int .u32 (i : Int)] 30)
              have hs2 : Src Try.prog (w9.alloc (.cells #[.int .i64 0, .slice none 0 0, .string IDS, .int .i64 (100 * (i : Int)), .int .u32 (i : Int)] 30)) 5 (.slice (some ⟨w9.heap.size, 0, none⟩) 1 1) 1 (encE ⟨0, none, 0, 0, IDS, 100 * (i : Int), (i : Int)⟩) :=
                Src.vals rfl (fun u hu => encE_one [⟨0, none, 0, 0, IDS, 100 * (i : Int), (i : Int)⟩] u (by simpa using hu)) (fun _ => ⟨_, rfl, by exact World.news_of_block (heap_alloc_new w9 _)⟩)
              have hb2 : Below W.heap.size W (w9.alloc (.cells #[.int .i64 0, .slice none 0 0, .string IDS, .int .i64 (100 * (i : Int)), .int .u32 (i : Int)] 30)) := HB9.out.alloc HB9.out.size _
              have hsz2 := hb2.size
              have HO2 := Lib.hid hO2
              have HS2 := Lib.hid hs2
              have HB2 := Lib.hid hb2
              have hm1 : nl + 1 ≤ maxLen := by have h1 := HLI.out; unfold maxLen; omega
              have hm2 : (nl + 1) * 64 ≤ 140737488355328 := by have h1 := HLI.out; omega
              clear hany hall hO2 hs2 hb2 hB9 hO9
              go_wp2_with (at_builtin; refine wpList_append_S rfl (.tmp 71) (.tmp 79) 23 23 rfl i0 _ 64 (.slice 30) Try.underlying23 Try.underlying23 (fun _ h => by cases h) hi0 hz0 hz1 hz2 rfl rfl rfl HO2.out HS2.out hm1 hm2 hsz2 ?_; intro A9 c9 w10 ho9 hg9 hw9)
              go_roundw
              case rel =>
                have hp2 := HP.out.snoc (x := ⟨0, none, 0, 0, IDS, 100 * (i : Int), (i : Int)⟩) HX40.out (by simp only; have := HN63.out; omega) (by simp only; have := HN63.out; omega) HNE.out
                have hl2 : (L ++ [(⟨0, none, 0, 0, IDS, 100 * (i : Int), (i : Int)⟩ : El)]).length = nl + 1 := by rw [List.length_append, HNL.out]; rfl
                refine ⟨i + 1, L ++ [⟨0, none, 0, 0, IDS, 100 * (i : Int), (i : Int)⟩], A9, c9, by go_num, by rw [hl2], ?_, hp2, by rw [hl2]; have := HLI.out; omega, by omega, HB2.out.trans ((Chg.of_grown (S := fun k => (Value.slice Al nl cl).ownBlock = some k) hg9 (fun _ h => h)).below hsz2 (fun k hk hs => by have := (HO2.out.lt k hs).1; omega))⟩
                rw [hl2, List.flatMap_append]
                simpa using ho9
              case measure => simp [intOf]; omega
            · clear hany hall hB9 hO9
              go_wp2
              go_roundw
              case rel => exact ⟨i + 1, L, Al, cl, by go_num, by rw [HNL.out], by rw [HNL.out]; exact HO9.out, HP.out, by rw [HNL.out]; have := HLI.out; omega, by omega, HB9.out⟩
              case measure => simp [intOf]; omega
    · have d1 : decide ((i : Int) < (N : Int)) = false := decide_eq_false (by omega)
      have d1' : decide (i < N) = false := decide_eq_false hlt
      have HIDT := Lib.hid (fun w => rid_any 2 (⟨#[]⟩ : ByteArray) w (by decide))
      have hsb := oid_sha_bytes (headL 2 (⟨#[]⟩ : ByteArray).size ++ bytesOf (⟨#[]⟩ : ByteArray))
      have hsl := oid_sha_len (headL 2 (⟨#[]⟩ : ByteArray).size ++ bytesOf (⟨#[]⟩ : ByteArray))
      generalize shaAll (headL 2 (⟨#[]⟩ : ByteArray).size ++ bytesOf (⟨#[]⟩ : ByteArray)) = D at *
      have hp40 := hex40_of (xs := hexL D) (by rw [hexL_len, hsl]) (hexL_ok hsb) (hexL_dig hsb)
      generalize strOfNums (hexL D) = PT at *
      obtain ⟨nl, hnl⟩ : ∃ nl, L.length = nl := ⟨_, rfl⟩
      rw [hnl] at hO hLi ⊢
      have hN0 : Al = none → nl = 0 := fun h => by
        subst h
        rcases hO.2 with ⟨hv, h0⟩ | ⟨g, off, cap, cur, hv, _⟩
        · exact h0
        · cases hv
      have hnl63 : nl ≤ 63 := by omega
      have HOE : Hid (ObE wr Al L) := Lib.hid (ObE.of_own hO)
      have HBU := Lib.hid (fun w' (h : Below wr.heap.size wr w') => iBuild_any Al nl cl L PT w' (HOE.out.below h) hnl hN0 (by omega) hP.crcs (fun x hx => by rw [(hP.ids x hx).1]; decide) (by rw [hp40.1]; decide))
      have hbu := hP.build hp40.hash (by omega)
      have HSM : Hid (∀ x, x ∈ Srt.isort ltE L ↔ x ∈ L) := Lib.hid (fun x => Srt.mem_isort)
      have HSS := Lib.hid (Srt.isort_sorted swoE L)
      have HG := Lib.hid hP.good
      have hp20 : (unV (bytesOf PT)).length = 20 := by
        have := hp40.hash
        simp only [hashB, Bool.and_eq_true, decide_eq_true_eq] at this
        exact this.2
      have hRd := reads_build (S := Srt.isort ltE L) (P := unV (bytesOf PT)) ⟨by rw [Srt.isort_length]; omega, fun x hx => ⟨HG.out.all hx, hP.crcs x (Srt.mem_isort.1 hx)⟩⟩ hp20 (unV_ok _)
      obtain ⟨hz, hcn, hen⟩ := hRd.whole HG.out (by rw [Srt.isort_length]; omega) HSS.out
      have hby := hRd.ok
      obtain ⟨hbok, hbl⟩ := hbu
      have HBP : Hid (∀ e w w', BuildPost L PT w e w' → ∃ A, e = .returned (.tuple #[.slice A (buildL (Srt.isort ltE L) (unV (bytesOf PT))).length (buildL (Srt.isort ltE L) (unV (bytesOf PT))).length, .int .i64 0]) ∧ Ints .u8 w' A (buildL (Srt.isort ltE L) (unV (bytesOf PT))) ∧ Below w.heap.size w w') := Lib.hid (fun e w w' h => by
        obtain ⟨h1, _, h3⟩ := h
        obtain ⟨A, he, hI⟩ := h3 hbok
        exact ⟨A, he, hI, h1⟩)
      generalize buildL (Srt.isort ltE L) (unV (bytesOf PT)) = b at *
      generalize Srt.isort ltE L = S at *
      obtain ⟨M, hM⟩ : ∃ M, b.length = M := ⟨_, rfl⟩
      rw [hM] at hbl HBP
      have HZ := Lib.hid hz
      have HEN := Lib.hid hen
      have HBY := Lib.hid hby
      have HM := Lib.hid hM
      have HB := Lib.hid hB
      have HP := Lib.hid hP
      have HNL := Lib.hid hnl
      have m1 : IntKind.i64.wrap (28 * (nl : Int)) = 28 * (nl : Int) := IntWalk.i64_in _ (by omega)
      have m2 : IntKind.i64.wrap (1072 + 28 * (nl : Int)) = (M : Int) := by rw [IntWalk.i64_in _ (by omega)]; omega
      have m3 : ((M : Int) != (M : Int)) = false := by simp
      have m4 : 1072 + 28 * (nl : Int) = (M : Int) := by omega
      have hM1 : 1072 ≤ M := by omega
      have hM2 : M ≤ 200000 := by omega
      clear hsb hsl hp40 hO hLi hN0 hz hcn hen hby hRd hbok hbl hP hB hp20 hM
      go_wp2_with fail
      refine (HIDT.out wr).mono ?_
      rintro e w1 ⟨rfl, hb1⟩
      have HB1 := Lib.hid hb1
      clear hb1
      go_wp2_with fail
      refine (HBU.out w1 HB1.out).mono ?_
      intro e w2 h2
      obtain ⟨A1, rfl, hI, hb2⟩ := HBP.out _ _ _ h2
      obtain ⟨bk, o, rfl, _, _⟩ := hI (by rw [HM.out]; omega)
      have HI := Lib.hid hI
      have HW2 : Hid (Below wr.heap.size wr w2) := Lib.hid (HB1.out.trans (hb2.mono HB1.out.size))
      have HFI := Lib.hid (fun w' t (h : Below w2.heap.size w2 w') => iFind_any bk o M M b t w' (HI.out.below h) HM.out HBY.out hM1 (Nat.le_refl _) (by omega) (by omega))
      clear h2 hI hb2 HBU HBP HB1
      have HWB : Hid (Below W.heap.size W w2) := Lib.hid (HB.out.trans (HW2.out.mono HB.out.size))
      have HOE2 : Hid (ObE w2 Al L) := Lib.hid (HOE.out.below HW2.out)
      go_wp2
      clear HOE HB HW2 d1 d1' m1 m2 m3 m4
      go_loopw [12] (fun vi wr => ∃ i : Nat, vi = .int .i64 i ∧ i ≤ nl ∧ Below w2.heap.size w2 wr) (fun vi _ => nl - (intOf vi).toNat)
      case atStart => exact ⟨0, rfl, Nat.zero_le _, Below.refl _ _⟩
      case round =>
        obtain ⟨i, rfl, hiN, hB⟩ := hrel
        by_cases hlt2 : i < nl
        · have d1 : decide ((i : Int) < (nl : Int)) = true := decide_eq_true (by omega)
          have d1' : decide (i < nl) = true := decide_eq_true hlt2
          have hi0 : (0 : Int) ≤ (i : Int) := by omega
          have hi2 : (i : Int) < (nl : Int) := by omega
          have s1 : IntKind.i64.wrap ((i : Int) + 1) = ((i + 1 : Nat) : Int) := by rw [IntWalk.i64_in _ (by omega)]; omega
          obtain ⟨x, hx⟩ : ∃ x, L[i]? = some x := ⟨_, List.getElem?_eq_getElem (by rw [HNL.out]; exact hlt2)⟩
          have hxm := List.mem_of_getElem? hx
          obtain ⟨gl, ol, rfl, hgl, hx2, hx3⟩ := HOE2.out.at_ hx
          have HCX : Hid (∀ w', Below w2.heap.size w2 w' → w'.cell? ⟨gl, ol + i * 5 + 2, none⟩ = some (.string x.id) ∧ w'.cell? ⟨gl, ol + i * 5 + 3, none⟩ = some (.int .i64 x.at_)) := Lib.hid (fun w' h => ⟨(h.cell (p := ⟨gl, ol + i * 5 + 2, none⟩) hgl).trans hx2, (h.cell (p := ⟨gl, ol + i * 5 + 3, none⟩) hgl).trans hx3⟩)
          obtain ⟨k2, _⟩ := HCX.out wr hB
          have HX40 := Lib.hid (HP.out.ids x hxm)
          have HFX : Hid (Calls Try.prog 10 #[.slice (some ⟨bk, o, none⟩) M M, .string x.id] wr fun e w' => e = .returned (.tuple #[.int .i64 x.at_, .bool true]) ∧ Below wr.heap.size wr w') := Lib.hid ((HFI.out wr x.id hB).mono fun e w' h => by
            obtain ⟨at_, rfl, hb, hat⟩ := h.built HG.out HSS.out HZ.out HEN.out
            have hxS := (HSM.out x).2 hxm
            rw [hat x hxS rfl, List.any_eq_true.2 ⟨x, hxS, decide_eq_true rfl⟩]
            exact ⟨rfl, hb⟩)
          have HB := Lib.hid hB
          clear hx hxm hgl hx2 hx3 hB
          go_upto_region 23 with (go_at_call 10; refine HFX.out.mono ?_; rintro e w5 ⟨rfl, hb5⟩)
          have hB5 := HB.out.trans (hb5.mono HB.out.size)
          obtain ⟨k5, _⟩ := HCX.out w5 hB5
          obtain ⟨cap, w6, hcv, ho6, hb6⟩ := run_convO w5 x.id 40 HX40.out.1 (by decide)
          have HB6 : Hid (Below w2.heap.size w2 w6) := Lib.hid (hB5.trans (hb6.mono hB5.size))
          have hg6 := hB5.size
          have HD6 : Hid (IdAt w6 w2.heap.size w5.heap.size cap (bytesOf x.id)) := Lib.hid ⟨ho6.base_ hg6, by rw [bytesOf_len]; exact HX40.out.1, bytesOf_ok _, HX40.out.2⟩
          have HG6 := Lib.hid hg6
          generalize w5.heap.size = gi at *
          clear ho6 hb6 hb5 hB5 hg6 k2 HB HFX
          go_upto_region 24 with (fail)
          clear hcv k5
          obtain ⟨g', o', hA', _, hcd⟩ := HD6.out.own.ints (by rw [HD6.out.len]; decide)
          injection hA' with hA'
          injection hA' with e1 e2
          subst e1; subst e2
          have hc39 := hcd 39 (by rw [HD6.out.len]; decide)
          rw [Nat.zero_add] at hc39
          have hcb := HD6.out.ok.at_ 39 (by rw [HD6.out.len]; decide)
          obtain ⟨c9, hc9⟩ : ∃ c9, (bytesOf x.id).getD 39 0 = c9 := ⟨_, rfl⟩
          rw [hc9] at hc39 hcb
          have hf39 := (HD6.out.own.free (j := 39) (by rw [List.length_map, HD6.out.len]; decide)).1
          rw [Nat.zero_add] at hf39
          have HIO := Lib.hid (indexOf_any c9 w6 hcb.1 hcb.2)
          clear hcd hcb hc9
          go_cut [] (fun wx => ∃ xs, IdAt wx w2.heap.size gi cap xs ∧ Below w2.heap.size w2 wx)
          case first => as_aux_lemma =>
            go_wp2_with fail
            refine HIO.out.mono ?_
            rintro e w7 ⟨⟨r, rfl, hr⟩, rfl⟩
            obtain ⟨j, hj, hjb⟩ := and_le ((r : Int) + 1) 15 (by decide)
            have hj : bits .and .i64 ((r : Int) + 1) 15 = (j : Int) := hj
            have s2 : IntKind.i64.wrap ((r : Int) + 1) = (r : Int) + 1 := IntWalk.i64_in _ (by omega)
            have hix := HIX.out j (by omega)
            have HJ : Hid (j < 16) := Lib.hid (by omega)
            clear hjb
            go_wp2
            go_meet
            exact ⟨_, HD6.out.one HJ.out, Below.setCell HB6.out (show w2.heap.size ≤ gi from HG6.out) _⟩
          case rest =>
            obtain ⟨xs, hid, hB7⟩ := hcut
            have HID := Lib.hid hid
            obtain ⟨IDS, hIDS⟩ : ∃ IDS, strOfNums xs = IDS := ⟨_, rfl⟩
            have hcv := hid.conv wc rfl
            rw [hIDS] at hcv
            have HFT : Hid (Calls Try.prog 10 #[.slice (some ⟨bk, o, none⟩) M M, .string IDS] wc fun e w' => ∃ at_, e = .returned (.tuple #[.int .i64 at_, .bool (S.any fun x => decide (x.id = IDS))]) ∧ Below wc.heap.size wc w') := Lib.hid ((HFI.out wc IDS hB7).mono fun e w' h => by
              obtain ⟨at_, rfl, hb, hat⟩ := h.built HG.out HSS.out HZ.out HEN.out
              exact ⟨_, rfl, hb⟩)
            have HB7 := Lib.hid hB7
            have HIDS := Lib.hid hIDS
            clear hid hIDS hB7 HIO HD6 HB6 hc39 hf39
            go_upto_region 26 with (go_at_call 10; refine HFT.out.mono ?_; rintro e w8 ⟨at2, rfl, hb8⟩)
            have HB8 : Hid (Below w2.heap.size w2 w8) := Lib.hid (HB7.out.trans (hb8.mono HB7.out.size))
            have HCV : Hid (∀ w', w'.heap = w8.heap → (convert 24 9 (.slice (some ⟨gi, 0, none⟩) 40 cap)).run Try.prog w' = .ok (.string IDS) w') := Lib.hid (fun w' h => by rw [← HIDS.out]; exact (HID.out.below hb8).conv w' h)
            have HOE3 : Hid (ObE w8 (some ⟨gl, ol, none⟩) L) := Lib.hid (HOE2.out.below HB8.out)
            have hss : (S.any fun x => decide (x.id = IDS)) = L.any fun x => decide (x.id = IDS) := any_perm HSM.out _
            rw [hss]
            clear hcv hb8 HFT HB7 hss d1 d1'
            obtain ⟨qa, hqa⟩ : ∃ qa, (L.any fun x => decide (x.id = IDS)) = qa := ⟨_, rfl⟩
            have HQA := Lib.hid hqa
            rw [hqa]
            clear hqa
            go_wp2
            go_loopw [19, 18] (fun vk vo wr => ∃ k m : Nat, vk = .int .i64 k ∧ vo = .bool (hasB L IDS k) ∧ k ≤ nl ∧ wr = w8.drewN m) (fun vk _ _ => nl - (intOf vk).toNat)
            case atStart => exact ⟨0, 0, rfl, rfl, Nat.zero_le _, rfl⟩
            case round =>
              obtain ⟨k, m, rfl, rfl, hk, rfl⟩ := hrel
              by_cases hkl : k < nl
              · have d1 : decide ((k : Int) < (nl : Int)) = true := decide_eq_true (by omega)
                have d1' : decide (k < nl) = true := decide_eq_true hkl
                have hk0 : (0 : Int) ≤ (k : Int) := by omega
                have hk2 : (k : Int) < (nl : Int) := by omega
                have s1 : IntKind.i64.wrap ((k : Int) + 1) = ((k + 1 : Nat) : Int) := by rw [IntWalk.i64_in _ (by omega)]; omega
                obtain ⟨y, hy⟩ : ∃ y, L[k]? = some y := ⟨_, List.getElem?_eq_getElem (by rw [HNL.out]; exact hkl)⟩
                have hyc := HOE3.out.at_ hy
                obtain ⟨gl', ol', hA', hgl, hyc2, _⟩ := hyc
                injection hA' with hA'
                injection hA' with e1 e2
                subst e1; subst e2
                have HHS := Lib.hid (hasB_succ (t := IDS) hy)
                obtain ⟨wk, hwk⟩ : ∃ wk, wk = w8.drewN m := ⟨_, rfl⟩
                have KY : Hid (wk.cell? ⟨gl, ol + k * 5 + 2, none⟩ = some (.string y.id)) := Lib.hid (by rw [hwk]; exact hyc2)
                have KV : Hid (∀ w', w'.heap = wk.heap → (convert 24 9 (.slice (some ⟨gi, 0, none⟩) 40 cap)).run Try.prog w' = .ok (.string IDS) w') := Lib.hid (fun w' h => HCV.out w' (by rw [h, hwk]; rfl))
                have hq0 := str_beq y.id IDS
                obtain ⟨q, hq⟩ : ∃ q, decide (y.id = IDS) = q := ⟨_, rfl⟩
                rw [hq] at hq0 HHS
                have HQ := Lib.hid hq0
                obtain ⟨hv, hhv⟩ : ∃ hv, hasB L IDS k = hv := ⟨_, rfl⟩
                rw [hhv] at HHS ⊢
                clear hy hgl hyc2 hq hq0 hhv
                have HWK := Lib.hid hwk
                rw [← hwk]
                clear hwk
                cases hv
                · go_upto_region 30 with (fail)
                  refine wp_region_ph (by kernel_rfl) [] [.span 0 0, .span 0 0, .span 0 0, .span 0 0, .span 0 0, .span 0 0, .span 0 0, .span 0 0, .span 0 0, .span 0 0, .span 0 0, .span 0 0] [fun z9 => z9 = .bool false, fun z9 => z9 = .bool false, fun z9 => z9 = .slice (some ⟨gl, ol, none⟩) nl cl, fun z9 => z9 = .int .i64 (k : Int), fun z9 => z9 = .pointer (some ⟨gl, ol + k * 5, none⟩), fun z9 => z9 = .pointer (some ⟨gl, ol + k * 5 + 2, none⟩), fun z9 => z9 = .string y.id, fun z9 => z9 = .slice (some ⟨gi, 0, none⟩) 40 cap, fun z9 => z9 = .string IDS, fun z9 => z9 = .bool q, fun z9 => z9 = .bool q, fun z9 => z9 = .bool q] ((fun _ w => w = wk.drew)) (by kernel_rfl) (by kernel_rfl) (by kernel_rfl) (by kernel_rfl) (by kernel_rfl) (by kernel_rfl) rfl rfl (rfl) ?steps ?done
                  case steps =>
                    refine ⟨?_, ?_, ?_, ?_, ?_, ?_, ?_, ?_, ?_, ?_, ?_, ?_, trivial⟩
                    · intro us au w1 k0 hlo hhi ha hd hst hI
                      obtain rfl : k0 = 0 := by omega
                      have q18 := slot_start (t := 18) (v := .bool false) 11 ha (hst 11 (by decide) (by kernel_rfl)) (by kernel_rfl) (by kernel_rfl) (by kernel_rfl) (by kernel_rfl)
                      have p18 := slot_norm q18
                      clear ha hd hst
                      exact StepI.pure (v := .bool false) rfl rfl (by go_simp) ⟨rfl, hI⟩
                    · intro us au w1 k1 hlo hhi ha hd hst hI
                      obtain rfl : k1 = 0 := by omega
                      have e0 := hd 0 _ (by kernel_rfl) rfl
                      have q142 := slot_at (t := 142) 0 ha (by kernel_rfl) (by kernel_rfl) (by kernel_rfl) e0
                      have p142 := slot_norm q142
                      clear ha hd hst
                      exact StepI.pure (v := .bool false) rfl rfl (by go_simp) ⟨rfl, hI⟩
                    · intro us au w1 k2 hlo hhi ha hd hst hI
                      obtain rfl : k2 = 0 := by omega
                      have e1 := hd 1 _ (by kernel_rfl) rfl
                      have q5 := slot_far (t := 5) (v := .slice (some ⟨gl, ol, none⟩) nl cl) ha (by kernel_rfl) (by kernel_rfl)
                      have p5 := slot_norm q5
                      have hg := slot_at (t := 143) 1 ha (by kernel_rfl) (by kernel_rfl) (by kernel_rfl) e1
                      clear ha hd hst
                      exact StepI.pure (v := .slice (some ⟨gl, ol, none⟩) nl cl) rfl (wanted_at rfl rfl hg) (by go_simp) ⟨rfl, hI⟩
                    · intro us au w1 k3 hlo hhi ha hd hst hI
                      obtain rfl : k3 = 0 := by omega
                      have e1 := hd 1 _ (by kernel_rfl) rfl
                      have q19 := slot_far (t := 19) (v := .int .i64 (k : Int)) ha (by kernel_rfl) (by kernel_rfl)
                      have p19 := slot_norm q19
                      have hg := slot_at (t := 143) 1 ha (by kernel_rfl) (by kernel_rfl) (by kernel_rfl) e1
                      clear ha hd hst
                      exact StepI.pure (v := .int .i64 (k : Int)) rfl (wanted_at rfl rfl hg) (by go_simp) ⟨rfl, hI⟩
                    · intro us au w1 k4 hlo hhi ha hd hst hI
                      obtain rfl : k4 = 0 := by omega
                      have e2 := hd 2 _ (by kernel_rfl) rfl
                      have e3 := hd 3 _ (by kernel_rfl) rfl
                      have e1 := hd 1 _ (by kernel_rfl) rfl
                      have q144 := slot_at (t := 144) 2 ha (by kernel_rfl) (by kernel_rfl) (by kernel_rfl) e2
                      have p144 := slot_norm q144
                      have q145 := slot_at (t := 145) 3 ha (by kernel_rfl) (by kernel_rfl) (by kernel_rfl) e3
                      have p145 := slot_norm q145
                      have hg := slot_at (t := 143) 1 ha (by kernel_rfl) (by kernel_rfl) (by kernel_rfl) e1
                      clear ha hd hst
                      exact StepI.pure (v := .pointer (some ⟨gl, ol + k * 5, none⟩)) rfl (wanted_at rfl rfl hg) (by go_simp) ⟨rfl, hI⟩
                    · intro us au w1 k5 hlo hhi ha hd hst hI
                      obtain rfl : k5 = 0 := by omega
                      have e4 := hd 4 _ (by kernel_rfl) rfl
                      have e1 := hd 1 _ (by kernel_rfl) rfl
                      have q146 := slot_at (t := 146) 4 ha (by kernel_rfl) (by kernel_rfl) (by kernel_rfl) e4
                      have p146 := slot_norm q146
                      have hg := slot_at (t := 143) 1 ha (by kernel_rfl) (by kernel_rfl) (by kernel_rfl) e1
                      clear ha hd hst
                      exact StepI.pure (v := .pointer (some ⟨gl, ol + k * 5 + 2, none⟩)) rfl (wanted_at rfl rfl hg) (by go_simp) ⟨rfl, hI⟩
                    · intro us au w1 k6 hlo hhi ha hd hst hI
                      obtain rfl : k6 = 0 := by omega
                      have e5 := hd 5 _ (by kernel_rfl) rfl
                      have e1 := hd 1 _ (by kernel_rfl) rfl
                      have q147 := slot_at (t := 147) 5 ha (by kernel_rfl) (by kernel_rfl) (by kernel_rfl) e5
                      have p147 := slot_norm q147
                      have hg := slot_at (t := 143) 1 ha (by kernel_rfl) (by kernel_rfl) (by kernel_rfl) e1
                      clear ha hd hst
                      have kk := KY.out
                      exact StepI.pure (v := .string y.id) rfl (wanted_at rfl rfl hg) (by go_simp) ⟨rfl, hI⟩
                    · intro us au w1 k7 hlo hhi ha hd hst hI
                      obtain rfl : k7 = 0 := by omega
                      have e1 := hd 1 _ (by kernel_rfl) rfl
                      have q15 := slot_far (t := 15) (v := .slice (some ⟨gi, 0, none⟩) 40 cap) ha (by kernel_rfl) (by kernel_rfl)
                      have p15 := slot_norm q15
                      have hg := slot_at (t := 143) 1 ha (by kernel_rfl) (by kernel_rfl) (by kernel_rfl) e1
                      clear ha hd hst
                      exact StepI.pure (v := .slice (some ⟨gi, 0, none⟩) 40 cap) rfl (wanted_at rfl rfl hg) (by go_simp) ⟨rfl, hI⟩
                    · intro us au w1 k8 hlo hhi ha hd hst hI
                      obtain rfl : k8 = 0 := by omega
                      have e7 := hd 7 _ (by kernel_rfl) rfl
                      have e1 := hd 1 _ (by kernel_rfl) rfl
                      have q149 := slot_at (t := 149) 7 ha (by kernel_rfl) (by kernel_rfl) (by kernel_rfl) e7
                      have p149 := slot_norm q149
                      have hg := slot_at (t := 143) 1 ha (by kernel_rfl) (by kernel_rfl) (by kernel_rfl) e1
                      clear ha hd hst
                      have hcv := KV.out wk.drew rfl
                      exact StepI.pure (v := .string IDS) rfl (wanted_at rfl rfl hg) (by go_simp) ⟨rfl, hI⟩
                    · intro us au w1 k9 hlo hhi ha hd hst hI
                      obtain rfl : k9 = 0 := by omega
                      have e6 := hd 6 _ (by kernel_rfl) rfl
                      have e8 := hd 8 _ (by kernel_rfl) rfl
                      have e1 := hd 1 _ (by kernel_rfl) rfl
                      have q148 := slot_at (t := 148) 6 ha (by kernel_rfl) (by kernel_rfl) (by kernel_rfl) e6
                      have p148 := slot_norm q148
                      have q150 := slot_at (t := 150) 8 ha (by kernel_rfl) (by kernel_rfl) (by kernel_rfl) e8
                      have p150 := slot_norm q150
                      have hg := slot_at (t := 143) 1 ha (by kernel_rfl) (by kernel_rfl) (by kernel_rfl) e1
                      clear ha hd hst
                      have hq := HQ.out
                      exact StepI.pure (v := .bool q) rfl (wanted_at rfl rfl hg) (by go_simp) ⟨rfl, hI⟩
                    · intro us au w1 k10 hlo hhi ha hd hst hI
                      obtain rfl : k10 = 0 := by omega
                      have e1 := hd 1 _ (by kernel_rfl) rfl
                      have e9 := hd 9 _ (by kernel_rfl) rfl
                      have q143 := slot_at (t := 143) 1 ha (by kernel_rfl) (by kernel_rfl) (by kernel_rfl) e1
                      have p143 := slot_norm q143
                      have q151 := slot_at (t := 151) 9 ha (by kernel_rfl) (by kernel_rfl) (by kernel_rfl) e9
                      have p151 := slot_norm q151
                      clear ha hd hst
                      exact StepI.pure (v := .bool q) rfl rfl (by go_simp) ⟨rfl, hI⟩
                    · intro us au w1 k11 hlo hhi ha hd hst hI
                      obtain rfl : k11 = 0 := by omega
                      have e10 := hd 10 _ (by kernel_rfl) rfl
                      have q152 := slot_at (t := 152) 10 ha (by kernel_rfl) (by kernel_rfl) (by kernel_rfl) e10
                      have p152 := slot_norm q152
                      clear ha hd hst
                      exact StepI.pure (v := .bool q) rfl rfl (by go_simp) ⟨rfl, hI⟩
                  case done =>
                    intro us w1 hI hd
                    have hI : w1 = wk.drew := hI
                    have e11 := hd 11 _ (by decide) rfl
                    have HWN : Hid (w1 = w8.drewN (m + 1) ∧ wk.drew = w8.drewN (m + 1)) := Lib.hid ⟨by rw [hI, HWK.out]; rfl, by rw [HWK.out]; rfl⟩
                    clear hd hI
                    simp only [putAll]
                    go_simp
                    go_wp2
                    go_roundw
                    case rel =>
                      exact ⟨k + 1, m + 1, by go_num, by rw [HHS.out]; rfl, by omega, by first | exact HWN.out.1 | exact HWN.out.2⟩
                    case measure => simp [intOf]; omega
                · go_upto_region 30 with (fail)
                  refine wp_region_ph (by kernel_rfl) [] [.span 0 0, .span 0 0, .span 0 0, .span 0 0, .span 0 0, .span 0 0, .span 0 0, .span 0 0, .span 0 0, .span 0 0, .span 0 0, .span 0 0] [fun z9 => z9 = .bool true, fun z9 => z9 = .bool true, fun z9 => z9 = undef, fun z9 => z9 = undef, fun z9 => z9 = undef, fun z9 => z9 = undef, fun z9 => z9 = undef, fun z9 => z9 = undef, fun z9 => z9 = undef, fun z9 => z9 = undef, fun z9 => z9 = .bool true, fun z9 => z9 = .bool true] ((fun _ w => w = wk.drew)) (by kernel_rfl) (by kernel_rfl) (by kernel_rfl) (by kernel_rfl) (by kernel_rfl) (by kernel_rfl) rfl rfl (rfl) ?steps ?done
                  case steps =>
                    refine ⟨?_, ?_, ?_, ?_, ?_, ?_, ?_, ?_, ?_, ?_, ?_, ?_, trivial⟩
                    · intro us au w1 k0 hlo hhi ha hd hst hI
                      obtain rfl : k0 = 0 := by omega
                      have q18 := slot_start (t := 18) (v := .bool true) 11 ha (hst 11 (by decide) (by kernel_rfl)) (by kernel_rfl) (by kernel_rfl) (by kernel_rfl) (by kernel_rfl)
                      have p18 := slot_norm q18
                      clear ha hd hst
                      exact StepI.pure (v := .bool true) rfl rfl (by go_simp) ⟨rfl, hI⟩
                    · intro us au w1 k1 hlo hhi ha hd hst hI
                      obtain rfl : k1 = 0 := by omega
                      have e0 := hd 0 _ (by kernel_rfl) rfl
                      have q142 := slot_at (t := 142) 0 ha (by kernel_rfl) (by kernel_rfl) (by kernel_rfl) e0
                      have p142 := slot_norm q142
                      clear ha hd hst
                      exact StepI.pure (v := .bool true) rfl rfl (by go_simp) ⟨rfl, hI⟩
                    · intro us au w1 k2 hlo hhi ha hd hst hI
                      obtain rfl : k2 = 0 := by omega
                      have e1 := hd 1 _ (by kernel_rfl) rfl
                      have hg := slot_at (t := 143) 1 ha (by kernel_rfl) (by kernel_rfl) (by kernel_rfl) e1
                      exact StepI.skip rfl (unwanted_at rfl rfl hg rfl) ⟨rfl, hI⟩
                    · intro us au w1 k3 hlo hhi ha hd hst hI
                      obtain rfl : k3 = 0 := by omega
                      have e1 := hd 1 _ (by kernel_rfl) rfl
                      have hg := slot_at (t := 143) 1 ha (by kernel_rfl) (by kernel_rfl) (by kernel_rfl) e1
                      exact StepI.skip rfl (unwanted_at rfl rfl hg rfl) ⟨rfl, hI⟩
                    · intro us au w1 k4 hlo hhi ha hd hst hI
                      obtain rfl : k4 = 0 := by omega
                      have e1 := hd 1 _ (by kernel_rfl) rfl
                      have hg := slot_at (t := 143) 1 ha (by kernel_rfl) (by kernel_rfl) (by kernel_rfl) e1
                      exact StepI.skip rfl (unwanted_at rfl rfl hg rfl) ⟨rfl, hI⟩
                    · intro us au w1 k5 hlo hhi ha hd hst hI
                      obtain rfl : k5 = 0 := by omega
                      have e1 := hd 1 _ (by kernel_rfl) rfl
                      have hg := slot_at (t := 143) 1 ha (by kernel_rfl) (by kernel_rfl) (by kernel_rfl) e1
                      exact StepI.skip rfl (unwanted_at rfl rfl hg rfl) ⟨rfl, hI⟩
                    · intro us au w1 k6 hlo hhi ha hd hst hI
                      obtain rfl : k6 = 0 := by omega
                      have e1 := hd 1 _ (by kernel_rfl) rfl
                      have hg := slot_at (t := 143) 1 ha (by kernel_rfl) (by kernel_rfl) (by kernel_rfl) e1
                      exact StepI.skip rfl (unwanted_at rfl rfl hg rfl) ⟨rfl, hI⟩
                    · intro us au w1 k7 hlo hhi ha hd hst hI
                      obtain rfl : k7 = 0 := by omega
                      have e1 := hd 1 _ (by kernel_rfl) rfl
                      have hg := slot_at (t := 143) 1 ha (by kernel_rfl) (by kernel_rfl) (by kernel_rfl) e1
                      exact StepI.skip rfl (unwanted_at rfl rfl hg rfl) ⟨rfl, hI⟩
                    · intro us au w1 k8 hlo hhi ha hd hst hI
                      obtain rfl : k8 = 0 := by omega
                      have e1 := hd 1 _ (by kernel_rfl) rfl
                      have hg := slot_at (t := 143) 1 ha (by kernel_rfl) (by kernel_rfl) (by kernel_rfl) e1
                      exact StepI.skip rfl (unwanted_at rfl rfl hg rfl) ⟨rfl, hI⟩
                    · intro us au w1 k9 hlo hhi ha hd hst hI
                      obtain rfl : k9 = 0 := by omega
                      have e1 := hd 1 _ (by kernel_rfl) rfl
                      have hg := slot_at (t := 143) 1 ha (by kernel_rfl) (by kernel_rfl) (by kernel_rfl) e1
                      exact StepI.skip rfl (unwanted_at rfl rfl hg rfl) ⟨rfl, hI⟩
                    · intro us au w1 k10 hlo hhi ha hd hst hI
                      obtain rfl : k10 = 0 := by omega
                      have e1 := hd 1 _ (by kernel_rfl) rfl
                      have e9 := hd 9 _ (by kernel_rfl) rfl
                      have q143 := slot_at (t := 143) 1 ha (by kernel_rfl) (by kernel_rfl) (by kernel_rfl) e1
                      have p143 := slot_norm q143
                      have q151 := slot_at (t := 151) 9 ha (by kernel_rfl) (by kernel_rfl) (by kernel_rfl) e9
                      have p151 := slot_norm q151
                      clear ha hd hst
                      exact StepI.pure (v := .bool true) rfl rfl (by go_simp) ⟨rfl, hI⟩
                    · intro us au w1 k11 hlo hhi ha hd hst hI
                      obtain rfl : k11 = 0 := by omega
                      have e10 := hd 10 _ (by kernel_rfl) rfl
                      have q152 := slot_at (t := 152) 10 ha (by kernel_rfl) (by kernel_rfl) (by kernel_rfl) e10
                      have p152 := slot_norm q152
                      clear ha hd hst
                      exact StepI.pure (v := .bool true) rfl rfl (by go_simp) ⟨rfl, hI⟩
                  case done =>
                    intro us w1 hI hd
                    have hI : w1 = wk.drew := hI
                    have e11 := hd 11 _ (by decide) rfl
                    have HWN : Hid (w1 = w8.drewN (m + 1) ∧ wk.drew = w8.drewN (m + 1)) := Lib.hid ⟨by rw [hI, HWK.out]; rfl, by rw [HWK.out]; rfl⟩
                    clear hd hI
                    simp only [putAll]
                    go_simp
                    go_wp2
                    go_roundw
                    case rel =>
                      exact ⟨k + 1, m + 1, by go_num, by rw [HHS.out]; rfl, by omega, by first | exact HWN.out.1 | exact HWN.out.2⟩
                    case measure => simp [intOf]; omega
              · obtain rfl : nl = k := by omega
                have d1 : decide ((nl : Int) < (nl : Int)) = false := decide_eq_false (by omega)
                have d1' : decide (nl < nl) = false := decide_eq_false (by omega)
                have hall : hasB L IDS nl = qa := by unfold hasB; rw [List.take_of_length_le (by rw [HNL.out]; exact Nat.le_refl _)]; exact HQA.out
                have HB9 : Hid (Below w2.heap.size w2 (w8.drewN m)) := Lib.hid (Below.drewN HB8.out m)
                obtain ⟨_, k3⟩ := HCX.out (w8.drewN m) HB9.out
                generalize w8.drewN m = w9 at *
                have n1 : (x.at_ != x.at_) = false := by simp
                have n2 : (x.at_ == x.at_) = true := by simp
                have n3 : (qa != qa) = false := by simp
                have n4 : (qa == qa) = true := by simp
                rw [hall]
                clear hall HOE3 HCV HQA
                go_wp2
                go_roundw
                case rel => exact ⟨i + 1, by go_num, by omega, HB9.out⟩
                case measure => simp [intOf]; omega
        · have d1 : decide ((i : Int) < (nl : Int)) = false := decide_eq_false (by omega)
          have d1' : decide (i < nl) = false := decide_eq_false hlt2
          have HB := Lib.hid hB
          clear hB
          go_wp2_with fail
          refine (HAW.out _).mono ?_
          rintro e w7 ⟨rfl, hb7⟩
          have HB7 := Lib.hid hb7
          clear hb7
          go_wp2
          go_ret
          exact ⟨rfl, HWB.out.trans ((HB.out.trans (HB7.out.mono HB.out.size)).mono HWB.out.size)⟩

end Go.Proofs.Ytndjebddgnmpfaa
