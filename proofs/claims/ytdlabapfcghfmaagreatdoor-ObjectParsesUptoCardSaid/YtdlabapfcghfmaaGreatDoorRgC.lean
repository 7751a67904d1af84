/- A line that begins with a word: object.field. -/
import Derived.Test.YtdlabapfcghfmaaGreatDoorRgA
import Derived.Test.YtdlabapfcghfmaaGreatDoorRgB
import Derived.Lib.RuneCount
import Derived.Test.YtdlabapfcghfmaaGreatDoorObJ
import Derived.Lib.BytesEntry
namespace Go.Proofs.YtdlabapfcghfmaaGreatDoor
open Go.RowKit
set_option linter.unusedVariables false
set_option linter.unusedSimpArgs false

def bk (l : List UInt8) : ByteArray := ⟨l.toArray⟩
theorem bk_list (l : List UInt8) : (bk l).data.toList = l := by simp [bk]
theorem bk_of (s : ByteArray) : bk s.data.toList = s := by cases s; simp [bk]
theorem bk_size (l : List UInt8) : (bk l).size = l.length := by show l.toArray.size = _; simp
theorem bk_ext (s : ByteArray) (a b : Nat) : s.extract a b = bk ((s.data.toList.take b).drop a) := by
  obtain ⟨⟨l⟩⟩ := s
  apply ByteArray.ext
  simp [bk, ByteArray.data_extract, List.drop_take]
theorem bk_ext0 (s : ByteArray) (b : Nat) : s.extract 0 b = bk (s.data.toList.take b) := by rw [bk_ext]; simp
theorem bk_extE (s : ByteArray) (a : Nat) : s.extract a s.size = bk (s.data.toList.drop a) := by
  rw [bk_ext, List.take_of_length_le (by rw [← Lib.size_eq]; exact Nat.le_refl _)]
theorem bk_inj {a b : List UInt8} : bk a = bk b ↔ a = b := ⟨fun h => by rw [← bk_list a, h, bk_list], fun h => by rw [h]⟩
theorem bk_app (a b : List UInt8) : bk a ++ bk b = bk (a ++ b) := by apply ByteArray.ext; simp [bk, ByteArray.data_append]

theorem idx_cases (c : UInt8) : ∀ (l : List UInt8), (Lib.indexByte l c = -1 ∧ c ∉ l) ∨ ∃ i : Nat, Lib.indexByte l c = i ∧ i < l.length ∧ l[i]? = some c ∧ c ∉ l.take i
  | [] => .inl ⟨rfl, by simp⟩
  | b :: l => by
    unfold Lib.indexByte
    by_cases h : b = c
    · subst h
      exact .inr ⟨0, by rw [if_pos (by simp)]; rfl, by simp, rfl, by simp⟩
    · have hb : (b == c) = false := by simpa using h
      rw [hb, if_neg (by decide)]
      rcases idx_cases c l with ⟨h1, h2⟩ | ⟨i, h1, h2, h3, h4⟩
      · left
        rw [h1]
        exact ⟨rfl, by simp [h2]; exact fun e => h e.symm⟩
      · right
        refine ⟨i + 1, ?_, by simp; omega, by simpa using h3, by simp [h4]; exact fun e => h e.symm⟩
        have : ((i : Int) == -1) = false := by rw [beq_eq_false_iff_ne]; omega
        rw [h1, this, if_neg (by decide)]
        rfl
def idx (l : List UInt8) (c : UInt8) : Nat := (Lib.indexByte l c).toNat
set_option maxRecDepth 100000 in
set_option maxHeartbeats 1000000 in
theorem cut1_none (s : ByteArray) (c : UInt8) (w : World) (h : Lib.indexByte s.data.toList c = -1) :
    Calls Tryz.prog 98 #[.string s, .string ⟨#[c]⟩] w fun e w' => e = .returned (.tuple #[.string s, .string (bk []), .bool false]) ∧ Below w.heap.size w w' := by
  have hi := Tryz.stringslite_Index_one s c w
  rw [h] at hi
  have key : Calls Tryz.prog 120 #[.string s, .string ⟨#[c]⟩] w fun e w' => e = .returned (.tuple #[.string s, .string (bk []), .bool false]) ∧ Below w.heap.size w w' := by
    go_enter Tryz.func120, Tryz.ntmps120
    go_wp2_with (go_at_call 131; refine hi.mono ?_; rintro e w' ⟨rfl, rfl⟩)
    go_ret3
    exact ⟨rfl, Below.refl _ _⟩
  go_enter Tryz.func98, Tryz.ntmps98
  go_wp2_with (go_at_call 120; refine key.mono ?_; rintro e w' ⟨rfl, hb⟩)
  go_ret3
  exact ⟨rfl, hb⟩
set_option maxRecDepth 100000 in
set_option maxHeartbeats 1000000 in
theorem cut1_at (s : ByteArray) (c : UInt8) (w : World) (i : Nat) (h : Lib.indexByte s.data.toList c = i) (hl : i < s.size) (hs : s.size ≤ 140737488355328) :
    Calls Tryz.prog 98 #[.string s, .string ⟨#[c]⟩] w fun e w' => e = .returned (.tuple #[.string (bk (s.data.toList.take i)), .string (bk (s.data.toList.drop (i + 1))), .bool true]) ∧ Below w.heap.size w w' := by
  have hi := Tryz.stringslite_Index_one s c w
  rw [h] at hi
  have c0 : (0 : Int) ≤ (i : Int) := by omega
  have c1 : (i : Int) ≤ (s.size : Int) := by omega
  have c2 : (0 : Int) ≤ (i : Int) + 1 := by omega
  have c3 : (i : Int) + 1 ≤ (s.size : Int) := by omega
  have c4 : IntKind.i64.wrap ((i : Int) + 1) = (i : Int) + 1 := IntWalk.i64_in _ (by omega)
  have e1 := bk_ext0 s i
  have e2 := bk_extE s (i + 1)
  have key : Calls Tryz.prog 120 #[.string s, .string ⟨#[c]⟩] w fun e w' => e = .returned (.tuple #[.string (bk (s.data.toList.take i)), .string (bk (s.data.toList.drop (i + 1))), .bool true]) ∧ Below w.heap.size w w' := by
    rw [← e1, ← e2]
    clear e1 e2
    go_enter Tryz.func120, Tryz.ntmps120
    go_wp2_with (go_at_call 131; refine hi.mono ?_; rintro e w' ⟨rfl, rfl⟩)
    go_quiet (fail)
    go_wp2
    go_ret3
    exact ⟨rfl, Below.drewN (Below.refl _ _) _⟩
  clear e1 e2
  go_enter Tryz.func98, Tryz.ntmps98
  go_wp2_with (go_at_call 120; refine key.mono ?_; rintro e w' ⟨rfl, hb⟩)
  go_ret3
  exact ⟨rfl, hb⟩

/-- A line that begins with a word and a blank: what stands behind them, and what behind the line; none: it is not there. -/
def fieldL (nm l : List UInt8) : Option (List UInt8 × List UInt8) :=
  if Lib.hasPrefix l (nm ++ [32]) then
    if Lib.indexByte (Lib.trimPrefix l (nm ++ [32])) 10 = -1 then none
    else some ((Lib.trimPrefix l (nm ++ [32])).take (Lib.indexByte (Lib.trimPrefix l (nm ++ [32])) 10).toNat, (Lib.trimPrefix l (nm ++ [32])).drop ((Lib.indexByte (Lib.trimPrefix l (nm ++ [32])) 10).toNat + 1))
  else none
def FieldPost (g : Nat) (s : ByteArray) (nm : List UInt8) (w : World) (e : Ending) (w' : World) : Prop :=
  Chg (fun k => k = g) w w' ∧ ((∃ x r, fieldL nm s.data.toList = some (x, r) ∧ e = .returned (.tuple #[.string (bk x), .bool true]) ∧ Cel w' g 9 1 (fun _ => .string (bk r))) ∨
    ∃ x : ByteArray, fieldL nm s.data.toList = none ∧ e = .returned (.tuple #[.string x, .bool false]) ∧ Cel w' g 9 1 (fun _ => .string s))
theorem trimPrefix_len (l p : List UInt8) : (Lib.trimPrefix l p).length ≤ l.length := by
  unfold Lib.trimPrefix; split
  · rw [List.length_drop]; omega
  · exact Nat.le_refl _
set_option maxRecDepth 100000 in
set_option maxHeartbeats 2000000 in
theorem field_any (g : Nat) (s : ByteArray) (nm : List UInt8) (w : World) (hs : s.size ≤ 140737488351300) (hn : nm.length ≤ 100) (hc : Cel w g 9 1 (fun _ => .string s)) :
    Calls Tryz.prog 60 #[.pointer (some ⟨g, 0, none⟩), .string (bk nm)] w (FieldPost g s nm w) := by
  have k0 : w.cell? ⟨g, 0, none⟩ = some (.string s) := hc.cell 0 (by decide)
  have f0 : w.frozen? ⟨g, 0, none⟩ = false := hc.frozen 0
  have z0 : (bk nm ++ (⟨#[32]⟩ : ByteArray)).size = (bk nm).size + 1 := by rw [ByteArray.size_append]; rfl
  have z1 : (bk nm).size ≤ 100 := by rw [bk_size]; exact hn
  have HP := Lib.hid (Tryz.strings_CutPrefix s (bk nm ++ (⟨#[32]⟩ : ByteArray)) w)
  rw [show (bk nm ++ (⟨#[32]⟩ : ByteArray)).data.toList = nm ++ [32] by rw [ByteArray.data_append, Array.toList_append, bk_list]] at HP
  have HF : Hid (fieldL nm s.data.toList = if Lib.hasPrefix s.data.toList (nm ++ [32]) then
    if Lib.indexByte (Lib.trimPrefix s.data.toList (nm ++ [32])) 10 = -1 then none
    else some ((Lib.trimPrefix s.data.toList (nm ++ [32])).take (Lib.indexByte (Lib.trimPrefix s.data.toList (nm ++ [32])) 10).toNat, (Lib.trimPrefix s.data.toList (nm ++ [32])).drop ((Lib.indexByte (Lib.trimPrefix s.data.toList (nm ++ [32])) 10).toNat + 1)) else none) := Lib.hid rfl
  have hrl : (Lib.trimPrefix s.data.toList (nm ++ [32])).length ≤ s.size := by rw [Lib.size_eq]; exact trimPrefix_len _ _
  change Hid (Calls Tryz.prog 63 #[.string s, .string (bk nm ++ (⟨#[32]⟩ : ByteArray))] w fun e w' => e = .returned (.tuple #[.string (bk (Lib.trimPrefix s.data.toList (nm ++ [32]))), .bool (Lib.hasPrefix s.data.toList (nm ++ [32]))]) ∧ w' = w) at HP
  have HC := Lib.hid hc
  have HPO : Hid (∀ e w', FieldPost g s nm w e w' = (Chg (fun k => k = g) w w' ∧ ((∃ x r, fieldL nm s.data.toList = some (x, r) ∧ e = .returned (.tuple #[.string (bk x), .bool true]) ∧ Cel w' g 9 1 (fun _ => .string (bk r))) ∨
    ∃ x : ByteArray, fieldL nm s.data.toList = none ∧ e = .returned (.tuple #[.string x, .bool false]) ∧ Cel w' g 9 1 (fun _ => .string s)))) := Lib.hid (fun _ _ => rfl)
  generalize FieldPost g s nm w = POST at *
  generalize Lib.trimPrefix s.data.toList (nm ++ [32]) = R at *
  generalize Lib.hasPrefix s.data.toList (nm ++ [32]) = hp at *
  generalize fieldL nm s.data.toList = FL at *
  have HRL := Lib.hid hrl
  clear hc hn hrl
  go_enter Tryz.func60, Tryz.ntmps60
  cases hp
  · go_wp2_with (go_at_call 63; refine HP.out.mono ?_; rintro e w1 ⟨rfl, rfl⟩)
    rw [HPO.out]
    exact ⟨Chg.refl _ _, .inr ⟨_, HF.out, rfl, HC.out⟩⟩
  · have HB : Hid ((bk R).data.toList = R) := Lib.hid (bk_list R)
    have HZ : Hid ((bk R).size = R.length) := Lib.hid (bk_size R)
    rcases idx_cases 10 R with ⟨hi, _⟩ | ⟨i, hi, hil, _, _⟩
    · have HCN := Lib.hid (fun w => cut1_none (bk R) 10 w (by rw [bk_list]; exact hi))
      have HFN : Hid (FL = none) := Lib.hid (by rw [HF.out, if_pos rfl, if_pos hi])
      clear hi
      go_wp2_with (first | (go_at_call 63; refine HP.out.mono ?_; rintro e w1 ⟨rfl, rfl⟩) | (go_at_call 98; refine (HCN.out _).mono ?_; rintro e w2 ⟨rfl, hb2⟩; have HB2 := Lib.hid hb2; clear hb2))
      rw [HPO.out]
      exact ⟨Chg.of_below HB2.out, .inr ⟨_, HFN.out, rfl, HC.out.below HB2.out HC.out.blk⟩⟩
    · have HCN := Lib.hid (fun w => cut1_at (bk R) 10 w i (by rw [bk_list]; exact hi) (by rw [bk_size]; exact hil) (by rw [bk_size]; have := HRL.out; omega))
      rw [bk_list] at HCN
      have HFN : Hid (FL = some (R.take i, R.drop (i + 1))) := Lib.hid (by rw [HF.out, if_pos rfl, if_neg (by omega), hi]; rfl)
      clear hi hil
      generalize R.take i = X at *
      generalize R.drop (i + 1) = Y at *
      go_wp2_with fail
      refine HP.out.mono ?_
      rintro e w1 ⟨rfl, rfl⟩
      clear k0 f0
      go_wp2_with fail
      refine (HCN.out _).mono ?_
      rintro e w2 ⟨rfl, hb2⟩
      have HB2 := Lib.hid hb2
      have hc2 := HC.out.below hb2 HC.out.blk
      have k0 : w2.cell? ⟨g, 0, none⟩ = some (.string s) := hc2.cell 0 (by decide)
      have f0 : w2.frozen? ⟨g, 0, none⟩ = false := hc2.frozen 0
      have HC2 := Lib.hid hc2
      clear hb2 hc2
      go_wp2
      rw [HPO.out]
      exact ⟨Chg.setCell (S := fun k => k = g) (Chg.of_below HB2.out) (a := ⟨g, 0, none⟩) (.inl rfl) _, .inl ⟨X, Y, HFN.out, rfl, (HC2.out.set 0 (.string (bk Y))).congr (fun i hi => by rw [if_pos (by omega)])⟩⟩
end Go.Proofs.YtdlabapfcghfmaaGreatDoor
namespace Go.Proofs.YtdlabapfcghfmaaGreatDoor
open Go.RowKit
set_option linter.unusedVariables false
set_option linter.unusedSimpArgs false

section
variable (s : ByteArray)
theorem anyq_skip (q : UInt8 → Bool) : ∀ (k : Nat) (l : List UInt8), (∀ j c, j < k → l[j]? = some c → q c = false) → l.any q = (l.drop k).any q
  | 0, _, _ => rfl
  | k + 1, [], _ => rfl
  | k + 1, c :: l, h => by
    rw [List.any_cons, h 0 c (by omega) rfl, Bool.false_or, List.drop_succ_cons]
    exact anyq_skip q k l (fun j c hj hc => h (j + 1) c (by omega) (by simpa using hc))
/-- What a loop over the runes of a text comes to that looks for runes below 128. -/
theorem any_step (q : Nat → Bool) (hq : ∀ n, 128 ≤ n → q n = false) (pos : Nat) (h : pos < s.size) :
    (s.data.toList.drop pos).any (fun b => q b.toNat) = (q (Utf8.decode s pos).1 || (s.data.toList.drop (pos + (Utf8.decode s pos).2)).any (fun b => q b.toNat)) := by
  by_cases ha : (s.get! pos).toNat < 128
  · have hl : pos < s.data.toList.length := by rw [← Lib.size_eq]; exact h
    have hg := get_toList s pos h
    have hd : Utf8.decode s pos = ((s.get! pos).toNat, 1) := by
      rw [Lib.decode_at]; unfold Lib.decodeN; rw [if_pos ha]
    rw [hd, List.drop_eq_getElem_cons hl, List.any_cons, (List.getElem?_eq_some_iff.1 hg).2]
  · have hd := decodeN_high (s.size - pos) (s.get! pos).toNat (s.get! (pos + 1)).toNat (s.get! (pos + 2)).toNat (s.get! (pos + 3)).toNat (by omega) (by omega)
    rw [← Lib.decode_at] at hd
    rw [hq _ hd.1, Bool.false_or]
    generalize (Utf8.decode s pos).2 = m at hd ⊢
    rw [anyq_skip (fun b => q b.toNat) m]
    · rw [List.drop_drop]
    · intro j c hj hc
      rw [List.getElem?_drop] at hc
      have hlt : pos + j < s.size := by rw [Lib.size_eq]; exact (List.getElem?_eq_some_iff.1 hc).1
      rw [get_toList s (pos + j) hlt] at hc
      injection hc with hc
      subst hc
      apply hq
      have : j = 0 ∨ j = 1 ∨ j = 2 ∨ j = 3 := by omega
      rcases this with rfl | rfl | rfl | rfl
      · show 128 ≤ (s.get! pos).toNat
        omega
      · exact hd.2.2.2.1 (by omega)
      · exact hd.2.2.2.2.1 (by omega)
      · exact hd.2.2.2.2.2 (by omega)
theorem decode_in (pos : Nat) (h : pos < s.size) : pos + (Utf8.decode s pos).2 ≤ s.size := by
  by_cases ha : (s.get! pos).toNat < 128
  · have hd : Utf8.decode s pos = ((s.get! pos).toNat, 1) := by
      rw [Lib.decode_at]; unfold Lib.decodeN; rw [if_pos ha]
    rw [hd]; show pos + 1 ≤ _; omega
  · have hd := decodeN_high (s.size - pos) (s.get! pos).toNat (s.get! (pos + 1)).toNat (s.get! (pos + 2)).toNat (s.get! (pos + 3)).toNat (by omega) (by omega)
    rw [← Lib.decode_at] at hd
    omega
end
def labQ (n : Nat) : Bool := decide (n < 32) || n == 127
theorem labQ_high (n : Nat) (h : 128 ≤ n) : labQ n = false := by unfold labQ; simp; omega
/-- May a tag have the name? -/
def labelB (s : ByteArray) : Bool := !(s.data.toList.any fun b => labQ b.toNat) && (Lib.validD s.data.toList && decide (1 ≤ Lib.runeCount s) && decide (Lib.runeCount s ≤ 100))
theorem valid_any (s : ByteArray) (w : World) (hE : EnvO w) (hs : s.size ≤ 140737488351300) : Calls Tryz.prog 73 #[.string s] w fun e w' => e = .returned (.bool (Lib.validD s.data.toList)) ∧ Below w.heap.size w w' :=
  Any.utf8_ValidString Tryz.lays196 s w (by omega) hE.tabs
set_option maxRecDepth 100000 in
set_option maxHeartbeats 2000000 in
theorem label_any (s : ByteArray) (w : World) (hE : EnvO w) (hs : s.size ≤ 140737488351300) : Calls Tryz.prog 65 #[.string s] w fun e w' => e = .returned (.bool (labelB s)) ∧ Below w.heap.size w w' := by
  have HE := Lib.hid hE
  have HS := Lib.hid hs
  have HL : Hid (labelB s = (!(s.data.toList.any fun b => labQ b.toNat) && (Lib.validD s.data.toList && decide (1 ≤ Lib.runeCount s) && decide (Lib.runeCount s ≤ 100)))) := Lib.hid rfl
  clear hE
  go_enter Tryz.func65, Tryz.ntmps65
  go_wp2
  go_loopw [4] (fun _ w' => ∃ pos : Nat, w' = w.iter s pos ∧ ((s.data.toList.drop pos).any fun b => labQ b.toNat) = (s.data.toList.any fun b => labQ b.toNat)) (fun _ w' => s.size - w'.iterPos w.heap.size)
  case atStart => exact ⟨0, rfl, by rw [List.drop_zero]⟩
  case round =>
    obtain ⟨pos, rfl, hv⟩ := hrel
    have HV := Lib.hid hv
    clear hv
    by_cases hp : pos < s.size
    · have hnx : ∀ ty, (Instr.next (.pointer (some ⟨w.heap.size, 0, none⟩)) true ty).run Tryz.prog (w.iter s pos) = _ := fun ty => run_next_any w s pos ty hp
      have hwd := Lib.decode_width_pos s pos hp
      have hst := any_step s labQ labQ_high pos hp
      rw [HV.out] at hst
      by_cases h1 : (Utf8.decode s pos).1 < 32
      · have q1 : decide (((Utf8.decode s pos).1 : Int) < 32) = true := decide_eq_true (by omega)
        have HA : Hid (labelB s = false) := Lib.hid (by rw [HL.out, hst]; simp [labQ, h1])
        clear hst h1
        go_wp2
        go_ret
        rw [HA.out]
        exact ⟨rfl, (Below.refl _ _).alloc (Nat.le_refl _) _⟩
      · have q1 : decide (((Utf8.decode s pos).1 : Int) < 32) = false := decide_eq_false (by omega)
        by_cases h2 : (Utf8.decode s pos).1 = 127
        · have q2 : (((Utf8.decode s pos).1 : Int) == 127) = true := by rw [h2]; rfl
          have HA : Hid (labelB s = false) := Lib.hid (by rw [HL.out, hst]; simp [labQ, h2])
          clear hst h1 h2
          go_wp2
          go_ret
          rw [HA.out]
          exact ⟨rfl, (Below.refl _ _).alloc (Nat.le_refl _) _⟩
        · have q2 : (((Utf8.decode s pos).1 : Int) == 127) = false := by rw [beq_eq_false_iff_ne]; omega
          have HA : Hid (((s.data.toList.drop (pos + (Utf8.decode s pos).2)).any fun b => labQ b.toNat) = (s.data.toList.any fun b => labQ b.toNat)) := Lib.hid (by rw [hst]; simp [labQ, h1, h2])
          clear hst h1 h2
          go_wp2
          go_roundw
          case rel => exact ⟨pos + (Utf8.decode s pos).2, rfl, HA.out⟩
          case measure => simp; omega
    · have hnx : ∀ ty, (Instr.next (.pointer (some ⟨w.heap.size, 0, none⟩)) true ty).run Tryz.prog (w.iter s pos) = _ := fun ty => run_next_end w s pos ty hp
      have HA : Hid (labelB s = (Lib.validD s.data.toList && decide (1 ≤ Lib.runeCount s) && decide (Lib.runeCount s ≤ 100))) := Lib.hid (by
        rw [HL.out, ← HV.out, List.drop_eq_nil_of_le (by rw [← Lib.size_eq]; omega)]; rfl)
      have hl0 : Below w.heap.size w (w.iter s pos) := (Below.refl _ _).alloc (Nat.le_refl _) _
      have HL0 := Lib.hid hl0
      have HRC := Lib.hid (fun w => Tryz.utf8_RuneCountInString s w (by have := HS.out; omega))
      clear hl0 HV HL
      generalize Lib.runeCount s = rc at *
      generalize w.iter s pos = w0 at *
      go_wp2_with fail
      refine (HRC.out _).mono ?_
      rintro e w1 ⟨rfl, p1, rfl⟩
      have hl1 : Below w0.heap.size w0 (w0.iter s p1) := (Below.refl _ _).alloc (Nat.le_refl _) _
      have HL1 := Lib.hid (HL0.out.trans (hl1.mono HL0.out.size))
      generalize w0.iter s p1 = w1 at *
      have hv := valid_any s w1 (HE.out.below HL1.out) HS.out
      generalize Lib.validD s.data.toList = vd at *
      clear hl1 HL0
      cases vd
      · go_wp2_with (go_at_call 73; refine hv.mono ?_; rintro e w2 ⟨rfl, hb2⟩; have HB2 := Lib.hid hb2; clear hb2)
        go_ret
        rw [HA.out]
        exact ⟨rfl, HL1.out.trans (HB2.out.mono HL1.out.size)⟩
      · by_cases h1 : 1 ≤ rc
        · have d1 : decide ((rc : Int) ≥ 1) = true := decide_eq_true (by omega)
          have d1' : decide ((1 : Int) ≤ (rc : Int)) = true := decide_eq_true (by omega)
          by_cases h2 : rc ≤ 100
          · have d2 : decide ((rc : Int) ≤ 100) = true := decide_eq_true (by omega)
            rw [decide_eq_true h1, decide_eq_true h2] at HA
            clear h1 h2
            go_wp2_with (go_at_call 73; refine hv.mono ?_; rintro e w2 ⟨rfl, hb2⟩; have HB2 := Lib.hid hb2; clear hb2)
            go_ret
            rw [HA.out]
            exact ⟨rfl, HL1.out.trans (HB2.out.mono HL1.out.size)⟩
          · have d2 : decide ((rc : Int) ≤ 100) = false := decide_eq_false (by omega)
            rw [decide_eq_true h1, decide_eq_false h2] at HA
            clear h1 h2
            go_wp2_with (go_at_call 73; refine hv.mono ?_; rintro e w2 ⟨rfl, hb2⟩; have HB2 := Lib.hid hb2; clear hb2)
            go_ret
            rw [HA.out]
            exact ⟨rfl, HL1.out.trans (HB2.out.mono HL1.out.size)⟩
        · have d1 : decide ((rc : Int) ≥ 1) = false := decide_eq_false (by omega)
          have d1' : decide ((1 : Int) ≤ (rc : Int)) = false := decide_eq_false (by omega)
          rw [decide_eq_false h1] at HA
          clear h1
          go_wp2_with (go_at_call 73; refine hv.mono ?_; rintro e w2 ⟨rfl, hb2⟩; have HB2 := Lib.hid hb2; clear hb2)
          go_ret
          rw [HA.out]
          exact ⟨rfl, HL1.out.trans (HB2.out.mono HL1.out.size)⟩
set_option maxRecDepth 100000 in
set_option maxHeartbeats 2000000 in
theorem tagName_any (s : ByteArray) (w : World) (hs : s.size ≤ 140737488351300) : Calls Tryz.prog 92 #[.string s] w fun e w' => e = .returned (.bool (labelB s)) ∧ Below w.heap.size w w' := by
  have HS := Lib.hid hs
  have HL : Hid (labelB s = (!(s.data.toList.any fun b => labQ b.toNat) && (Lib.validD s.data.toList && decide (1 ≤ Lib.runeCount s) && decide (Lib.runeCount s ≤ 100)))) := Lib.hid rfl
  go_enter Tryz.func92, Tryz.ntmps92
  go_wp2
  go_loopw [3, 5] (fun vn _ w' => ∃ pos n : Nat, vn = .int .i64 n ∧ w' = w.iter s pos ∧ ((s.data.toList.drop pos).any fun b => labQ b.toNat) = (s.data.toList.any fun b => labQ b.toNat) ∧ pos ≤ s.size ∧ n ≤ pos ∧ ∃ f, s.size - pos ≤ f ∧ Lib.runeCount s = n + Lib.runeCountFrom s f pos) (fun _ _ w' => s.size - w'.iterPos w.heap.size)
  case atStart => exact ⟨0, 0, rfl, rfl, by rw [List.drop_zero], Nat.zero_le _, Nat.le_refl _, s.size, Nat.le_refl _, by unfold Lib.runeCount; omega⟩
  case round =>
    obtain ⟨pos, n, rfl, rfl, hv, hps, hnp, f, hf, hrc⟩ := hrel
    have HV := Lib.hid hv
    clear hv
    by_cases hp : pos < s.size
    · have hnx : ∀ ty, (Instr.next (.pointer (some ⟨w.heap.size, 0, none⟩)) true ty).run Tryz.prog (w.iter s pos) = _ := fun ty => run_next_any w s pos ty hp
      have hwd := Lib.decode_width_pos s pos hp
      have hwe : pos + (Utf8.decode s pos).2 ≤ s.size := decode_in s pos hp
      have hst := any_step s labQ labQ_high pos hp
      rw [HV.out] at hst
      obtain ⟨f', rfl⟩ : ∃ f', f = f' + 1 := ⟨f - 1, by omega⟩
      have HRC : Hid (Lib.runeCount s = (n + 1) + Lib.runeCountFrom s f' (pos + (Utf8.decode s pos).2)) := Lib.hid (by
        rw [hrc]; show n + Lib.runeCountFrom s (f' + 1) pos = _
        rw [Lib.runeCountFrom, if_pos hp]; omega)
      clear hrc
      by_cases h1 : (Utf8.decode s pos).1 < 32
      · have q1 : decide (((Utf8.decode s pos).1 : Int) < 32) = true := decide_eq_true (by omega)
        have HA : Hid (labelB s = false) := Lib.hid (by rw [HL.out, hst]; simp [labQ, h1])
        clear hst h1
        go_wp2
        go_ret
        rw [HA.out]
        exact ⟨rfl, (Below.refl _ _).alloc (Nat.le_refl _) _⟩
      · have q1 : decide (((Utf8.decode s pos).1 : Int) < 32) = false := decide_eq_false (by omega)
        by_cases h2 : (Utf8.decode s pos).1 = 127
        · have q2 : (((Utf8.decode s pos).1 : Int) == 127) = true := by rw [h2]; rfl
          have HA : Hid (labelB s = false) := Lib.hid (by rw [HL.out, hst]; simp [labQ, h2])
          clear hst h1 h2
          go_wp2
          go_ret
          rw [HA.out]
          exact ⟨rfl, (Below.refl _ _).alloc (Nat.le_refl _) _⟩
        · have q2 : (((Utf8.decode s pos).1 : Int) == 127) = false := by rw [beq_eq_false_iff_ne]; omega
          have HA : Hid (((s.data.toList.drop (pos + (Utf8.decode s pos).2)).any fun b => labQ b.toNat) = (s.data.toList.any fun b => labQ b.toNat)) := Lib.hid (by rw [hst]; simp [labQ, h1, h2])
          have HM : Hid (pos + (Utf8.decode s pos).2 ≤ s.size ∧ n + 1 ≤ pos + (Utf8.decode s pos).2 ∧ s.size - (pos + (Utf8.decode s pos).2) ≤ f') := Lib.hid (by omega)
          have hsz := HS.out
          clear hst h1 h2 hf hwe
          go_wp2
          go_roundw
          case rel => exact ⟨pos + (Utf8.decode s pos).2, n + 1, rfl, rfl, HA.out, HM.out.1, HM.out.2.1, f', HM.out.2.2, HRC.out⟩
          case measure => simp; omega
    · have hnx : ∀ ty, (Instr.next (.pointer (some ⟨w.heap.size, 0, none⟩)) true ty).run Tryz.prog (w.iter s pos) = _ := fun ty => run_next_end w s pos ty hp
      have HA : Hid (labelB s = (Lib.validD s.data.toList && decide (1 ≤ n) && decide (n ≤ 100))) := Lib.hid (by
        have e : Lib.runeCount s = n := by rw [hrc, Lib.runeCountFrom_end s f pos hp]; rfl
        rw [HL.out, ← HV.out, List.drop_eq_nil_of_le (by rw [← Lib.size_eq]; omega), e]; rfl)
      have hl0 : Below w.heap.size w (w.iter s pos) := (Below.refl _ _).alloc (Nat.le_refl _) _
      have HL0 := Lib.hid hl0
      have hv := utf8_any s (w.iter s pos) (by have := HS.out; omega)
      clear hl0 HV HL hrc hf
      generalize w.iter s pos = w1 at *
      generalize Lib.validD s.data.toList = vd at *
      by_cases h1 : 1 ≤ n
      · have d1 : decide ((n : Int) ≥ 1) = true := decide_eq_true (by omega)
        have d1' : decide ((1 : Int) ≤ (n : Int)) = true := decide_eq_true (by omega)
        by_cases h2 : n ≤ 100
        · have d2 : decide ((n : Int) ≤ 100) = true := decide_eq_true (by omega)
          rw [decide_eq_true h1, decide_eq_true h2] at HA
          clear h1 h2
          go_wp2_with (go_at_call 115; refine hv.mono ?_; rintro e w2 ⟨rfl, hb2⟩; have HB2 := Lib.hid hb2; clear hb2)
          go_ret
          rw [HA.out, Bool.and_true, Bool.and_true]
          exact ⟨rfl, HL0.out.trans (HB2.out.mono HL0.out.size)⟩
        · have d2 : decide ((n : Int) ≤ 100) = false := decide_eq_false (by omega)
          rw [decide_eq_true h1, decide_eq_false h2] at HA
          clear h1 h2
          go_wp2
          go_ret
          rw [HA.out, Bool.and_false]
          exact ⟨rfl, HL0.out⟩
      · have d1 : decide ((n : Int) ≥ 1) = false := decide_eq_false (by omega)
        have d1' : decide ((1 : Int) ≤ (n : Int)) = false := decide_eq_false (by omega)
        rw [decide_eq_false h1] at HA
        clear h1
        go_wp2
        go_ret
        rw [HA.out, Bool.and_false, Bool.false_and]
        exact ⟨rfl, HL0.out⟩
end Go.Proofs.YtdlabapfcghfmaaGreatDoor
namespace Go.Proofs.YtdlabapfcghfmaaGreatDoor
open Go.RowKit
set_option linter.unusedVariables false
set_option linter.unusedSimpArgs false

theorem hasPrefix_iff (l p : List UInt8) : Lib.hasPrefix l p = true ↔ l.take p.length = p := by
  unfold Lib.hasPrefix
  rw [List.isPrefixOf_iff_prefix, List.prefix_iff_eq_take]
  exact eq_comm
theorem fieldL_some {nm l x r : List UInt8} (h : fieldL nm l = some (x, r)) : x.length + r.length + nm.length + 2 = l.length := by
  unfold fieldL at h
  split at h
  · next hp =>
    have hl : nm.length + 1 ≤ l.length := by
      have := congrArg List.length ((hasPrefix_iff _ _).1 hp)
      rw [List.length_take, List.length_append] at this
      simp at this
      omega
    rw [show Lib.trimPrefix l (nm ++ [32]) = l.drop (nm.length + 1) by unfold Lib.trimPrefix; rw [if_pos hp]; simp] at h
    rcases idx_cases 10 (l.drop (nm.length + 1)) with ⟨hi, _⟩ | ⟨i, hi, hil, _, _⟩
    · rw [hi] at h; simp at h
    · rw [hi] at h
      rw [if_neg (by omega)] at h
      simp only [Int.toNat_natCast] at h
      injection h with h
      injection h with h1 h2
      subst h1; subst h2
      rw [List.length_drop] at hil
      simp only [List.length_take, List.length_drop]
      omega
  · exact absurd h (by simp)
/-- The document's way: the line first, then how it begins. -/
theorem fieldL_line (nm l : List UInt8) (hn : (10 : UInt8) ∉ nm) (i : Nat) (h : l[i]? = some 10) (hno : ∀ j, j < i → l[j]? ≠ some 10) :
    fieldL nm l = if nm.length + 1 ≤ i ∧ (l.take i).take (nm.length + 1) = nm ++ [32] then some ((l.take i).drop (nm.length + 1), l.drop (i + 1)) else none := by
  have hil : i < l.length := (List.getElem?_eq_some_iff.1 h).1
  by_cases hp : l.take (nm.length + 1) = nm ++ [32]
  · have hge : nm.length + 1 ≤ i := by
      by_cases hx : nm.length + 1 ≤ i
      · exact hx
      · have e : (l.take (nm.length + 1))[i]? = some 10 := by rw [List.getElem?_take, if_pos (by omega), h]
        rw [hp] at e
        have hm := List.mem_of_getElem? e
        rw [List.mem_append] at hm
        rcases hm with hm | hm
        · exact absurd hm hn
        · simp at hm
    have hpp : Lib.hasPrefix l (nm ++ [32]) = true := by rw [hasPrefix_iff]; simpa using hp
    have ht : Lib.trimPrefix l (nm ++ [32]) = l.drop (nm.length + 1) := by unfold Lib.trimPrefix; rw [if_pos hpp]; simp
    have hix : Lib.indexByte (l.drop (nm.length + 1)) 10 = ((i - (nm.length + 1) : Nat) : Int) := by
      apply indexByte_at
      · rw [List.getElem?_drop]; rw [show nm.length + 1 + (i - (nm.length + 1)) = i by omega]; exact h
      · intro j hj
        rw [List.getElem?_drop]
        exact hno _ (by omega)
    rw [if_pos ⟨hge, by rw [List.take_take, Nat.min_eq_left hge]; exact hp⟩]
    unfold fieldL
    rw [if_pos hpp, ht, hix, if_neg (by omega)]
    simp only [Int.toNat_natCast]
    rw [List.drop_take, List.drop_drop, show nm.length + 1 + (i - (nm.length + 1) + 1) = i + 1 by omega]
  · have hpp : ¬ Lib.hasPrefix l (nm ++ [32]) = true := by rw [hasPrefix_iff]; simpa using hp
    unfold fieldL
    rw [if_neg hpp, if_neg (fun hc => hp (by have := hc.2; rwa [List.take_take, Nat.min_eq_left hc.1] at this))]
theorem fieldL_no (nm l : List UInt8) (h : (10 : UInt8) ∉ l) : fieldL nm l = none := by
  unfold fieldL
  split
  · next hp =>
    rw [show Lib.trimPrefix l (nm ++ [32]) = l.drop (nm.length + 1) by unfold Lib.trimPrefix; rw [if_pos hp]; simp]
    rw [indexByte_not (fun hm => h (List.mem_of_mem_drop hm)), if_pos rfl]
  · rfl

def treeN : List UInt8 := [116, 114, 101, 101]
def parentN : List UInt8 := [112, 97, 114, 101, 110, 116]
def authorN : List UInt8 := [97, 117, 116, 104, 111, 114]
def committerN : List UInt8 := [99, 111, 109, 109, 105, 116, 116, 101, 114]
def objectN : List UInt8 := [111, 98, 106, 101, 99, 116]
def typeN : List UInt8 := [116, 121, 112, 101]
def tagN : List UInt8 := [116, 97, 103]
def taggerN : List UInt8 := [116, 97, 103, 103, 101, 114]
def hashU (p : List UInt8) : Bool := hashB (bytesOf (bk p))
/-- The parents. -/
def parsF : Nat → List UInt8 → List (List UInt8) → Option (List (List UInt8) × List UInt8)
  | 0, _, _ => none
  | f + 1, l, acc => match fieldL parentN l with
    | none => some (acc, l)
    | some (p, r) => if hashU p = false ∨ p ∈ acc then none else parsF f r (acc ++ [p])
structure CommitR where
  t : List UInt8
  P : List (List UInt8)
  a : List UInt8
  c : List UInt8
  m : List UInt8
/-- What stands behind a line's end: the message. -/
def msgF : List UInt8 → Option (List UInt8)
  | [] => none
  | b :: m => if b = 10 ∧ withoutB m [0] = true then some m else none
def commitF (l : List UInt8) : Option CommitR :=
  match fieldL treeN l with
  | none => none
  | some (t, l1) => if hashU t = false then none else
    match parsF (l1.length + 1) l1 [] with
    | none => none
    | some (P, l2) => match fieldL authorN l2 with
      | none => none
      | some (a, l3) => if persB (bk a) = false then none else
        match fieldL committerN l3 with
        | none => none
        | some (c, l4) => if persB (bk c) = false then none else
          match msgF l4 with
          | none => none
          | some m => some ⟨t, P, a, c, m⟩
structure TagR where
  o : List UInt8
  k : Nat
  n : List UInt8
  g : List UInt8
  m : List UInt8
def tagF (l : List UInt8) : Option TagR :=
  match fieldL objectN l with
  | none => none
  | some (o, l1) => if hashU o = false then none else
    match fieldL typeN l1 with
    | none => none
    | some (k, l2) => if kindN (bk k) = 0 then none else
      match fieldL tagN l2 with
      | none => none
      | some (n, l3) => if labelB (bk n) = false then none else
        match fieldL taggerN l3 with
        | none => none
        | some (g, l4) => if persB (bk g) = false then none else
          match msgF l4 with
          | none => none
          | some m => some ⟨o, kindN (bk k), n, g, m⟩
/-- What a line's reading leaves, both ways in one. -/
def FieldR (nm : List UInt8) (s : ByteArray) (x : ByteArray) (b : Bool) (s' : ByteArray) : Prop :=
  (b = true ∧ fieldL nm s.data.toList = some (x.data.toList, s'.data.toList)) ∨ (b = false ∧ fieldL nm s.data.toList = none ∧ s' = s)
theorem FieldR.size {nm : List UInt8} {s x s' : ByteArray} {b : Bool} (h : FieldR nm s x b s') : s'.size ≤ s.size := by
  rcases h with ⟨_, h⟩ | ⟨_, _, rfl⟩
  · have := fieldL_some h
    rw [Lib.size_eq, Lib.size_eq]; omega
  · exact Nat.le_refl _
theorem FieldR.xsize {nm : List UInt8} {s x s' : ByteArray} (h : FieldR nm s x true s') : x.size ≤ s.size ∧ s'.size < s.size := by
  rcases h with ⟨_, h⟩ | ⟨h, _⟩
  · have := fieldL_some h
    rw [Lib.size_eq, Lib.size_eq, Lib.size_eq]; omega
  · exact absurd h (by decide)
theorem field_any' (g : Nat) (s : ByteArray) (nm : List UInt8) (w : World) (hs : s.size ≤ 140737488351300) (hn : nm.length ≤ 100) (hc : Cel w g 9 1 (fun _ => .string s)) :
    Calls Tryz.prog 60 #[.pointer (some ⟨g, 0, none⟩), .string (bk nm)] w fun e w' => ∃ x b s', e = .returned (.tuple #[.string x, .bool b]) ∧ Chg (fun k => k = g) w w' ∧ Cel w' g 9 1 (fun _ => .string s') ∧ FieldR nm s x b s' := by
  refine (field_any g s nm w hs hn hc).mono ?_
  rintro e w' ⟨h1, ⟨x, r, h2, h3, h4⟩ | ⟨x, h2, h3, h4⟩⟩
  · exact ⟨bk x, true, bk r, h3, h1, h4, .inl ⟨rfl, by rw [bk_list, bk_list]; exact h2⟩⟩
  · exact ⟨x, false, s, h3, h1, h4, .inr ⟨rfl, h2, rfl⟩⟩
theorem containsZ_any (s : ByteArray) (w : World) : Calls Tryz.prog 74 #[.string s, .string ⟨#[0]⟩] w fun e w' => e = .returned (.bool (Lib.containsAny s.data.toList [0])) ∧ w' = w := by
  have H := Lib.hid (Tryz.strings_IndexAny_one s ⟨#[0]⟩ w (by decide) (by
    intro j b hb
    rcases j with _ | j
    · injection hb with hb; subst hb; decide
    · exact absurd hb (by simp)))
  change Hid (Calls Tryz.prog 106 #[.string s, .string ⟨#[0]⟩] w fun e w' => e = .returned (.int .i64 (Lib.indexAny s.data.toList [0])) ∧ w' = w) at H
  unfold Lib.containsAny
  generalize Lib.indexAny s.data.toList [0] = X at *
  go_enter Tryz.func74, Tryz.ntmps74
  go_wp2_with (go_at_call 106; refine H.out.mono ?_; rintro e w1 ⟨rfl, rfl⟩)
  go_ret
  exact ⟨rfl, rfl⟩
set_option maxRecDepth 100000 in
theorem textZ_any (s : ByteArray) (w : World) (hE : EnvO w) (hs : s.size ≤ 140737488351300) :
    Calls Tryz.prog 44 #[.string s, .string ⟨#[0]⟩] w fun e w' => e = .returned (.bool (withoutB s.data.toList [0])) ∧ Below w.heap.size w w' := by
  have hv := valid_any s w hE hs
  have HC := Lib.hid (fun w => containsZ_any s w)
  unfold withoutB
  cases h1 : Lib.validD s.data.toList
  · rw [h1] at hv
    clear h1
    go_enter Tryz.func44, Tryz.ntmps44
    go_wp2_with (go_at_call 73; refine hv.mono ?_; rintro e w1 ⟨rfl, hb1⟩)
    go_ret
    exact ⟨rfl, hb1⟩
  · rw [h1] at hv
    clear h1
    generalize Lib.containsAny s.data.toList [0] = X at *
    go_enter Tryz.func44, Tryz.ntmps44
    go_wp2_with (first
      | (go_at_call 74; have hx := hb1; refine (HC.out w1).mono ?_; rintro e w2 ⟨rfl, rfl⟩)
      | (go_at_call 73; refine hv.mono ?_; rintro e w1 ⟨rfl, hb1⟩))
    go_ret
    exact ⟨by simp, hb1⟩
end Go.Proofs.YtdlabapfcghfmaaGreatDoor
namespace Go.Proofs.YtdlabapfcghfmaaGreatDoor
open Go.RowKit
set_option linter.unusedVariables false
set_option linter.unusedSimpArgs false

theorem FieldR.yes {nm : List UInt8} {s x s' : ByteArray} (h : FieldR nm s x true s') : fieldL nm s.data.toList = some (x.data.toList, s'.data.toList) := by
  rcases h with ⟨_, h⟩ | ⟨h, _⟩
  · exact h
  · exact absurd h (by decide)
theorem FieldR.no {nm : List UInt8} {s x s' : ByteArray} (h : FieldR nm s x false s') : fieldL nm s.data.toList = none := by
  rcases h with ⟨h, _⟩ | ⟨_, h, _⟩
  · exact absurd h (by decide)
  · exact h
/-- The parents' end does not know where the counting began. -/
theorem parsF_more : ∀ (f : Nat) (l : List UInt8) (acc : List (List UInt8)), l.length < f → parsF (f + 1) l acc = parsF f l acc
  | 0, _, _, h => by omega
  | f + 1, l, acc, h => by
    rw [parsF, parsF]
    cases hf : fieldL parentN l with
    | none => rfl
    | some q =>
      obtain ⟨p, r⟩ := q
      have := fieldL_some hf
      show (if hashU p = false ∨ p ∈ acc then none else parsF (f + 1) r (acc ++ [p])) = (if hashU p = false ∨ p ∈ acc then none else parsF f r (acc ++ [p]))
      rw [parsF_more f r (acc ++ [p]) (by omega)]
theorem commitF_pars {s x s1 : ByteArray} {b : Bool} (h0 : FieldR treeN s x b s1) (hp : parsF (s1.size + 1) s1.data.toList [] = none) : commitF s.data.toList = none := by
  unfold commitF
  cases b
  · rw [h0.no]
  · rw [h0.yes]
    show (if hashU x.data.toList = false then none else _) = none
    split
    · rfl
    · rw [← Lib.size_eq, hp]
theorem commitF_bad {s x0 s1 x1 s2 s3 x2 s4 : ByteArray} {P : List (List UInt8)} {b0 b1 b2 : Bool} (h0 : FieldR treeN s x0 b0 s1) (hp : parsF (s1.size + 1) s1.data.toList [] = some (P, s2.data.toList))
    (h1 : FieldR authorN s2 x1 b1 s3) (h2 : FieldR committerN s3 x2 b2 s4) (hb : (b0 && b1 && b2) = false) : commitF s.data.toList = none := by
  unfold commitF
  cases b0
  · rw [h0.no]
  · rw [h0.yes]
    show (if hashU x0.data.toList = false then none else _) = none
    split
    · rfl
    · rw [← Lib.size_eq, hp]
      cases b1
      · simp only [h1.no]
      · simp only [h1.yes]
        show (if persB (bk x1.data.toList) = false then none else _) = none
        split
        · rfl
        · cases b2
          · rw [h2.no]
          · exact absurd hb (by decide)
theorem commitF_all {s x0 s1 x1 s2 s3 x2 s4 : ByteArray} {P : List (List UInt8)} (h0 : FieldR treeN s x0 true s1) (hp : parsF (s1.size + 1) s1.data.toList [] = some (P, s2.data.toList))
    (h1 : FieldR authorN s2 x1 true s3) (h2 : FieldR committerN s3 x2 true s4) : commitF s.data.toList = if hashB (bytesOf x0) = false ∨ persB x1 = false ∨ persB x2 = false then none else (msgF s4.data.toList).map fun m => ⟨x0.data.toList, P, x1.data.toList, x2.data.toList, m⟩ := by
  unfold commitF
  rw [h0.yes]
  show (if hashU x0.data.toList = false then none else _) = _
  unfold hashU
  rw [bk_of]
  by_cases e0 : hashB (bytesOf x0) = false
  · rw [if_pos e0, if_pos (.inl e0)]
  · rw [if_neg e0, ← Lib.size_eq, hp]
    simp only [h1.yes]
    show (if persB (bk x1.data.toList) = false then none else _) = _
    rw [bk_of]
    by_cases e1 : persB x1 = false
    · rw [if_pos e1, if_pos (.inr (.inl e1))]
    · rw [if_neg e1, h2.yes]
      show (if persB (bk x2.data.toList) = false then none else _) = _
      rw [bk_of]
      by_cases e2 : persB x2 = false
      · rw [if_pos e2, if_pos (.inr (.inr e2))]
      · rw [if_neg e2, if_neg (by rintro (h | h | h); exact e0 h; exact e1 h; exact e2 h)]
        cases msgF s4.data.toList <;> rfl
theorem msgF_no {s : ByteArray} (h : Lib.hasPrefix s.data.toList [10] = false) : msgF s.data.toList = none := by
  unfold msgF
  split
  · rfl
  · next b m hl =>
    rw [hl] at h
    split
    · next hc =>
      rw [hc.1] at h
      exact absurd h (by simp [Lib.hasPrefix, List.isPrefixOf])
    · rfl
theorem msgF_yes {s : ByteArray} (h : Lib.hasPrefix s.data.toList [10] = true) : msgF s.data.toList = if withoutB (Lib.trimPrefix s.data.toList [10]) [0] = true then some (Lib.trimPrefix s.data.toList [10]) else none := by
  have hc := (hasPrefix_iff _ _).1 h
  unfold Lib.trimPrefix
  rw [if_pos h]
  cases hl : s.data.toList with
  | nil => rw [hl] at hc; simp at hc
  | cons b m =>
    rw [hl] at hc
    simp at hc
    subst hc
    show (if (10 : UInt8) = 10 ∧ withoutB m [0] = true then some m else none) = if withoutB m [0] = true then some m else none
    simp

theorem info_str : (Tryz.prog.info? 9).map (fun i => (i.zero, i.size, i.bytes)) = some (some (.string ⟨#[]⟩), 1, 16) := by kernel_rfl
/-- Texts as cells. -/
def strVs (P : List (List UInt8)) : List Value := P.map fun p => Value.string (bk p)
theorem strVs_one (P : List (List UInt8)) : ∀ u ∈ strVs P, u.oneCell' = true := fun u hu => by
  obtain ⟨p, _, rfl⟩ := List.mem_map.1 hu; rfl
theorem OwnS.strs {w : World} {B n c : Nat} {A : Option Addr} {P : List (List UInt8)} (h : OwnS w B 9 1 (.slice A n c) n (strVs P)) : P.length = n := by
  have := h.1; simpa [strVs] using this
theorem OwnS.strsAt {w : World} {B n c : Nat} {A : Option Addr} {P : List (List UInt8)} (h : OwnS w B 9 1 (.slice A n c) n (strVs P)) : StrsAt w A (P.map bk) := fun hl => by
  rw [List.length_map] at hl
  obtain ⟨g, off, c', hv, hb, hg, hc⟩ := h.cells (by simpa [strVs] using hl)
  injection hv with hA _ _
  refine ⟨g, off, hA, hg, fun i s hs => ?_⟩
  have hi := (List.getElem?_eq_some_iff.1 hs).1
  rw [List.length_map] at hi
  rw [hc i (by simpa [strVs] using hi)]
  rw [List.getElem?_map] at hs
  simp only [strVs, List.getElem?_map]
  cases hp : P[i]? with
  | none => rw [hp] at hs; simp at hs
  | some p => rw [hp] at hs; simp at hs; rw [← hs]; rfl
theorem mem_bk (P : List (List UInt8)) (p : List UInt8) : bk p ∈ P.map bk ↔ p ∈ P := by
  constructor
  · intro h
    obtain ⟨q, hq, e⟩ := List.mem_map.1 h
    rw [bk_inj.1 e] at hq; exact hq
  · exact fun h => List.mem_map.2 ⟨p, h, rfl⟩
theorem contains_any (A : Option Addr) (n c : Nat) (P : List (List UInt8)) (p : List UInt8) (w : World) (B : Nat) (h : OwnS w B 9 1 (.slice A n c) n (strVs P)) (hn : n ≤ 9223372036854775807) :
    Calls Tryz.prog 62 #[.slice A n c, .string (bk p)] w fun e w' => e = .returned (.bool (decide (p ∈ P))) ∧ w' = w := by
  have hl := h.strs
  have hat := h.strsAt
  by_cases h0 : n = 0
  · subst h0
    have hP : P = [] := List.eq_nil_of_length_eq_zero hl
    subst hP
    exact (Tryz.slices_Contains_string_empty A c (bk p) w).mono fun e w' h => ⟨h.1.trans (by simp), h.2⟩
  · obtain ⟨g, o, rfl, _, hc⟩ := hat (by simp; omega)
    refine (Tryz.slices_Contains_string g o n c (P.map bk) (bk p) w (by simp; omega) hn (fun j hj => ?_)).mono fun e w' h => ⟨h.1.trans ?_, h.2⟩
    · have hs : (P.map bk)[j]? = some ((P.map bk).getD j ByteArray.empty) := by
        rw [List.getD_eq_getElem?_getD, List.getElem?_eq_getElem hj]; rfl
      exact hc j _ hs
    · rw [List.take_of_length_le (by simp; omega)]
      congr 2
      rw [Bool.eq_iff_iff, Lib.containsS_iff, mem_bk, decide_eq_true_eq]
theorem OwnS.clip1 {w : World} {base : Nat} {e : TypeId} {A : Option Addr} {n c : Nat} {xs : List Value} (h : OwnS w base e 1 (.slice A n c) n xs) : OwnS w base e 1 (.slice A n n) n xs := h.clip
set_option maxRecDepth 100000 in
theorem clipStr_any (A : Option Addr) (n c : Nat) (w : World) (hn : n ≤ c) (hc : c ≤ 9223372036854775807) :
    Calls Tryz.prog 64 #[.slice A n c] w fun e w' => e = .returned (.slice A n n) ∧ w = w' := by
  have h0 : (n : Int) ≤ c := by omega
  go_enter Tryz.func64, Tryz.ntmps64
  go_wp2
  go_ret
  exact ⟨rfl, rfl⟩
end Go.Proofs.YtdlabapfcghfmaaGreatDoor
namespace Go.Proofs.YtdlabapfcghfmaaGreatDoor
open Go.RowKit
set_option linter.unusedVariables false
set_option linter.unusedSimpArgs false

def cmF (t : ByteArray) (vP : Value) (a c m : ByteArray) (j : Nat) : Value := if j = 0 then .string t else if j = 1 then vP else if j = 2 then .string a else if j = 3 then .string c else .string m
def okF3 (b0 b1 b2 : Bool) (j : Nat) : Value := if j = 0 then .bool b0 else if j = 1 then .bool b1 else .bool b2
/-- What the reading of a commit holds in memory: the text, the commit so far, which lines came. -/
structure CmSt (w0 w : World) (h g1 g2 : Nat) (s t : ByteArray) (vP : Value) (a c m : ByteArray) (b0 b1 b2 : Bool) : Prop where
  low : Below h w0 w
  lt1 : h < g1
  lt2 : g1 < g2
  cs : Cel w h 9 1 (fun _ => .string s)
  cc : Cel w g1 44 5 (cmF t vP a c m)
  co : Cel w g2 111 3 (okF3 b0 b1 b2)
theorem CmSt.chg {w0 w w' : World} {h g1 g2 : Nat} {s s' t : ByteArray} {vP : Value} {a c m : ByteArray} {b0 b1 b2 : Bool} (k : CmSt w0 w h g1 g2 s t vP a c m b0 b1 b2) (hc : Chg (fun k => k = h) w w') (hs : Cel w' h 9 1 (fun _ => .string s')) : CmSt w0 w' h g1 g2 s' t vP a c m b0 b1 b2 :=
  ⟨k.low.trans (hc.below (Nat.le_of_lt k.cs.blk) (fun i hi e => by omega)), k.lt1, k.lt2, hs, k.cc.chg hc (by have := k.lt1; omega), k.co.chg hc (by have := k.lt1; have := k.lt2; omega)⟩
theorem CmSt.below {w0 w w' : World} {h g1 g2 : Nat} {s t : ByteArray} {vP : Value} {a c m : ByteArray} {b0 b1 b2 : Bool} (k : CmSt w0 w h g1 g2 s t vP a c m b0 b1 b2) (hb : Below w.heap.size w w') : CmSt w0 w' h g1 g2 s t vP a c m b0 b1 b2 :=
  ⟨k.low.trans (hb.mono (Nat.le_of_lt k.cs.blk)), k.lt1, k.lt2, k.cs.below hb k.cs.blk, k.cc.below hb k.cc.blk, k.co.below hb k.co.blk⟩
theorem CmSt.chgHi {w0 w w' : World} {h g1 g2 : Nat} {s t : ByteArray} {vP : Value} {a c m : ByteArray} {b0 b1 b2 : Bool} (k : CmSt w0 w h g1 g2 s t vP a c m b0 b1 b2) (hc : Chg (fun k => g2 + 1 ≤ k) w w') : CmSt w0 w' h g1 g2 s t vP a c m b0 b1 b2 := by
  have h1 := k.lt1
  have h2 := k.lt2
  exact ⟨k.low.trans (hc.below (Nat.le_of_lt k.cs.blk) (fun i hi e => by omega)), k.lt1, k.lt2, k.cs.chg hc (by omega), k.cc.chg hc (by omega), k.co.chg hc (by omega)⟩
theorem CmSt.set {w0 w : World} {h g1 g2 : Nat} {s t : ByteArray} {vP : Value} {a c m : ByteArray} {b0 b1 b2 : Bool} (k : CmSt w0 w h g1 g2 s t vP a c m b0 b1 b2) {i : Nat} {v : Value} {t' : ByteArray} {vP' : Value} {a' c' m' : ByteArray}
    (hf : ∀ j, j < 5 → (if j = i then v else cmF t vP a c m j) = cmF t' vP' a' c' m' j) : CmSt w0 (w.setCell ⟨g1, i, none⟩ v) h g1 g2 s t' vP' a' c' m' b0 b1 b2 :=
  ⟨k.low.setCell (p := ⟨g1, i, none⟩) (Nat.le_of_lt k.lt1) v, k.lt1, k.lt2, k.cs.setFar (Nat.ne_of_lt k.lt1) v, (k.cc.set i v).congr hf, k.co.setFar (Nat.ne_of_gt k.lt2) v⟩
theorem CmSt.setOk {w0 w : World} {h g1 g2 : Nat} {s t : ByteArray} {vP : Value} {a c m : ByteArray} {b0 b1 b2 : Bool} (k : CmSt w0 w h g1 g2 s t vP a c m b0 b1 b2) {i : Nat} {b : Bool} {d0 d1 d2 : Bool}
    (hf : ∀ j, j < 3 → (if j = i then .bool b else okF3 b0 b1 b2 j) = okF3 d0 d1 d2 j) : CmSt w0 (w.setCell ⟨g2, i, none⟩ (.bool b)) h g1 g2 s t vP a c m d0 d1 d2 :=
  ⟨k.low.setCell (p := ⟨g2, i, none⟩) (by have := k.lt1; have := k.lt2; show h ≤ g2; omega) _, k.lt1, k.lt2, k.cs.setFar (by have := k.lt1; have := k.lt2; show h ≠ g2; omega) _, k.cc.setFar (Nat.ne_of_lt k.lt2) _, (k.co.set i _).congr hf⟩
theorem CmSt.new (w : World) (s : ByteArray) : CmSt w (((w.alloc (.cells #[.string s] 9)).alloc (.cells #[.string ⟨#[]⟩, .slice none 0 0, .string ⟨#[]⟩, .string ⟨#[]⟩, .string ⟨#[]⟩] 44)).alloc (.cells #[.bool false, .bool false, .bool false] 111)) w.heap.size (w.heap.size + 1) (w.heap.size + 1 + 1) s ⟨#[]⟩ (.slice none 0 0) ⟨#[]⟩ ⟨#[]⟩ ⟨#[]⟩ false false false := by
  refine ⟨(((Below.refl _ _).alloc (Nat.le_refl _) _).alloc (by simp) _).alloc (by simp; omega) _, by omega, by omega, ?_, ?_, ?_⟩
  · refine ((Cel.new w 9 #[.string s] (fun _ => .string s) (fun i hi => ?_)).alloc _).alloc _
    have : i < 1 := hi
    obtain rfl : i = 0 := by omega
    rfl
  · have h := (Cel.new (w.alloc (.cells #[.string s] 9)) 44 #[.string ⟨#[]⟩, .slice none 0 0, .string ⟨#[]⟩, .string ⟨#[]⟩, .string ⟨#[]⟩] (cmF ⟨#[]⟩ (.slice none 0 0) ⟨#[]⟩ ⟨#[]⟩ ⟨#[]⟩) (fun i hi => by
      have : i < 5 := hi
      rcases i with _ | _ | _ | _ | _ | i <;> first | rfl | omega)).alloc (.cells #[.bool false, .bool false, .bool false] 111)
    simpa using h
  · have h := Cel.new ((w.alloc (.cells #[.string s] 9)).alloc (.cells #[.string ⟨#[]⟩, .slice none 0 0, .string ⟨#[]⟩, .string ⟨#[]⟩, .string ⟨#[]⟩] 44)) 111 #[.bool false, .bool false, .bool false] (okF3 false false false) (fun i hi => by
      have : i < 3 := hi
      rcases i with _ | _ | _ | i <;> first | rfl | omega)
    simpa using h
theorem eq3 (b0 b1 b2 : Bool) (w : World) : (Op.equalIn 10000 111 (.agg #[.bool b0, .bool b1, .bool b2]) (.agg #[.bool true, .bool true, .bool true])).run Tryz.prog w = .ok (b0 && (b1 && b2)) w := by
  cases b0 <;> cases b1 <;> cases b2 <;> kernel_rfl
/-- How long the text at a place is. -/
def strAt (w : World) (b : Nat) : Nat := match w.cell? ⟨b, 0, none⟩ with | some (.string s) => s.size | _ => 0
theorem strAt_of {w : World} {b : Nat} {s : ByteArray} (h : Cel w b 9 1 (fun _ => .string s)) : strAt w b = s.size := by
  unfold strAt; rw [h.cell 0 (by decide)]
/-- What reading a commit answers. -/
def CommitPost (s : ByteArray) (w : World) (e : Ending) (w' : World) : Prop :=
  Below w.heap.size w w' ∧ ((commitF s.data.toList = none ∧ e = .returned (.tuple #[.nilIface, .bool false])) ∨
    ∃ r A, commitF s.data.toList = some r ∧ e = .returned (.tuple #[.iface 44 (.agg #[.string (bk r.t), .slice A r.P.length r.P.length, .string (bk r.a), .string (bk r.c), .string (bk r.m)]), .bool true]) ∧ OwnS w' w.heap.size 9 1 (.slice A r.P.length r.P.length) r.P.length (strVs r.P))
set_option maxRecDepth 100000 in
set_option maxHeartbeats 4000000 in
theorem commit_any (s : ByteArray) (w : World) (hE : EnvO w) (hs : s.size ≤ 8796093022000) : Calls Tryz.prog 34 #[.string s] w (CommitPost s w) := by
  have HE := Lib.hid hE
  have HS := Lib.hid hs
  have hst := CmSt.new w s
  obtain ⟨i0, hi, hz0, hz1, hz2⟩ := info_parts info_str
  clear hE hs
  go_enter Tryz.func34, Tryz.ntmps34
  go_upto_region 3 with (fail)
  generalize ((w.alloc (.cells #[.string s] 9)).alloc (.cells #[.string ⟨#[]⟩, .slice none 0 0, .string ⟨#[]⟩, .string ⟨#[]⟩, .string ⟨#[]⟩] 44)).alloc (.cells #[.bool false, .bool false, .bool false] 111) = w3 at *
  generalize hg2 : w.heap.size + 1 + 1 = g2 at *
  generalize hg1 : w.heap.size + 1 = g1 at *
  generalize hh : w.heap.size = h at *
  have HH := Lib.hid hh
  have HST := Lib.hid hst
  clear hh hg1 hg2 hst
  go_wp2_with fail
  refine (field_any' h s treeN w3 (Nat.le_trans HS.out (by decide)) (by decide) HST.out.cs).mono ?_
  rintro e w4 ⟨x0, b0, s1, rfl, hc4, hs4, hf0⟩
  have HF0 := Lib.hid hf0
  have hst4 := HST.out.chg hc4 hs4
  have hne : g1 ≠ g2 := Nat.ne_of_lt hst4.lt2
  have hne' : g2 ≠ g1 := Ne.symm hne
  have k0 : w4.cell? ⟨g1, 0, none⟩ = some (.string ⟨#[]⟩) := hst4.cc.cell 0 (by decide)
  have f0 : w4.frozen? ⟨g1, 0, none⟩ = false := hst4.cc.frozen 0
  have k1 : w4.cell? ⟨g2, 0, none⟩ = some (.bool false) := hst4.co.cell 0 (by decide)
  have f1 : w4.frozen? ⟨g2, 0, none⟩ = false := hst4.co.frozen 0
  have HST4 := Lib.hid hst4
  clear hc4 hs4 hf0 hst4 HST
  go_wp2
  have HST5 := Lib.hid ((HST4.out.set (i := 0) (v := .string x0) (t' := x0) (vP' := .slice none 0 0) (a' := ⟨#[]⟩) (c' := ⟨#[]⟩) (m' := ⟨#[]⟩) (fun j hj => by unfold cmF; split <;> rfl)).setOk (i := 0) (b := b0) (d0 := b0) (d1 := false) (d2 := false) (fun j hj => by unfold okF3; split <;> rfl))
  have HS1 : Hid (s1.size ≤ s.size) := Lib.hid HF0.out.size
  clear k0 f0 k1 f1 HST4
  generalize (w4.setCell ⟨g1, 0, none⟩ (.string x0)).setCell ⟨g2, 0, none⟩ (.bool b0) = w5 at *
  go_loopw [6] (fun _ wr => ∃ (s2 : ByteArray) (P : List (List UInt8)) (f : Nat) (v : Value), CmSt w wr h g1 g2 s2 x0 v ⟨#[]⟩ ⟨#[]⟩ ⟨#[]⟩ b0 false false ∧ OwnS wr (g2 + 1) 9 1 v P.length (strVs P) ∧ s2.size < f ∧ s2.size ≤ s1.size ∧ P.length + s2.size ≤ s1.size ∧ parsF (s1.size + 1) s1.data.toList [] = parsF f s2.data.toList P) (fun _ wr => strAt wr h)
  case atStart => exact ⟨s1, [], s1.size + 1, .slice none 0 0, HST5.out, OwnS.nil _ _ _ _, by omega, Nat.le_refl _, by simp, rfl⟩
  case round =>
    clear HST5
    obtain ⟨s2, P, f, v, hst, ho, hf, h21, hPs, hpf⟩ := hrel
    obtain ⟨A, cA, rfl⟩ := ho.shape
    have HMS := Lib.hid (strAt_of hst.cs)
    have HST := Lib.hid hst
    have HO := Lib.hid ho
    have HPF := Lib.hid hpf
    have HN2 : Hid (s2.size < f ∧ s2.size ≤ s1.size ∧ P.length + s2.size ≤ s1.size) := Lib.hid ⟨hf, h21, hPs⟩
    clear hst ho hpf hf h21 hPs
    go_wp2_with fail
    refine (field_any' h s2 parentN wr (by have := HN2.out; have := HS1.out; have := HS.out; omega) (by decide) HST.out.cs).mono ?_
    rintro e w6 ⟨x, b, s3, rfl, hc6, hs6, hf6⟩
    have HF6 := Lib.hid hf6
    have HST6 := Lib.hid (HST.out.chg hc6 hs6)
    have HO6 := Lib.hid (HO.out.chg hc6 (fun k hk e => by have h1 := (HO.out.lt k hk).1; have h2 := HST.out.lt1; have h3 := HST.out.lt2; omega))
    clear hc6 hs6 hf6 HST HO
    cases b
    case true =>
      have hxs := HF6.out.xsize
      have HHX := Lib.hid (fun w => hash_any x w (by have := HN2.out; have := HS1.out; have := HS.out; omega))
      have HPN : Hid (parsF f s2.data.toList P = if hashB (bytesOf x) = false ∨ x.data.toList ∈ P then none else parsF (f - 1) s3.data.toList (P ++ [x.data.toList])) := Lib.hid (by
        obtain ⟨f', rfl⟩ : ∃ f', f = f' + 1 := ⟨f - 1, by have := HN2.out; omega⟩
        rw [parsF, HF6.out.yes]
        show (if hashU x.data.toList = false ∨ _ then none else _) = _
        unfold hashU
        rw [bk_of]; rfl)
      have HX3 : Hid (s3.size < s2.size) := Lib.hid hxs.2
      clear hxs
      cases hhx : hashB (bytesOf x)
      · rw [hhx] at HHX HPN
        have HNO : Hid (commitF s.data.toList = none) := Lib.hid (commitF_pars HF0.out (by rw [HPF.out, HPN.out, if_pos (.inl rfl)]))
        clear hhx
        go_wp2_with (go_at_call 61; refine (HHX.out _).mono ?_; rintro e w7 ⟨rfl, hb7⟩; have HB7 := Lib.hid hb7; clear hb7)
        go_ret2
        exact ⟨by rw [HH.out]; exact (HST6.out.below HB7.out).low, .inl ⟨HNO.out, rfl⟩⟩
      · rw [hhx] at HHX HPN
        clear hhx
        go_wp2_with fail
        refine (HHX.out _).mono ?_
        rintro e w7 ⟨rfl, hb7⟩
        have HST7 := Lib.hid (HST6.out.below hb7)
        have HO7 := Lib.hid (HO6.out.chg (Chg.of_below (S := fun _ => False) hb7) (fun _ _ h => h))
        have k1 : w7.cell? ⟨g1, 1, none⟩ = some (.slice A P.length cA) := HST7.out.cc.cell 1 (by decide)
        have HCT := Lib.hid (contains_any A P.length cA P x.data.toList w7 (g2 + 1) HO7.out (by have := HN2.out; have := HS1.out; have := HS.out; omega))
        rw [bk_of] at HCT
        clear hb7 HST6 HO6
        by_cases hin : x.data.toList ∈ P
        · have HNO : Hid (commitF s.data.toList = none) := Lib.hid (commitF_pars HF0.out (by rw [HPF.out, HPN.out, if_pos (.inr hin)]))
          rw [decide_eq_true hin] at HCT
          clear hin
          go_wp2_with (go_at_call 62; refine HCT.out.mono ?_; rintro e w8 ⟨rfl, rfl⟩)
          go_ret2
          exact ⟨by rw [HH.out]; exact HST7.out.low, .inl ⟨HNO.out, rfl⟩⟩
        · rw [if_neg (by rintro (h | h); exact absurd h (by decide); exact hin h)] at HPN
          rw [decide_eq_false hin] at HCT
          clear hin
          have f1 : w7.frozen? ⟨g1, 1, none⟩ = false := HST7.out.cc.frozen 1
          go_upto_region 8 with (go_at_call 62; refine HCT.out.mono ?_; rintro e w8 ⟨rfl, rfl⟩)
          have hl8 : Below w8.heap.size w8 (w8.alloc (.cells #[.string x] 9)) := (Below.refl _ _).alloc (Nat.le_refl _) _
          have HST8 := Lib.hid (HST7.out.below hl8)
          have HO8 := Lib.hid (HO7.out.alloc (.cells #[.string x] 9))
          have hbs : g2 + 1 ≤ (w8.alloc (.cells #[.string x] 9)).heap.size := HST8.out.co.blk
          have HSRC := Lib.hid (Src.one_new (P := Tryz.prog) (w := w8) (u := .string x) (t := 9) rfl)
          have hbyte : (P.length + 1) * 16 ≤ 140737488355328 := by have := HN2.out; have := HS1.out; have := HS.out; omega
          have hmax : P.length + 1 ≤ maxLen := by unfold maxLen; omega
          have hpl : P.length ≤ 8796093022000 := by have := HN2.out; have := HS1.out; have := HS.out; omega
          clear hl8
          go_wp2_with (at_builtin; go_loud (refine wpList_append_S rfl (.tmp 32) (.tmp 34) 25 25 rfl i0 (.string ⟨#[]⟩) 16 (.slice 9) Tryz.underlying25 Tryz.underlying25 (fun _ h => by cases h) hi hz0 hz1 hz2 rfl rfl rfl HO8.out HSRC.out hmax hbyte hbs ?_; intro A9 c9 w9 ho9 hg9 hw9; have hst9 := HST8.out.chgHi (Chg.of_grown hg9 (fun k hk => (HO8.out.lt k hk).1)); have k9 : w9.cell? ⟨g1, 1, none⟩ = some (.slice A P.length cA) := hst9.cc.cell 1 (by decide); have f9 : w9.frozen? ⟨g1, 1, none⟩ = false := hst9.cc.frozen 1; have HST9 := Lib.hid hst9; clear hst9))
          have HST10 := Lib.hid (HST9.out.set (i := 1) (v := .slice A9 (P.length + 1) c9) (t' := x0) (vP' := .slice A9 (P.length + 1) c9) (a' := ⟨#[]⟩) (c' := ⟨#[]⟩) (m' := ⟨#[]⟩) (fun j hj => by
            rcases j with _ | _ | _ | _ | _ | j <;> first | rfl | omega))
          have HO10 : Hid (OwnS (w9.setCell ⟨g1, 1, none⟩ (.slice A9 (P.length + 1) c9)) (g2 + 1) 9 1 (.slice A9 (P.length + 1) c9) (P ++ [x.data.toList]).length (strVs (P ++ [x.data.toList]))) := Lib.hid (by
            have h := ho9.setLow (a := ⟨g1, 1, none⟩) (by show g1 < g2 + 1; have := HST9.out.lt2; omega) (.slice A9 (P.length + 1) c9)
            rw [List.length_append]
            unfold strVs
            rw [List.map_append, List.map_cons, bk_of]
            exact h)
          refine ⟨⟨s3, P ++ [x.data.toList], f - 1, _, HST10.out, HO10.out, ?_, ?_, ?_, ?_⟩, ?_⟩
          · have := HN2.out; have := HX3.out; omega
          · have := HN2.out; have := HX3.out; omega
          · rw [List.length_append]; have := HN2.out; have := HX3.out; simp only [List.length_cons, List.length_nil]; omega
          · rw [HPF.out, HPN.out]
          · rw [strAt_of HST10.out.cs, HMS.out]; exact HX3.out
    case false =>
      have HPN : Hid (parsF (s1.size + 1) s1.data.toList [] = some (P, s2.data.toList)) := Lib.hid (by
        obtain ⟨f', rfl⟩ : ∃ f', f = f' + 1 := ⟨f - 1, by have := HN2.out; omega⟩
        rw [HPF.out, parsF, HF6.out.no])
      obtain ⟨_, rfl⟩ : True ∧ s3 = s2 := ⟨trivial, by rcases HF6.out with ⟨h, _⟩ | ⟨_, _, h⟩; exact absurd h (by decide); exact h⟩
      have HZ3 : Hid (s3.size ≤ s.size) := Lib.hid (by have := HN2.out; have := HS1.out; omega)
      clear HPF HMS HF6
      go_wp2_with fail
      refine (field_any' h s3 authorN w6 (by have := HZ3.out; have := HS.out; omega) (by decide) HST6.out.cs).mono ?_
      rintro e w7 ⟨x1, b1, s4, rfl, hc7, hs7, hf7⟩
      have HF1 := Lib.hid hf7
      have HST7 := Lib.hid (HST6.out.chg hc7 hs7)
      have HO7 := Lib.hid (HO6.out.chg hc7 (fun k hk e => by have h1 := (HO6.out.lt k hk).1; have h2 := HST6.out.lt1; have h3 := HST6.out.lt2; omega))
      have HZ4 : Hid (s4.size ≤ s.size) := Lib.hid (Nat.le_trans hf7.size HZ3.out)
      have k0 : w7.cell? ⟨g1, 2, none⟩ = some (.string ⟨#[]⟩) := HST7.out.cc.cell 2 (by decide)
      have f0 : w7.frozen? ⟨g1, 2, none⟩ = false := HST7.out.cc.frozen 2
      have k1 : w7.cell? ⟨g2, 1, none⟩ = some (.bool false) := HST7.out.co.cell 1 (by decide)
      have f1 : w7.frozen? ⟨g2, 1, none⟩ = false := HST7.out.co.frozen 1
      clear hc7 hs7 hf7 HST6 HO6
      go_upto_region 10 with (fail)
      have HST8 := Lib.hid ((HST7.out.set (i := 2) (v := .string x1) (t' := x0) (vP' := .slice A P.length cA) (a' := x1) (c' := ⟨#[]⟩) (m' := ⟨#[]⟩) (fun j hj => by rcases j with _ | _ | _ | _ | _ | j <;> first | rfl | omega)).setOk (i := 1) (b := b1) (d0 := b0) (d1 := b1) (d2 := false) (fun j hj => by rcases j with _ | _ | _ | j <;> first | rfl | omega))
      have HO8 := Lib.hid ((HO7.out.setLow (a := ⟨g1, 2, none⟩) (by show g1 < g2 + 1; have := HST7.out.lt2; omega) (.string x1)).setLow (a := ⟨g2, 1, none⟩) (by show g2 < g2 + 1; omega) (.bool b1))
      clear k0 f0 k1 f1 HST7 HO7
      generalize (w7.setCell ⟨g1, 2, none⟩ (.string x1)).setCell ⟨g2, 1, none⟩ (.bool b1) = w8 at *
      go_wp2_with fail
      refine (field_any' h s4 committerN w8 (by have := HZ4.out; have := HS.out; omega) (by decide) HST8.out.cs).mono ?_
      rintro e w9 ⟨x2, b2, s5, rfl, hc9, hs9, hf9⟩
      have HF2 := Lib.hid hf9
      have HST9 := Lib.hid (HST8.out.chg hc9 hs9)
      have HO9 := Lib.hid (HO8.out.chg hc9 (fun k hk e => by have h1 := (HO8.out.lt k hk).1; have h2 := HST8.out.lt1; have h3 := HST8.out.lt2; omega))
      have HZ5 : Hid (s5.size ≤ s.size) := Lib.hid (Nat.le_trans hf9.size HZ4.out)
      have k0 : w9.cell? ⟨g1, 3, none⟩ = some (.string ⟨#[]⟩) := HST9.out.cc.cell 3 (by decide)
      have f0 : w9.frozen? ⟨g1, 3, none⟩ = false := HST9.out.cc.frozen 3
      have k1 : w9.cell? ⟨g2, 2, none⟩ = some (.bool false) := HST9.out.co.cell 2 (by decide)
      have f1 : w9.frozen? ⟨g2, 2, none⟩ = false := HST9.out.co.frozen 2
      clear hc9 hs9 hf9 HST8 HO8
      go_upto_region 11 with (fail)
      have HST10 := Lib.hid ((HST9.out.set (i := 3) (v := .string x2) (t' := x0) (vP' := .slice A P.length cA) (a' := x1) (c' := x2) (m' := ⟨#[]⟩) (fun j hj => by rcases j with _ | _ | _ | _ | _ | j <;> first | rfl | omega)).setOk (i := 2) (b := b2) (d0 := b0) (d1 := b1) (d2 := b2) (fun j hj => by rcases j with _ | _ | _ | j <;> first | rfl | omega))
      have HO10 := Lib.hid ((HO9.out.setLow (a := ⟨g1, 3, none⟩) (by show g1 < g2 + 1; have := HST9.out.lt2; omega) (.string x2)).setLow (a := ⟨g2, 2, none⟩) (by show g2 < g2 + 1; omega) (.bool b2))
      clear k0 f0 k1 f1 HST9 HO9
      generalize (w9.setCell ⟨g1, 3, none⟩ (.string x2)).setCell ⟨g2, 2, none⟩ (.bool b2) = w10 at *
      have k0 : w10.cell? ⟨h, 0, none⟩ = some (.string s5) := HST10.out.cs.cell 0 (by decide)
      have HCP := Lib.hid (Tryz.strings_CutPrefix s5 ⟨#[10]⟩ w10)
      change Hid (Calls Tryz.prog 63 #[.string s5, .string ⟨#[10]⟩] w10 fun e w' => e = .returned (.tuple #[.string (bk (Lib.trimPrefix s5.data.toList [10])), .bool (Lib.hasPrefix s5.data.toList [10])]) ∧ w' = w10) at HCP
      go_wp2_with fail
      refine HCP.out.mono ?_
      rintro e w11 ⟨rfl, rfl⟩
      have q0 : w11.cell? ⟨g2, 0, none⟩ = some (.bool b0) := HST10.out.co.cell 0 (by decide)
      have q1 : w11.cell? ⟨g2, 1, none⟩ = some (.bool b1) := HST10.out.co.cell 1 (by decide)
      have q2 : w11.cell? ⟨g2, 2, none⟩ = some (.bool b2) := HST10.out.co.cell 2 (by decide)
      clear HCP k0
      have hq3 := eq3
      have hgt := Tryz.eqGuardType111
      by_cases hall : (b0 && b1 && b2) = false
      · have HNO : Hid (commitF s.data.toList = none) := Lib.hid (commitF_bad HF0.out HPN.out HF1.out HF2.out hall)
        generalize Lib.hasPrefix s5.data.toList [10] = hp at *
        cases b0 <;> cases b1 <;> cases b2 <;> first | exact absurd hall (by decide) | (clear hall; go_wp2; go_ret2; exact ⟨by rw [HH.out]; exact HST10.out.low, .inl ⟨HNO.out, rfl⟩⟩)
      · obtain ⟨rfl, rfl, rfl⟩ : b0 = true ∧ b1 = true ∧ b2 = true := by revert hall; cases b0 <;> cases b1 <;> cases b2 <;> simp
        have HALL := Lib.hid (commitF_all HF0.out HPN.out HF1.out HF2.out)
        clear hall
        have HE11 : Hid (EnvO w11) := Lib.hid (HE.out.below (by rw [HH.out]; exact HST10.out.low))
        have HZX : Hid (x0.size ≤ s.size ∧ x1.size ≤ s.size ∧ x2.size ≤ s.size) := Lib.hid ⟨HF0.out.xsize.1, by have := HF1.out.xsize; have := HZ3.out; omega, by have := HF2.out.xsize; have := HZ4.out; omega⟩
        have k0 : w11.cell? ⟨g1, 0, none⟩ = some (.string x0) := HST10.out.cc.cell 0 (by decide)
        have HLW : Hid (Below w.heap.size w w11) := Lib.hid (by rw [HH.out]; exact HST10.out.low)
        cases hhp : Lib.hasPrefix s5.data.toList [10]
        · have HNO : Hid (commitF s.data.toList = none) := Lib.hid (by rw [HALL.out, msgF_no hhp]; split <;> rfl)
          clear hhp
          go_wp2
          go_ret2
          exact ⟨HLW.out, .inl ⟨HNO.out, rfl⟩⟩
        · have HMS := Lib.hid (msgF_yes hhp)
          have HML : Hid ((Lib.trimPrefix s5.data.toList [10]).length ≤ s.size) := Lib.hid (by have := trimPrefix_len s5.data.toList [10]; have := HZ5.out; rw [Lib.size_eq s5] at this; omega)
          generalize Lib.trimPrefix s5.data.toList [10] = M at *
          have HH0 := Lib.hid (hash_any x0 w11 (by have := HZX.out; have := HS.out; omega))
          clear hhp
          cases hx0 : hashB (bytesOf x0)
          · have HNO : Hid (commitF s.data.toList = none) := Lib.hid (by rw [HALL.out, if_pos (.inl hx0)])
            rw [hx0] at HH0
            clear hx0
            go_wp2_with (go_at_call 61; refine HH0.out.mono ?_; rintro e w12 ⟨rfl, hb12⟩; have HB12 := Lib.hid hb12; clear hb12)
            go_ret2
            exact ⟨HLW.out.trans (HB12.out.mono HLW.out.size), .inl ⟨HNO.out, rfl⟩⟩
          · rw [hx0] at HH0
            have HX0 := Lib.hid hx0
            clear hx0
            go_wp2_with fail
            refine HH0.out.mono ?_
            rintro e w12 ⟨rfl, hb12⟩
            have HST12 := Lib.hid (HST10.out.below hb12)
            have HO12 := Lib.hid (HO10.out.chg (Chg.of_below (S := fun _ => False) hb12) (fun _ _ h => h))
            have HE12 := Lib.hid (HE11.out.below hb12)
            have HLW12 := Lib.hid (HLW.out.trans (hb12.mono HLW.out.size))
            have k2 : w12.cell? ⟨g1, 2, none⟩ = some (.string x1) := HST12.out.cc.cell 2 (by decide)
            have HP1 := Lib.hid (person_any x1 w12 HE12.out (by have := HZX.out; have := HS.out; omega))
            unfold PersPost at HP1
            clear hb12 k0 q0 q1 q2 HST10 HO10 HE11 HLW HH0
            cases hx1 : persB x1
            · have HNO : Hid (commitF s.data.toList = none) := Lib.hid (by rw [HALL.out, if_pos (.inr (.inl hx1))])
              rw [hx1] at HP1
              clear hx1
              go_wp2_with (go_at_call 18; refine HP1.out.mono ?_; rintro e w13 ⟨rfl, hb13⟩; have HB13 := Lib.hid hb13; clear hb13)
              go_ret2
              exact ⟨HLW12.out.trans (HB13.out.mono HLW12.out.size), .inl ⟨HNO.out, rfl⟩⟩
            · rw [hx1] at HP1
              have HX1 := Lib.hid hx1
              clear hx1
              go_wp2_with fail
              refine HP1.out.mono ?_
              rintro e w13 ⟨rfl, hb13⟩
              have HST13 := Lib.hid (HST12.out.below hb13)
              have HO13 := Lib.hid (HO12.out.chg (Chg.of_below (S := fun _ => False) hb13) (fun _ _ h => h))
              have HE13 := Lib.hid (HE12.out.below hb13)
              have HLW13 := Lib.hid (HLW12.out.trans (hb13.mono HLW12.out.size))
              have k3 : w13.cell? ⟨g1, 3, none⟩ = some (.string x2) := HST13.out.cc.cell 3 (by decide)
              have HP2 := Lib.hid (person_any x2 w13 HE13.out (by have := HZX.out; have := HS.out; omega))
              unfold PersPost at HP2
              clear hb13 k2 HST12 HO12 HE12 HLW12 HP1
              cases hx2 : persB x2
              · have HNO : Hid (commitF s.data.toList = none) := Lib.hid (by rw [HALL.out, if_pos (.inr (.inr hx2))])
                rw [hx2] at HP2
                clear hx2
                go_wp2_with (go_at_call 18; refine HP2.out.mono ?_; rintro e w14 ⟨rfl, hb14⟩; have HB14 := Lib.hid hb14; clear hb14)
                go_ret2
                exact ⟨HLW13.out.trans (HB14.out.mono HLW13.out.size), .inl ⟨HNO.out, rfl⟩⟩
              · rw [hx2] at HP2
                have HX2 := Lib.hid hx2
                clear hx2
                go_wp2_with fail
                refine HP2.out.mono ?_
                rintro e w14 ⟨rfl, hb14⟩
                have HST14 := Lib.hid (HST13.out.below hb14)
                have HO14 := Lib.hid (HO13.out.chg (Chg.of_below (S := fun _ => False) hb14) (fun _ _ h => h))
                have HE14 := Lib.hid (HE13.out.below hb14)
                have HLW14 := Lib.hid (HLW13.out.trans (hb14.mono HLW13.out.size))
                have HTX := Lib.hid (textZ_any (bk M) w14 HE14.out (by rw [bk_size]; have := HML.out; have := HS.out; omega))
                rw [bk_list] at HTX
                clear hb14 k3 HST13 HO13 HE13 HLW13 HP2
                cases hm : withoutB M [0]
                · have HNO : Hid (commitF s.data.toList = none) := Lib.hid (by rw [HALL.out, HMS.out, hm]; split <;> rfl)
                  rw [hm] at HTX
                  clear hm
                  go_wp2_with (go_at_call 44; refine HTX.out.mono ?_; rintro e w15 ⟨rfl, hb15⟩; have HB15 := Lib.hid hb15; clear hb15)
                  go_ret2
                  exact ⟨HLW14.out.trans (HB15.out.mono HLW14.out.size), .inl ⟨HNO.out, rfl⟩⟩
                · have HYES : Hid (commitF s.data.toList = some ⟨x0.data.toList, P, x1.data.toList, x2.data.toList, M⟩) := Lib.hid (by
                    rw [HALL.out, HMS.out, hm, if_neg (by rintro (h | h | h); exact absurd (HX0.out.symm.trans h) (by decide); exact absurd (HX1.out.symm.trans h) (by decide); exact absurd (HX2.out.symm.trans h) (by decide))]; rfl)
                  rw [hm] at HTX
                  clear hm
                  go_wp2_with fail
                  refine HTX.out.mono ?_
                  rintro e w15 ⟨rfl, hb15⟩
                  have HST15 := Lib.hid (HST14.out.below hb15)
                  have HO15 := Lib.hid (HO14.out.chg (Chg.of_below (S := fun _ => False) hb15) (fun _ _ h => h))
                  have HLW15 := Lib.hid (HLW14.out.trans (hb15.mono HLW14.out.size))
                  have k1 : w15.cell? ⟨g1, 1, none⟩ = some (.slice A P.length cA) := HST15.out.cc.cell 1 (by decide)
                  have f1 : w15.frozen? ⟨g1, 1, none⟩ = false := HST15.out.cc.frozen 1
                  have k0 : w15.cell? ⟨g1, 0, none⟩ = some (.string x0) := HST15.out.cc.cell 0 (by decide)
                  have k2 : w15.cell? ⟨g1, 2, none⟩ = some (.string x1) := HST15.out.cc.cell 2 (by decide)
                  have k3 : w15.cell? ⟨g1, 3, none⟩ = some (.string x2) := HST15.out.cc.cell 3 (by decide)
                  have k4 : w15.cell? ⟨g1, 4, none⟩ = some (.string ⟨#[]⟩) := HST15.out.cc.cell 4 (by decide)
                  have f4 : w15.frozen? ⟨g1, 4, none⟩ = false := HST15.out.cc.frozen 4
                  have hcp := HO15.out.cap
                  have hcm := HO15.out.capm
                  clear hb15 HST14 HO14 HE14 HLW14 HTX hne hne' hq3 hgt
                  go_wp2_with (go_at_call 64; refine (clipStr_any _ _ _ _ hcp hcm).mono ?_; rintro e w16 ⟨rfl, rfl⟩)
                  have hlt1 : w.heap.size ≤ g1 := by rw [HH.out]; exact Nat.le_of_lt HST15.out.lt1
                  have hlt2 : g1 < g2 + 1 := by have := HST15.out.lt2; omega
                  go_ret2
                  refine ⟨(HLW15.out.setCell (p := ⟨g1, 4, none⟩) hlt1 _).setCell (p := ⟨g1, 1, none⟩) hlt1 _, .inr ⟨_, A, HYES.out, by simp only [bk_of]; rfl, ?_⟩⟩
                  exact (((HO15.out.clip).setLow (a := ⟨g1, 4, none⟩) hlt2 _).setLow (a := ⟨g1, 1, none⟩) hlt2 _).base_ (by omega)
end Go.Proofs.YtdlabapfcghfmaaGreatDoor
namespace Go.Proofs.YtdlabapfcghfmaaGreatDoor
open Go.RowKit
set_option linter.unusedVariables false
set_option linter.unusedSimpArgs false

def tgF (t : ByteArray) (vP : Int) (a c m : ByteArray) (j : Nat) : Value := if j = 0 then .string t else if j = 1 then .int .i64 vP else if j = 2 then .string a else if j = 3 then .string c else .string m
def okF4 (b0 b1 b2 b3 : Bool) (j : Nat) : Value := if j = 0 then .bool b0 else if j = 1 then .bool b1 else if j = 2 then .bool b2 else .bool b3
/-- What the reading of a tag holds in memory: the text, the tag so far, which lines came. -/
structure TgSt (w0 w : World) (h g1 g2 : Nat) (s t : ByteArray) (vP : Int) (a c m : ByteArray) (b0 b1 b2 b3 : Bool) : Prop where
  low : Below h w0 w
  lt1 : h < g1
  lt2 : g1 < g2
  cs : Cel w h 9 1 (fun _ => .string s)
  cc : Cel w g1 91 5 (tgF t vP a c m)
  co : Cel w g2 118 4 (okF4 b0 b1 b2 b3)
theorem TgSt.chg {w0 w w' : World} {h g1 g2 : Nat} {s s' t : ByteArray} {vP : Int} {a c m : ByteArray} {b0 b1 b2 b3 : Bool} (k : TgSt w0 w h g1 g2 s t vP a c m b0 b1 b2 b3) (hc : Chg (fun k => k = h) w w') (hs : Cel w' h 9 1 (fun _ => .string s')) : TgSt w0 w' h g1 g2 s' t vP a c m b0 b1 b2 b3 :=
  ⟨k.low.trans (hc.below (Nat.le_of_lt k.cs.blk) (fun i hi e => by omega)), k.lt1, k.lt2, hs, k.cc.chg hc (by have := k.lt1; omega), k.co.chg hc (by have := k.lt1; have := k.lt2; omega)⟩
theorem TgSt.below {w0 w w' : World} {h g1 g2 : Nat} {s t : ByteArray} {vP : Int} {a c m : ByteArray} {b0 b1 b2 b3 : Bool} (k : TgSt w0 w h g1 g2 s t vP a c m b0 b1 b2 b3) (hb : Below w.heap.size w w') : TgSt w0 w' h g1 g2 s t vP a c m b0 b1 b2 b3 :=
  ⟨k.low.trans (hb.mono (Nat.le_of_lt k.cs.blk)), k.lt1, k.lt2, k.cs.below hb k.cs.blk, k.cc.below hb k.cc.blk, k.co.below hb k.co.blk⟩
theorem TgSt.chgHi {w0 w w' : World} {h g1 g2 : Nat} {s t : ByteArray} {vP : Int} {a c m : ByteArray} {b0 b1 b2 b3 : Bool} (k : TgSt w0 w h g1 g2 s t vP a c m b0 b1 b2 b3) (hc : Chg (fun k => g2 + 1 ≤ k) w w') : TgSt w0 w' h g1 g2 s t vP a c m b0 b1 b2 b3 := by
  have h1 := k.lt1
  have h2 := k.lt2
  exact ⟨k.low.trans (hc.below (Nat.le_of_lt k.cs.blk) (fun i hi e => by omega)), k.lt1, k.lt2, k.cs.chg hc (by omega), k.cc.chg hc (by omega), k.co.chg hc (by omega)⟩
theorem TgSt.set {w0 w : World} {h g1 g2 : Nat} {s t : ByteArray} {vP : Int} {a c m : ByteArray} {b0 b1 b2 b3 : Bool} (k : TgSt w0 w h g1 g2 s t vP a c m b0 b1 b2 b3) {i : Nat} {v : Value} {t' : ByteArray} {vP' : Int} {a' c' m' : ByteArray}
    (hf : ∀ j, j < 5 → (if j = i then v else tgF t vP a c m j) = tgF t' vP' a' c' m' j) : TgSt w0 (w.setCell ⟨g1, i, none⟩ v) h g1 g2 s t' vP' a' c' m' b0 b1 b2 b3 :=
  ⟨k.low.setCell (p := ⟨g1, i, none⟩) (Nat.le_of_lt k.lt1) v, k.lt1, k.lt2, k.cs.setFar (Nat.ne_of_lt k.lt1) v, (k.cc.set i v).congr hf, k.co.setFar (Nat.ne_of_gt k.lt2) v⟩
theorem TgSt.setOk {w0 w : World} {h g1 g2 : Nat} {s t : ByteArray} {vP : Int} {a c m : ByteArray} {b0 b1 b2 b3 : Bool} (k : TgSt w0 w h g1 g2 s t vP a c m b0 b1 b2 b3) {i : Nat} {b : Bool} {d0 d1 d2 d3 : Bool}
    (hf : ∀ j, j < 4 → (if j = i then .bool b else okF4 b0 b1 b2 b3 j) = okF4 d0 d1 d2 d3 j) : TgSt w0 (w.setCell ⟨g2, i, none⟩ (.bool b)) h g1 g2 s t vP a c m d0 d1 d2 d3 :=
  ⟨k.low.setCell (p := ⟨g2, i, none⟩) (by have := k.lt1; have := k.lt2; show h ≤ g2; omega) _, k.lt1, k.lt2, k.cs.setFar (by have := k.lt1; have := k.lt2; show h ≠ g2; omega) _, k.cc.setFar (Nat.ne_of_lt k.lt2) _, (k.co.set i _).congr hf⟩
theorem TgSt.new (w : World) (s : ByteArray) : TgSt w (((w.alloc (.cells #[.string s] 9)).alloc (.cells #[.string ⟨#[]⟩, .int .i64 0, .string ⟨#[]⟩, .string ⟨#[]⟩, .string ⟨#[]⟩] 91)).alloc (.cells #[.bool false, .bool false, .bool false, .bool false] 118)) w.heap.size (w.heap.size + 1) (w.heap.size + 1 + 1) s ⟨#[]⟩ 0 ⟨#[]⟩ ⟨#[]⟩ ⟨#[]⟩ false false false false := by
  refine ⟨(((Below.refl _ _).alloc (Nat.le_refl _) _).alloc (by simp) _).alloc (by simp; omega) _, by omega, by omega, ?_, ?_, ?_⟩
  · refine ((Cel.new w 9 #[.string s] (fun _ => .string s) (fun i hi => ?_)).alloc _).alloc _
    have : i < 1 := hi
    obtain rfl : i = 0 := by omega
    rfl
  · have h := (Cel.new (w.alloc (.cells #[.string s] 9)) 91 #[.string ⟨#[]⟩, .int .i64 0, .string ⟨#[]⟩, .string ⟨#[]⟩, .string ⟨#[]⟩] (tgF ⟨#[]⟩ 0 ⟨#[]⟩ ⟨#[]⟩ ⟨#[]⟩) (fun i hi => by
      have : i < 5 := hi
      rcases i with _ | _ | _ | _ | _ | i <;> first | rfl | omega)).alloc (.cells #[.bool false, .bool false, .bool false, .bool false] 118)
    simpa using h
  · have h := Cel.new ((w.alloc (.cells #[.string s] 9)).alloc (.cells #[.string ⟨#[]⟩, .int .i64 0, .string ⟨#[]⟩, .string ⟨#[]⟩, .string ⟨#[]⟩] 91)) 118 #[.bool false, .bool false, .bool false, .bool false] (okF4 false false false false) (fun i hi => by
      have : i < 4 := hi
      rcases i with _ | _ | _ | _ | i <;> first | rfl | omega)
    simpa using h
theorem eq4 (b0 b1 b2 b3 : Bool) (w : World) : (Op.equalIn 10000 118 (.agg #[.bool b0, .bool b1, .bool b2, .bool b3]) (.agg #[.bool true, .bool true, .bool true, .bool true])).run Tryz.prog w = .ok (b0 && (b1 && (b2 && b3))) w := by
  cases b0 <;> cases b1 <;> cases b2 <;> cases b3 <;> kernel_rfl
theorem tagF_bad {s x0 s1 xk s2 x2 s3 x3 s4 : ByteArray} {b0 bt b2 b3 : Bool} (h0 : FieldR objectN s x0 b0 s1) (hk : FieldR typeN s1 xk bt s2) (h2 : FieldR tagN s2 x2 b2 s3) (h3 : FieldR taggerN s3 x3 b3 s4)
    (hb : (b0 && (bt && (decide (0 < kindN xk) && (b2 && b3)))) = false) : tagF s.data.toList = none := by
  unfold tagF
  cases b0
  · rw [h0.no]
  · rw [h0.yes]
    show (if hashU x0.data.toList = false then none else _) = none
    split
    · rfl
    · cases bt
      · simp only [hk.no]
      · simp only [hk.yes]
        split
        · rfl
        · next hkn =>
          rw [bk_of] at hkn
          cases b2
          · simp only [h2.no]
          · simp only [h2.yes]
            split
            · rfl
            · cases b3
              · simp only [h3.no]
              · exfalso
                have : decide (0 < kindN xk) = true := decide_eq_true (by omega)
                rw [this] at hb
                exact absurd hb (by decide)
theorem tagF_all {s x0 s1 xk s2 x2 s3 x3 s4 : ByteArray} (h0 : FieldR objectN s x0 true s1) (hk : FieldR typeN s1 xk true s2) (h2 : FieldR tagN s2 x2 true s3) (h3 : FieldR taggerN s3 x3 true s4) (hkn : 0 < kindN xk) :
    tagF s.data.toList = if hashB (bytesOf x0) = false ∨ labelB x2 = false ∨ persB x3 = false then none else (msgF s4.data.toList).map fun m => ⟨x0.data.toList, kindN xk, x2.data.toList, x3.data.toList, m⟩ := by
  unfold tagF
  rw [h0.yes]
  show (if hashU x0.data.toList = false then none else _) = _
  unfold hashU
  rw [bk_of]
  by_cases e0 : hashB (bytesOf x0) = false
  · rw [if_pos e0, if_pos (.inl e0)]
  · rw [if_neg e0]
    simp only [hk.yes]
    rw [bk_of, if_neg (by omega)]
    simp only [h2.yes]
    rw [bk_of]
    by_cases e1 : labelB x2 = false
    · rw [if_pos e1, if_pos (.inr (.inl e1))]
    · rw [if_neg e1]
      simp only [h3.yes]
      rw [bk_of]
      by_cases e2 : persB x3 = false
      · rw [if_pos e2, if_pos (.inr (.inr e2))]
      · rw [if_neg e2, if_neg (by rintro (h | h | h); exact e0 h; exact e1 h; exact e2 h)]
        cases msgF s4.data.toList <;> rfl
/-- What reading a tag answers. -/
def TagPost (s : ByteArray) (w : World) (e : Ending) (w' : World) : Prop :=
  Below w.heap.size w w' ∧ ((tagF s.data.toList = none ∧ e = .returned (.tuple #[.nilIface, .bool false])) ∨
    ∃ r, tagF s.data.toList = some r ∧ e = .returned (.tuple #[.iface 91 (.agg #[.string (bk r.o), .int .i64 (r.k : Int), .string (bk r.n), .string (bk r.g), .string (bk r.m)]), .bool true]))
set_option maxRecDepth 100000 in
set_option maxHeartbeats 4000000 in
theorem tag_any (s : ByteArray) (w : World) (hE : EnvO w) (hs : s.size ≤ 8796093022000) : Calls Tryz.prog 35 #[.string s] w (TagPost s w) := by
  have HE := Lib.hid hE
  have HS := Lib.hid hs
  have hst := TgSt.new w s
  clear hE hs
  go_enter Tryz.func35, Tryz.ntmps35
  go_upto_region 3 with (fail)
  generalize ((w.alloc (.cells #[.string s] 9)).alloc (.cells #[.string ⟨#[]⟩, .int .i64 0, .string ⟨#[]⟩, .string ⟨#[]⟩, .string ⟨#[]⟩] 91)).alloc (.cells #[.bool false, .bool false, .bool false, .bool false] 118) = w3 at *
  generalize hg2 : w.heap.size + 1 + 1 = g2 at *
  generalize hg1 : w.heap.size + 1 = g1 at *
  generalize hh : w.heap.size = h at *
  have HH := Lib.hid hh
  have HST3 := Lib.hid hst
  have hne : g1 ≠ g2 := Nat.ne_of_lt hst.lt2
  have hne' : g2 ≠ g1 := Ne.symm hne
  clear hh hg1 hg2 hst
  go_wp2_with fail
  refine (field_any' h s objectN w3 (Nat.le_trans HS.out (by decide)) (by decide) HST3.out.cs).mono ?_
  rintro e w4 ⟨x0, b0, s1, rfl, hc, hs', hf⟩
  have HF0 := Lib.hid hf
  have HST4 := Lib.hid (HST3.out.chg hc hs')
  have HZ1 : Hid (s1.size ≤ s.size) := Lib.hid hf.size
  have k0 : w4.cell? ⟨g1, 0, none⟩ = some (.string ⟨#[]⟩) := HST4.out.cc.cell 0 (by decide)
  have f0 : w4.frozen? ⟨g1, 0, none⟩ = false := HST4.out.cc.frozen 0
  have k1 : w4.cell? ⟨g2, 0, none⟩ = some (.bool false) := HST4.out.co.cell 0 (by decide)
  have f1 : w4.frozen? ⟨g2, 0, none⟩ = false := HST4.out.co.frozen 0
  clear hc hs' hf HST3
  go_upto_region 4 with (fail)
  have HST5 := Lib.hid ((HST4.out.set (i := 0) (v := .string x0) (t' := x0) (vP' := 0) (a' := ⟨#[]⟩) (c' := ⟨#[]⟩) (m' := ⟨#[]⟩) (fun j hj => by rcases j with _ | _ | _ | _ | _ | j <;> first | rfl | omega)).setOk (i := 0) (b := b0) (d0 := b0) (d1 := false) (d2 := false) (d3 := false) (fun j hj => by rcases j with _ | _ | _ | _ | j <;> first | rfl | omega))
  clear k0 f0 k1 f1 HST4
  generalize (w4.setCell ⟨g1, 0, none⟩ (.string x0)).setCell ⟨g2, 0, none⟩ (.bool b0) = w5 at *
  go_wp2_with fail
  refine (field_any' h s1 typeN w5 (by have := HZ1.out; have := HS.out; omega) (by decide) HST5.out.cs).mono ?_
  rintro e w6 ⟨xk, bt, s2, rfl, hc, hs', hf⟩
  have HFK := Lib.hid hf
  have HST6 := Lib.hid (HST5.out.chg hc hs')
  have HZ2 : Hid (s2.size ≤ s.size) := Lib.hid (Nat.le_trans hf.size HZ1.out)
  clear hc hs' hf HST5
  have HKD := Lib.hid (kind_any xk w6)
  unfold KindPost at HKD
  go_wp2_with fail
  refine HKD.out.mono ?_
  rintro e w7 ⟨rfl, hb7⟩
  have HST7 := Lib.hid (HST6.out.below hb7)
  have k0 : w7.cell? ⟨g1, 1, none⟩ = some (.int .i64 0) := HST7.out.cc.cell 1 (by decide)
  have f0 : w7.frozen? ⟨g1, 1, none⟩ = false := HST7.out.cc.frozen 1
  have k1 : w7.cell? ⟨g2, 1, none⟩ = some (.bool false) := HST7.out.co.cell 1 (by decide)
  have f1 : w7.frozen? ⟨g2, 1, none⟩ = false := HST7.out.co.frozen 1
  clear hb7 HST6 HKD
  generalize hkk : decide (0 < kindN xk) = kk at *
  have HKK := Lib.hid hkk
  generalize hkn : ((kindN xk : Nat) : Int) = kn at *
  have HKN := Lib.hid hkn
  clear hkk hkn
  go_upto_region 6 with (fail)
  have HST8 := Lib.hid ((HST7.out.set (i := 1) (v := .int .i64 kn) (t' := x0) (vP' := kn) (a' := ⟨#[]⟩) (c' := ⟨#[]⟩) (m' := ⟨#[]⟩) (fun j hj => by rcases j with _ | _ | _ | _ | _ | j <;> first | rfl | omega)).setOk (i := 1) (b := kk) (d0 := b0) (d1 := kk) (d2 := false) (d3 := false) (fun j hj => by rcases j with _ | _ | _ | _ | j <;> first | rfl | omega))
  clear k0 f0 k1 f1 HST7
  generalize (w7.setCell ⟨g1, 1, none⟩ (.int .i64 kn)).setCell ⟨g2, 1, none⟩ (.bool kk) = w8 at *
  go_wp2_with fail
  refine (field_any' h s2 tagN w8 (by have := HZ2.out; have := HS.out; omega) (by decide) HST8.out.cs).mono ?_
  rintro e w9 ⟨x2, b2, s3, rfl, hc, hs', hf⟩
  have HF2 := Lib.hid hf
  have HST9 := Lib.hid (HST8.out.chg hc hs')
  have HZ3 : Hid (s3.size ≤ s.size) := Lib.hid (Nat.le_trans hf.size HZ2.out)
  have k0 : w9.cell? ⟨g1, 2, none⟩ = some (.string ⟨#[]⟩) := HST9.out.cc.cell 2 (by decide)
  have f0 : w9.frozen? ⟨g1, 2, none⟩ = false := HST9.out.cc.frozen 2
  have k1 : w9.cell? ⟨g2, 2, none⟩ = some (.bool false) := HST9.out.co.cell 2 (by decide)
  have f1 : w9.frozen? ⟨g2, 2, none⟩ = false := HST9.out.co.frozen 2
  clear hc hs' hf HST8
  go_upto_region 7 with (fail)
  have HST10 := Lib.hid ((HST9.out.set (i := 2) (v := .string x2) (t' := x0) (vP' := kn) (a' := x2) (c' := ⟨#[]⟩) (m' := ⟨#[]⟩) (fun j hj => by rcases j with _ | _ | _ | _ | _ | j <;> first | rfl | omega)).setOk (i := 2) (b := b2) (d0 := b0) (d1 := kk) (d2 := b2) (d3 := false) (fun j hj => by rcases j with _ | _ | _ | _ | j <;> first | rfl | omega))
  clear k0 f0 k1 f1 HST9
  generalize (w9.setCell ⟨g1, 2, none⟩ (.string x2)).setCell ⟨g2, 2, none⟩ (.bool b2) = w10 at *
  go_wp2_with fail
  refine (field_any' h s3 taggerN w10 (by have := HZ3.out; have := HS.out; omega) (by decide) HST10.out.cs).mono ?_
  rintro e w11 ⟨x3, b3, s4, rfl, hc, hs', hf⟩
  have HF3 := Lib.hid hf
  have HST11 := Lib.hid (HST10.out.chg hc hs')
  have HZ4 : Hid (s4.size ≤ s.size) := Lib.hid (Nat.le_trans hf.size HZ3.out)
  have k0 : w11.cell? ⟨g1, 3, none⟩ = some (.string ⟨#[]⟩) := HST11.out.cc.cell 3 (by decide)
  have f0 : w11.frozen? ⟨g1, 3, none⟩ = false := HST11.out.cc.frozen 3
  have k1 : w11.cell? ⟨g2, 3, none⟩ = some (.bool false) := HST11.out.co.cell 3 (by decide)
  have f1 : w11.frozen? ⟨g2, 3, none⟩ = false := HST11.out.co.frozen 3
  clear hc hs' hf HST10
  go_upto_region 8 with (fail)
  have HST12 := Lib.hid ((HST11.out.set (i := 3) (v := .string x3) (t' := x0) (vP' := kn) (a' := x2) (c' := x3) (m' := ⟨#[]⟩) (fun j hj => by rcases j with _ | _ | _ | _ | _ | j <;> first | rfl | omega)).setOk (i := 3) (b := b3) (d0 := b0) (d1 := kk) (d2 := b2) (d3 := b3) (fun j hj => by rcases j with _ | _ | _ | _ | j <;> first | rfl | omega))
  clear k0 f0 k1 f1 HST11
  generalize (w11.setCell ⟨g1, 3, none⟩ (.string x3)).setCell ⟨g2, 3, none⟩ (.bool b3) = w12 at *
  have k0 : w12.cell? ⟨h, 0, none⟩ = some (.string s4) := HST12.out.cs.cell 0 (by decide)
  have HCP := Lib.hid (Tryz.strings_CutPrefix s4 ⟨#[10]⟩ w12)
  change Hid (Calls Tryz.prog 63 #[.string s4, .string ⟨#[10]⟩] w12 fun e w' => e = .returned (.tuple #[.string (bk (Lib.trimPrefix s4.data.toList [10])), .bool (Lib.hasPrefix s4.data.toList [10])]) ∧ w' = w12) at HCP
  go_wp2_with fail
  refine HCP.out.mono ?_
  rintro e w13 ⟨rfl, rfl⟩
  have q0 : w13.cell? ⟨g2, 0, none⟩ = some (.bool b0) := HST12.out.co.cell 0 (by decide)
  have q1 : w13.cell? ⟨g2, 1, none⟩ = some (.bool kk) := HST12.out.co.cell 1 (by decide)
  have q2 : w13.cell? ⟨g2, 2, none⟩ = some (.bool b2) := HST12.out.co.cell 2 (by decide)
  have q3 : w13.cell? ⟨g2, 3, none⟩ = some (.bool b3) := HST12.out.co.cell 3 (by decide)
  have hq4 := eq4
  have hgt := Tryz.eqGuardType118
  have HLW : Hid (Below w.heap.size w w13) := Lib.hid (by rw [HH.out]; exact HST12.out.low)
  clear HCP k0
  by_cases hall : (b0 && (bt && (kk && (b2 && b3)))) = false
  · have HNO : Hid (tagF s.data.toList = none) := Lib.hid (tagF_bad HF0.out HFK.out HF2.out HF3.out (by rw [HKK.out]; exact hall))
    generalize Lib.hasPrefix s4.data.toList [10] = hp at *
    cases b0 <;> cases kk <;> cases b2 <;> cases b3 <;> first | (clear hall; go_wp2; go_ret2; exact ⟨HLW.out, .inl ⟨HNO.out, rfl⟩⟩) | (cases bt <;> first | exact absurd hall (by decide) | (clear hall; go_wp2; go_ret2; exact ⟨HLW.out, .inl ⟨HNO.out, rfl⟩⟩))
  · obtain ⟨rfl, rfl, rfl, rfl, rfl⟩ : b0 = true ∧ bt = true ∧ kk = true ∧ b2 = true ∧ b3 = true := by revert hall; cases b0 <;> cases bt <;> cases kk <;> cases b2 <;> cases b3 <;> simp
    have HALL := Lib.hid (tagF_all HF0.out HFK.out HF2.out HF3.out (of_decide_eq_true HKK.out))
    clear hall
    have HE11 : Hid (EnvO w13) := Lib.hid (HE.out.below HLW.out)
    have HZX : Hid (x0.size ≤ s.size ∧ x2.size ≤ s.size ∧ x3.size ≤ s.size) := Lib.hid ⟨HF0.out.xsize.1, by have := HF2.out.xsize; have := HZ2.out; omega, by have := HF3.out.xsize; have := HZ3.out; omega⟩
    have k0 : w13.cell? ⟨g1, 0, none⟩ = some (.string x0) := HST12.out.cc.cell 0 (by decide)
    cases hhp : Lib.hasPrefix s4.data.toList [10]
    · have HNO : Hid (tagF s.data.toList = none) := Lib.hid (by rw [HALL.out, msgF_no hhp]; split <;> rfl)
      clear hhp
      go_wp2
      go_ret2
      exact ⟨HLW.out, .inl ⟨HNO.out, rfl⟩⟩
    · have HMS := Lib.hid (msgF_yes hhp)
      have HML : Hid ((Lib.trimPrefix s4.data.toList [10]).length ≤ s.size) := Lib.hid (by have := trimPrefix_len s4.data.toList [10]; have := HZ4.out; rw [Lib.size_eq s4] at this; omega)
      generalize Lib.trimPrefix s4.data.toList [10] = M at *
      have HH0 := Lib.hid (hash_any x0 w13 (by have := HZX.out; have := HS.out; omega))
      clear hhp
      cases hx0 : hashB (bytesOf x0)
      · have HNO : Hid (tagF s.data.toList = none) := Lib.hid (by rw [HALL.out, if_pos (.inl hx0)])
        rw [hx0] at HH0
        clear hx0
        go_wp2_with (go_at_call 61; refine HH0.out.mono ?_; rintro e w14 ⟨rfl, hb14⟩; have HB14 := Lib.hid hb14; clear hb14)
        go_ret2
        exact ⟨HLW.out.trans (HB14.out.mono HLW.out.size), .inl ⟨HNO.out, rfl⟩⟩
      · rw [hx0] at HH0
        have HX0 := Lib.hid hx0
        clear hx0
        go_wp2_with fail
        refine HH0.out.mono ?_
        rintro e w14 ⟨rfl, hb14⟩
        have HST14 := Lib.hid (HST12.out.below hb14)
        have HE14 := Lib.hid (HE11.out.below hb14)
        have HLW14 := Lib.hid (HLW.out.trans (hb14.mono HLW.out.size))
        have k2 : w14.cell? ⟨g1, 2, none⟩ = some (.string x2) := HST14.out.cc.cell 2 (by decide)
        have HP1 := Lib.hid (label_any x2 w14 HE14.out (by have := HZX.out; have := HS.out; omega))
        clear hb14 k0 q0 q1 q2 q3 HST12 HE11 HLW HH0
        cases hx1 : labelB x2
        · have HNO : Hid (tagF s.data.toList = none) := Lib.hid (by rw [HALL.out, if_pos (.inr (.inl hx1))])
          rw [hx1] at HP1
          clear hx1
          go_wp2_with (go_at_call 65; refine HP1.out.mono ?_; rintro e w15 ⟨rfl, hb15⟩; have HB15 := Lib.hid hb15; clear hb15)
          go_ret2
          exact ⟨HLW14.out.trans (HB15.out.mono HLW14.out.size), .inl ⟨HNO.out, rfl⟩⟩
        · rw [hx1] at HP1
          have HX1 := Lib.hid hx1
          clear hx1
          go_wp2_with fail
          refine HP1.out.mono ?_
          rintro e w15 ⟨rfl, hb15⟩
          have HST15 := Lib.hid (HST14.out.below hb15)
          have HE15 := Lib.hid (HE14.out.below hb15)
          have HLW15 := Lib.hid (HLW14.out.trans (hb15.mono HLW14.out.size))
          have k3 : w15.cell? ⟨g1, 3, none⟩ = some (.string x3) := HST15.out.cc.cell 3 (by decide)
          have HP2 := Lib.hid (person_any x3 w15 HE15.out (by have := HZX.out; have := HS.out; omega))
          unfold PersPost at HP2
          clear hb15 k2 HST14 HE14 HLW14 HP1
          cases hx2 : persB x3
          · have HNO : Hid (tagF s.data.toList = none) := Lib.hid (by rw [HALL.out, if_pos (.inr (.inr hx2))])
            rw [hx2] at HP2
            clear hx2
            go_wp2_with (go_at_call 18; refine HP2.out.mono ?_; rintro e w16 ⟨rfl, hb16⟩; have HB16 := Lib.hid hb16; clear hb16)
            go_ret2
            exact ⟨HLW15.out.trans (HB16.out.mono HLW15.out.size), .inl ⟨HNO.out, rfl⟩⟩
          · rw [hx2] at HP2
            have HX2 := Lib.hid hx2
            clear hx2
            go_wp2_with fail
            refine HP2.out.mono ?_
            rintro e w16 ⟨rfl, hb16⟩
            have HST16 := Lib.hid (HST15.out.below hb16)
            have HE16 := Lib.hid (HE15.out.below hb16)
            have HLW16 := Lib.hid (HLW15.out.trans (hb16.mono HLW15.out.size))
            have HTX := Lib.hid (textZ_any (bk M) w16 HE16.out (by rw [bk_size]; have := HML.out; have := HS.out; omega))
            rw [bk_list] at HTX
            clear hb16 k3 HST15 HE15 HLW15 HP2
            cases hm : withoutB M [0]
            · have HNO : Hid (tagF s.data.toList = none) := Lib.hid (by rw [HALL.out, HMS.out, hm]; split <;> rfl)
              rw [hm] at HTX
              clear hm
              go_wp2_with (go_at_call 44; refine HTX.out.mono ?_; rintro e w17 ⟨rfl, hb17⟩; have HB17 := Lib.hid hb17; clear hb17)
              go_ret2
              exact ⟨HLW16.out.trans (HB17.out.mono HLW16.out.size), .inl ⟨HNO.out, rfl⟩⟩
            · have HYES : Hid (tagF s.data.toList = some ⟨x0.data.toList, kindN xk, x2.data.toList, x3.data.toList, M⟩) := Lib.hid (by
                rw [HALL.out, HMS.out, hm, if_neg (by rintro (h | h | h); exact absurd (HX0.out.symm.trans h) (by decide); exact absurd (HX1.out.symm.trans h) (by decide); exact absurd (HX2.out.symm.trans h) (by decide))]; rfl)
              rw [hm] at HTX
              clear hm
              go_wp2_with fail
              refine HTX.out.mono ?_
              rintro e w17 ⟨rfl, hb17⟩
              have HST17 := Lib.hid (HST16.out.below hb17)
              have HLW17 := Lib.hid (HLW16.out.trans (hb17.mono HLW16.out.size))
              have k0 : w17.cell? ⟨g1, 0, none⟩ = some (.string x0) := HST17.out.cc.cell 0 (by decide)
              have k1 : w17.cell? ⟨g1, 1, none⟩ = some (.int .i64 kn) := HST17.out.cc.cell 1 (by decide)
              have k2 : w17.cell? ⟨g1, 2, none⟩ = some (.string x2) := HST17.out.cc.cell 2 (by decide)
              have k3 : w17.cell? ⟨g1, 3, none⟩ = some (.string x3) := HST17.out.cc.cell 3 (by decide)
              have k4 : w17.cell? ⟨g1, 4, none⟩ = some (.string ⟨#[]⟩) := HST17.out.cc.cell 4 (by decide)
              have f4 : w17.frozen? ⟨g1, 4, none⟩ = false := HST17.out.cc.frozen 4
              clear hb17 HST16 HE16 HLW16 HTX hne hne' hq4 hgt
              go_wp2
              have hlt1 : w.heap.size ≤ g1 := by rw [HH.out]; exact Nat.le_of_lt HST17.out.lt1
              go_ret2
              exact ⟨HLW17.out.setCell (p := ⟨g1, 4, none⟩) hlt1 _, .inr ⟨_, HYES.out, by simp only [bk_of, HKN.out]; rfl⟩⟩
end Go.Proofs.YtdlabapfcghfmaaGreatDoor
namespace Go.Proofs.YtdlabapfcghfmaaGreatDoor
open Go.RowKit
set_option linter.unusedVariables false
set_option linter.unusedSimpArgs false

theorem libBytes (s : ByteArray) : Lib.bytesOf (bytesOf s) = s.data.toList := by
  unfold Lib.bytesOf bytesOf
  rw [List.map_map]
  refine (List.map_congr_left (g := id) fun x hx => ?_).trans (List.map_id _)
  simp
set_option maxRecDepth 100000 in
theorem ibyte_any (A : Option Addr) (n c : Nat) (l : List UInt8) (cv : UInt8) (w : World) (h : Ints .u8 w A (bytesOf (bk l))) (hn : l.length = n) (h0 : 0 < n) :
    Calls Tryz.prog 56 #[.slice A n c, .int .u8 (cv.toNat : Int)] w fun e w' => e = .returned (.int .i64 (Lib.indexByte l cv)) ∧ w' = w := by
  have hl : (bytesOf (bk l)).length = n := by rw [bytesOf_len, bk_size]; exact hn
  obtain ⟨b, o, rfl, _, hc⟩ := h (by omega)
  have hr := Lib.run_indexByteSlice (P := Tryz.prog) w b o n c (bytesOf (bk l)) hl (fun i hi => hc i (by omega)) (cv.toNat : Int)
  rw [libBytes, bk_list, show (((cv.toNat : Nat) : Int)).toNat.toUInt8 = cv by simp] at hr
  go_enter Tryz.func56, Tryz.ntmps56
  go_wp2
  rw [run_callFunc_extern Tryz.func97 (by kernel_rfl) (by kernel_rfl) (by kernel_rfl) (e := Extern.BytealgIndexByte.indexByte) (by kernel_rfl), hr]
  simp only [Result.andThen]
  rw [Oper.upon_value]
  go_wp2
  go_ret
  exact ⟨rfl, rfl⟩
theorem dropW_all (l : List UInt8) (c : UInt8) : l.dropWhile (· == c) = [] ↔ ∀ x ∈ l, x = c := by
  induction l with
  | nil => simp
  | cons a l ih =>
    by_cases h : a = c
    · subst h; simp [List.dropWhile_cons, ih]
    · have : (a == c) = false := by simpa using h
      simp [List.dropWhile_cons, this, h]
theorem trimB_nil (l : List UInt8) (c : UInt8) : Lib.trimB l c = [] ↔ ∀ x ∈ l, x = c := by
  unfold Lib.trimB Lib.trimLeftB Lib.trimRightB
  rw [dropW_all]
  constructor
  · intro h
    have h2 : ∀ x ∈ l.reverse.dropWhile (· == c), x = c := fun x hx => h x (by simpa using hx)
    have h3 : l.reverse.dropWhile (· == c) = [] := by
      cases hd : l.reverse.dropWhile (· == c) with
      | nil => rfl
      | cons a r =>
        exfalso
        rw [hd] at h2
        have ha := h2 a (List.mem_cons_self ..)
        have hn := List.head_dropWhile_not (p := (· == c)) (l := l.reverse) (by rw [hd]; simp)
        simp only [hd, List.head_cons] at hn
        rw [ha] at hn
        simp at hn
    rw [dropW_all] at h3
    exact fun x hx => h3 x (by simpa using hx)
  · intro h x hx
    have h1 : x ∈ l.reverse.dropWhile (· == c) := by simpa using hx
    exact h x (by simpa using (List.dropWhile_sublist _).subset h1)
def zeroB (s : ByteArray) : Bool := s.data.toList.all (· == 48)
set_option maxRecDepth 100000 in
theorem zero_any (s : ByteArray) (w : World) (hs : s.size ≤ 140737488351300) : Calls Tryz.prog 58 #[.string s] w fun e w' => e = .returned (.bool (zeroB s)) ∧ Below w.heap.size w w' := by
  have HT := Lib.hid (Tryz.strings_Trim_one s 48 (by decide) w (by omega))
  change Hid (Calls Tryz.prog 45 #[.string s, .string ⟨#[48]⟩] w fun e w' => e = .returned (.string (bk (Lib.trimB s.data.toList 48))) ∧ (w' = w ∨ w' = w.drew)) at HT
  have hq : ((bk (Lib.trimB s.data.toList 48)).toList == []) = zeroB s := by
    rw [Lib.toList_data, bk_list, Bool.eq_iff_iff, beq_iff_eq, trimB_nil]
    unfold zeroB
    rw [List.all_eq_true]
    exact ⟨fun h x hx => by rw [h x hx]; rfl, fun h x hx => by have := h x hx; simpa using this⟩
  generalize zeroB s = z at *
  generalize bk (Lib.trimB s.data.toList 48) = T at *
  go_enter Tryz.func58, Tryz.ntmps58
  go_wp2_with fail
  refine HT.out.mono ?_
  rintro e w1 ⟨rfl, hw⟩
  have HB : Hid (Below w.heap.size w w1) := Lib.hid (by rcases hw with rfl | rfl; exact Below.refl _ _; exact (Below.refl _ _).drew)
  clear hw HT
  go_wp2
  go_ret
  first | exact ⟨rfl, HB.out⟩ | exact ⟨by rw [← hq]; rfl, HB.out⟩ | trace_state
/-- May an entry have the name? -/
def slashQ (n : Nat) : Bool := n == 47 || n == 0
theorem slashQ_high (n : Nat) (h : 128 ≤ n) : slashQ n = false := by unfold slashQ; simp; omega
def lowU (b : UInt8) : UInt8 := if 65 ≤ b.toNat ∧ b.toNat ≤ 90 then b + 32 else b
def partU (l : List UInt8) : Bool := !(l.any fun b => slashQ b.toNat) && (Lib.validD l && (!(l == []) && (!(l == [46]) && (!(l == [46, 46]) && !(l.map lowU == [46, 103, 105, 116])))))
theorem OwnS.setAt {w : World} {g off cap base n j : Nat} {e : TypeId} {size : Nat} {xs : List Value} (h : OwnS w base e size (.slice (some ⟨g, off, none⟩) n cap) n xs) (hj : j < xs.length) (u : Value) :
    OwnS (w.setCell ⟨g, off + j, none⟩ u) base e size (.slice (some ⟨g, off, none⟩) n cap) n (xs.set j u) := by
  refine ⟨by rw [List.length_set]; exact h.1, ?_⟩
  rcases h.2 with ⟨hv, _⟩ | ⟨g', off', cap', cur, hv, hb, ⟨fr, hg, hf⟩, hn, hm, hs, ht⟩
  · cases hv
  · injection hv with hA _ hc
    injection hA with hA
    injection hA with h1 h2
    subst h1; subst h2; subst hc
    have hl := h.1
    have hmul : n * size ≤ cap * size := Nat.mul_le_mul_right _ hn
    refine .inr ⟨g, off, cap, cur.setIfInBounds (off + j) u, rfl, hb, ⟨fr, ?_, by rw [Array.size_setIfInBounds]; exact hf⟩, hn, hm, by rw [Array.size_setIfInBounds]; exact hs, ?_⟩
    · simp [World.setCell, Array.getElem?_modify, hg]
    · rw [Array.toList_setIfInBounds, ← ht]
      apply List.ext_getElem?
      intro i
      rw [List.getElem?_set, List.length_take, List.length_drop, Array.length_toList, List.getElem?_take, List.getElem?_take, List.getElem?_drop, List.getElem?_drop, List.getElem?_set, Array.length_toList]
      by_cases hij : j = i
      · subst hij
        rw [if_pos rfl, if_pos rfl, if_pos (by omega), if_pos (by omega), if_pos (by omega)]
      · rw [if_neg (show ¬ off + j = off + i by omega), if_neg hij]
theorem OwnS.free {w : World} {b g off n c sz j : Nat} {e : TypeId} {xs : List Value} (h : OwnS w b e sz (.slice (some ⟨g, off, none⟩) n c) n xs) (hj : j < xs.length) : w.frozen? ⟨g, off + j, none⟩ = false ∧ ∃ v, w.cell? ⟨g, off + j, none⟩ = some v := by
  refine ⟨?_, ?_⟩
  · rcases h.2 with ⟨hv, _⟩ | ⟨g', off', cap', cur, hv, _, ⟨⟨lo, hi⟩, hg, hf⟩, hn, hm, hs, ht⟩
    · cases hv
    · injection hv with hA _ hc
      injection hA with hA
      injection hA with h1 h2
      subst h1; subst h2; subst hc
      have hl := h.1
      have hmul : n * sz ≤ c * sz := Nat.mul_le_mul_right _ hn
      simp only at hf
      simp only [World.frozen?, hg, Bool.and_eq_false_iff, decide_eq_false_iff_not]
      omega
  · obtain ⟨g', off', c', hv, _, _, hc⟩ := h.cells (by omega)
    injection hv with hA
    injection hA with hA
    injection hA with h1 h2
    subst h1; subst h2
    exact ⟨_, (hc j hj).trans (List.getElem?_eq_getElem hj)⟩
theorem lowU_val (b : UInt8) : ((lowU b).toNat : Int) = if 65 ≤ b.toNat ∧ b.toNat ≤ 90 then (b.toNat : Int) + 32 else (b.toNat : Int) := by
  unfold lowU
  split
  · next h => rw [UInt8.toNat_add, Nat.mod_eq_of_lt (by show b.toNat + 32 < 256; omega)]; rfl
  · rfl
/-- A text whose first bytes are made small. -/
def lowTo (l : List UInt8) (k : Nat) : List UInt8 := (l.take k).map lowU ++ l.drop k
theorem lowTo_zero (l : List UInt8) : lowTo l 0 = l := by simp [lowTo]
theorem lowTo_all (l : List UInt8) (k : Nat) (h : l.length ≤ k) : lowTo l k = l.map lowU := by
  unfold lowTo
  rw [List.take_of_length_le h, List.drop_eq_nil_of_le h, List.append_nil]
theorem lowTo_len (l : List UInt8) (k : Nat) : (lowTo l k).length = l.length := by
  unfold lowTo
  simp
  omega
theorem lowTo_at {l : List UInt8} {k : Nat} {b : UInt8} (h : l[k]? = some b) : (lowTo l k)[k]? = some b := by
  have hk := (List.getElem?_eq_some_iff.1 h).1
  unfold lowTo
  rw [List.getElem?_append_right (by simp; omega)]
  simp
  rw [Nat.min_eq_left (by omega), Nat.sub_self, Nat.add_zero]
  exact h
theorem lowTo_succ {l : List UInt8} {k : Nat} {b : UInt8} (h : l[k]? = some b) : lowTo l (k + 1) = (lowTo l k).set k (lowU b) := by
  have hk := (List.getElem?_eq_some_iff.1 h).1
  unfold lowTo
  rw [List.take_add_one, h, List.map_append, List.set_append_right _ _ (by simp; omega)]
  simp only [Option.toList_some, List.map_cons, List.map_nil, List.length_map, List.length_take]
  rw [Nat.min_eq_left (by omega), Nat.sub_self, List.append_assoc]
  congr 1
  rw [List.drop_eq_getElem_cons hk]
  rfl
theorem set_self {l : List UInt8} {k : Nat} {b : UInt8} (h : l[k]? = some b) : l.set k b = l := by
  apply List.ext_getElem?
  intro i
  by_cases hi : k = i
  · subst hi
    rw [List.getElem?_set_self (List.getElem?_eq_some_iff.1 h).1, h]
  · rw [List.getElem?_set_ne hi]
theorem bytesBk_set (l : List UInt8) (k : Nat) (b : UInt8) : (bytesOf (bk (l.set k b))).map (Value.int .u8) = ((bytesOf (bk l)).map (Value.int .u8)).set k (.int .u8 (b.toNat : Int)) := by
  unfold bytesOf
  rw [bk_list, bk_list, List.map_set, List.map_set]
theorem bytesBk_at {l : List UInt8} {k : Nat} {b : UInt8} (h : l[k]? = some b) : ((bytesOf (bk l)).map (Value.int .u8))[k]? = some (.int .u8 (b.toNat : Int)) := by
  unfold bytesOf
  rw [bk_list, List.getElem?_map, List.getElem?_map, h]
  rfl
set_option maxRecDepth 100000 in
set_option maxHeartbeats 2000000 in
theorem named_any (s : ByteArray) (w : World) (hE : EnvO w) (hs : s.size ≤ 140737488351300) : Calls Tryz.prog 57 #[.string s] w fun e w' => e = .returned (.bool (partU s.data.toList)) ∧ Below w.heap.size w w' := by
  have HE := Lib.hid hE
  have HS := Lib.hid hs
  have HL : Hid (partU s.data.toList = (!(s.data.toList.any fun b => slashQ b.toNat) && (Lib.validD s.data.toList && (!(s.data.toList == []) && (!(s.data.toList == [46]) && (!(s.data.toList == [46, 46]) && !(s.data.toList.map lowU == [46, 103, 105, 116]))))))) := Lib.hid rfl
  clear hE
  go_enter Tryz.func57, Tryz.ntmps57
  go_wp2
  go_loopw [4] (fun _ w' => ∃ pos : Nat, w' = w.iter s pos ∧ ((s.data.toList.drop pos).any fun b => slashQ b.toNat) = (s.data.toList.any fun b => slashQ b.toNat)) (fun _ w' => s.size - w'.iterPos w.heap.size)
  case atStart => exact ⟨0, rfl, by rw [List.drop_zero]⟩
  case round =>
    obtain ⟨pos, rfl, hv⟩ := hrel
    have HV := Lib.hid hv
    clear hv
    by_cases hp : pos < s.size
    · have hnx : ∀ ty, (Instr.next (.pointer (some ⟨w.heap.size, 0, none⟩)) true ty).run Tryz.prog (w.iter s pos) = _ := fun ty => run_next_any w s pos ty hp
      have hwd := Lib.decode_width_pos s pos hp
      have hst := any_step s slashQ slashQ_high pos hp
      rw [HV.out] at hst
      by_cases h1 : (Utf8.decode s pos).1 = 47
      · have q1 : (((Utf8.decode s pos).1 : Int) == 47) = true := by rw [h1]; rfl
        have HA : Hid (partU s.data.toList = false) := Lib.hid (by rw [HL.out, hst]; simp [slashQ, h1])
        clear hst h1
        go_wp2
        go_ret
        rw [HA.out]
        exact ⟨rfl, (Below.refl _ _).alloc (Nat.le_refl _) _⟩
      · have q1 : (((Utf8.decode s pos).1 : Int) == 47) = false := by rw [beq_eq_false_iff_ne]; omega
        by_cases h2 : (Utf8.decode s pos).1 = 0
        · have q2 : (((Utf8.decode s pos).1 : Int) == 0) = true := by rw [h2]; rfl
          have HA : Hid (partU s.data.toList = false) := Lib.hid (by rw [HL.out, hst]; simp [slashQ, h2])
          clear hst h1 h2
          go_wp2
          go_ret
          rw [HA.out]
          exact ⟨rfl, (Below.refl _ _).alloc (Nat.le_refl _) _⟩
        · have q2 : (((Utf8.decode s pos).1 : Int) == 0) = false := by rw [beq_eq_false_iff_ne]; omega
          have HA : Hid (((s.data.toList.drop (pos + (Utf8.decode s pos).2)).any fun b => slashQ b.toNat) = (s.data.toList.any fun b => slashQ b.toNat)) := Lib.hid (by rw [hst]; simp [slashQ, h1, h2])
          clear hst h1
          go_wp2
          go_roundw
          case rel => exact ⟨pos + (Utf8.decode s pos).2, rfl, HA.out⟩
          case measure => simp; omega
    · have hnx : ∀ ty, (Instr.next (.pointer (some ⟨w.heap.size, 0, none⟩)) true ty).run Tryz.prog (w.iter s pos) = _ := fun ty => run_next_end w s pos ty hp
      have HA : Hid (partU s.data.toList = (Lib.validD s.data.toList && (!(s.data.toList == []) && (!(s.data.toList == [46]) && (!(s.data.toList == [46, 46]) && !(s.data.toList.map lowU == [46, 103, 105, 116])))))) := Lib.hid (by
        rw [HL.out, ← HV.out, List.drop_eq_nil_of_le (by rw [← Lib.size_eq]; omega)]; rfl)
      have hl0 : Below w.heap.size w (w.iter s pos) := (Below.refl _ _).alloc (Nat.le_refl _) _
      have HL0 := Lib.hid hl0
      clear hl0 HV HL
      generalize w.iter s pos = w0 at *
      go_upto_region 7 with (refine wpList_convO rfl (.tmp 19) rfl s s.size (bytesOf s) rfl rfl rfl HS.out ?_; intro A5 c5 w5 ho5 hc5 hm5 hb5)
      have ho5' : OwnS w5 w0.heap.size 5 1 (.slice A5 s.size c5) s.size ((bytesOf (bk (lowTo s.data.toList 0))).map (Value.int .u8)) := by rw [lowTo_zero, bk_of]; exact ho5
      have HO5 := Lib.hid ho5'
      have HB5 := Lib.hid hb5
      clear ho5 ho5' hb5 hc5 hm5
      go_wp2
      go_loopw [23] (fun vi wr => ∃ k : Nat, vi = .int .i64 k ∧ k ≤ s.size ∧ OwnS wr w0.heap.size 5 1 (.slice A5 s.size c5) s.size ((bytesOf (bk (lowTo s.data.toList k))).map (Value.int .u8)) ∧ Below w0.heap.size w0 wr) (fun vi _ => s.size - (intOf vi).toNat)
      case atStart => exact ⟨0, rfl, Nat.zero_le _, HO5.out, HB5.out⟩
      case round =>
        clear HO5 HB5
        obtain ⟨k, rfl, hk, ho, hb⟩ := hrel
        by_cases hlt : k < s.size
        · obtain ⟨b, hbk⟩ : ∃ b, s.data.toList[k]? = some b := ⟨_, List.getElem?_eq_getElem (by rw [← Lib.size_eq]; exact hlt)⟩
          have hlen : ((bytesOf (bk (lowTo s.data.toList k))).map (Value.int .u8)).length = s.size := by rw [List.length_map, bytesOf_len, bk_size, lowTo_len, ← Lib.size_eq]
          obtain ⟨g, off, c', hv, hgb, hg, hcell⟩ := ho.cells (by omega)
          injection hv with hA _ hc'
          subst hA; subst hc'
          have r0 : wr.cell? ⟨g, off + k, none⟩ = some (.int .u8 (b.toNat : Int)) := by rw [hcell k (by omega)]; exact bytesBk_at (lowTo_at hbk)
          have f0 : wr.frozen? ⟨g, off + k, none⟩ = false := (ho.free (j := k) (by omega)).1
          have d2 : decide ((k : Int) < (s.size : Int)) = true := decide_eq_true (by omega)
          have d2' : decide (k < s.size) = true := decide_eq_true hlt
          have HO := Lib.hid ho
          have HB := Lib.hid hb
          have HBK := Lib.hid hbk
          have HLN := Lib.hid hlen
          have hvl := lowU_val b
          clear hcell hg ho hb hbk hlen
          by_cases h1 : 65 ≤ b.toNat
          · have d3 : decide ((b.toNat : Int) ≥ 65) = true := decide_eq_true (by omega)
            have d3' : decide ((65 : Int) ≤ (b.toNat : Int)) = true := decide_eq_true (by omega)
            have d3n : decide (65 ≤ b.toNat) = true := decide_eq_true h1
            by_cases h2 : b.toNat ≤ 90
            · have d4 : decide ((b.toNat : Int) ≤ 90) = true := decide_eq_true (by omega)
              have d4n : decide (b.toNat ≤ 90) = true := decide_eq_true h2
              have e1 : IntKind.u8.wrap ((b.toNat : Int) + 97) = (b.toNat : Int) + 97 := by rw [IntKind.wrap_u8']; omega
              have e2 : IntKind.u8.wrap ((b.toNat : Int) + 97 - 65) = (b.toNat : Int) + 97 - 65 := by rw [IntKind.wrap_u8']; omega
              rw [if_pos ⟨h1, h2⟩] at hvl
              have HNEW : Hid (OwnS (wr.setCell ⟨g, off + k, none⟩ (.int .u8 ((b.toNat : Int) + 97 - 65))) w0.heap.size 5 1 (.slice (some ⟨g, off, none⟩) s.size c5) s.size ((bytesOf (bk (lowTo s.data.toList (k + 1)))).map (Value.int .u8))) := Lib.hid (by
                rw [lowTo_succ HBK.out, bytesBk_set, hvl, show (b.toNat : Int) + 32 = (b.toNat : Int) + 97 - 65 by omega]
                exact HO.out.setAt (by rw [HLN.out]; exact hlt) _)
              have HBN : Hid (Below w0.heap.size w0 (wr.setCell ⟨g, off + k, none⟩ (.int .u8 ((b.toNat : Int) + 97 - 65)))) := Lib.hid (HB.out.setCell (p := ⟨g, off + k, none⟩) hgb _)
              clear h1 h2 hvl
              go_wp2
              go_roundw
              case rel => exact ⟨k + 1, rfl, by omega, HNEW.out, HBN.out⟩
              case measure => simp [intOf]; omega
            · have d4 : decide ((b.toNat : Int) ≤ 90) = false := decide_eq_false (by omega)
              have d4n : decide (b.toNat ≤ 90) = false := decide_eq_false h2
              rw [if_neg (fun h => h2 h.2)] at hvl
              have HNEW : Hid (OwnS wr w0.heap.size 5 1 (.slice (some ⟨g, off, none⟩) s.size c5) s.size ((bytesOf (bk (lowTo s.data.toList (k + 1)))).map (Value.int .u8))) := Lib.hid (by
                have hb0 : lowU b = b := UInt8.toNat_inj.1 (by omega)
                rw [lowTo_succ HBK.out, hb0, set_self (lowTo_at HBK.out)]
                exact HO.out)
              clear h1 h2 hvl
              go_wp2
              go_roundw
              case rel => exact ⟨k + 1, rfl, by omega, HNEW.out, HB.out⟩
              case measure => simp [intOf]; omega
          · have d3 : decide ((b.toNat : Int) ≥ 65) = false := decide_eq_false (by omega)
            have d3' : decide ((65 : Int) ≤ (b.toNat : Int)) = false := decide_eq_false (by omega)
            have d3n : decide (65 ≤ b.toNat) = false := decide_eq_false h1
            rw [if_neg (fun h => h1 h.1)] at hvl
            have HNEW : Hid (OwnS wr w0.heap.size 5 1 (.slice (some ⟨g, off, none⟩) s.size c5) s.size ((bytesOf (bk (lowTo s.data.toList (k + 1)))).map (Value.int .u8))) := Lib.hid (by
              have hb0 : lowU b = b := UInt8.toNat_inj.1 (by omega)
              rw [lowTo_succ HBK.out, hb0, set_self (lowTo_at HBK.out)]
              exact HO.out)
            clear h1 hvl
            go_wp2
            go_roundw
            case rel => exact ⟨k + 1, rfl, by omega, HNEW.out, HB.out⟩
            case measure => simp [intOf]; omega
        · obtain rfl : k = s.size := by omega
          have d2 : decide ((s.size : Int) < (s.size : Int)) = false := decide_eq_false (by omega)
          have d2' : decide (s.size < s.size) = false := decide_eq_false (by omega)
          rw [lowTo_all _ _ (by rw [← Lib.size_eq]; exact Nat.le_refl _)] at ho
          have HCV : Hid (∀ w', Below wr.heap.size wr w' → (convert 24 9 (.slice A5 s.size c5)).run Tryz.prog w' = .ok (.string (bk (s.data.toList.map lowU))) w') := Lib.hid (fun w' hb' => by
            have h := run_str_ints (P := Tryz.prog) 24 9 5 Tryz.underlying24 Tryz.underlying5 Tryz.underlying9 A5 c5 _ (ho.ints.below hb')
            rw [strOfNums_bytes, bytesOf_len, bk_size, List.length_map, ← Lib.size_eq] at h
            exact h)
          have HB := Lib.hid hb
          have hv := valid_any s wr (HE.out.below (HL0.out.trans (hb.mono HL0.out.size))) HS.out
          have hts : s.toList = s.data.toList := Lib.toList_data s
          have htl : (bk (s.data.toList.map lowU)).toList = s.data.toList.map lowU := by rw [Lib.toList_data, bk_list]
          generalize s.data.toList.map lowU = LL at *
          clear ho hb
          cases hvd : Lib.validD s.data.toList
          · rw [hvd] at hv HA
            clear hvd hts htl
            go_wp2_with (go_at_call 73; refine hv.mono ?_; rintro e w2 ⟨rfl, hb2⟩; have HB2 := Lib.hid (HB.out.trans (hb2.mono HB.out.size)); clear hb2)
            go_ret
            exact ⟨by rw [HA.out]; rfl, HL0.out.trans (HB2.out.mono HL0.out.size)⟩
          · rw [hvd] at hv HA
            clear hvd
            by_cases h1 : s.data.toList = []
            · have q1 : (s.toList == []) = true := by rw [hts, h1]; rfl
              rw [show (s.data.toList == []) = true by rw [h1]; rfl] at HA
              clear h1 hts htl
              go_wp2_with (go_at_call 73; refine hv.mono ?_; rintro e w2 ⟨rfl, hb2⟩; have HB2 := Lib.hid (HB.out.trans (hb2.mono HB.out.size)); clear hb2)
              go_ret
              exact ⟨by rw [HA.out]; rfl, HL0.out.trans (HB2.out.mono HL0.out.size)⟩
            · have q1 : (s.toList == []) = false := by rw [hts, beq_eq_false_iff_ne]; exact h1
              have q1' : (s.data.toList == []) = false := by rw [beq_eq_false_iff_ne]; exact h1
              rw [q1'] at HA
              by_cases h2 : s.data.toList = [46]
              · have q2 : (s.toList == [46]) = true := by rw [hts, h2]; rfl
                rw [show (s.data.toList == [46]) = true by rw [h2]; rfl] at HA
                clear h1 h2 hts htl q1'
                go_wp2_with (go_at_call 73; refine hv.mono ?_; rintro e w2 ⟨rfl, hb2⟩; have HB2 := Lib.hid (HB.out.trans (hb2.mono HB.out.size)); clear hb2)
                go_ret
                exact ⟨by rw [HA.out]; rfl, HL0.out.trans (HB2.out.mono HL0.out.size)⟩
              · have q2 : (s.toList == [46]) = false := by rw [hts, beq_eq_false_iff_ne]; exact h2
                have q2' : (s.data.toList == [46]) = false := by rw [beq_eq_false_iff_ne]; exact h2
                rw [q2'] at HA
                by_cases h3 : s.data.toList = [46, 46]
                · have q3 : (s.toList == [46, 46]) = true := by rw [hts, h3]; rfl
                  rw [show (s.data.toList == [46, 46]) = true by rw [h3]; rfl] at HA
                  clear h1 h2 h3 hts htl q1' q2'
                  go_wp2_with (go_at_call 73; refine hv.mono ?_; rintro e w2 ⟨rfl, hb2⟩; have HB2 := Lib.hid (HB.out.trans (hb2.mono HB.out.size)); clear hb2)
                  go_ret
                  exact ⟨by rw [HA.out]; rfl, HL0.out.trans (HB2.out.mono HL0.out.size)⟩
                · have q3 : (s.toList == [46, 46]) = false := by rw [hts, beq_eq_false_iff_ne]; exact h3
                  have q3' : (s.data.toList == [46, 46]) = false := by rw [beq_eq_false_iff_ne]; exact h3
                  rw [q3'] at HA
                  by_cases h4 : LL = [46, 103, 105, 116]
                  · have q4 : ((bk LL).toList == [46, 103, 105, 116]) = true := by rw [htl, h4]; rfl
                    rw [show (LL == [46, 103, 105, 116]) = true by rw [h4]; rfl] at HA
                    clear h1 h2 h3 h4 hts htl q1' q2' q3'
                    go_wp2_with (go_at_call 73; refine hv.mono ?_; rintro e w2 ⟨rfl, hb2⟩; have HB2 := Lib.hid (HB.out.trans (hb2.mono HB.out.size)); have hcv2 := HCV.out w2 hb2; clear hb2)
                    go_ret
                    exact ⟨by rw [HA.out]; rfl, HL0.out.trans (HB2.out.mono HL0.out.size)⟩
                  · have q4 : ((bk LL).toList == [46, 103, 105, 116]) = false := by rw [htl, beq_eq_false_iff_ne]; exact h4
                    have q4' : (LL == [46, 103, 105, 116]) = false := by rw [beq_eq_false_iff_ne]; exact h4
                    rw [q4'] at HA
                    clear h1 h2 h3 h4 hts htl q1' q2' q3' q4'
                    go_wp2_with (go_at_call 73; refine hv.mono ?_; rintro e w2 ⟨rfl, hb2⟩; have HB2 := Lib.hid (HB.out.trans (hb2.mono HB.out.size)); have hcv2 := HCV.out w2 hb2; clear hb2)
                    go_ret
                    exact ⟨by rw [HA.out]; rfl, HL0.out.trans (HB2.out.mono HL0.out.size)⟩
end Go.Proofs.YtdlabapfcghfmaaGreatDoor
