/- Entries in memory; a tree printed: object.Tree.Bytes. -/
import Derived.Test.YtihanglnjghcfaaGreatDoorGLn3
import Derived.Test.YtihanglnjghcfaaGreatDoorGLn0
import Derived.Lib.SplitLaws
import Derived.Lib.ValidAsc
import Derived.Lib.RuneCountTail
import Derived.Laws.RangeString
import Derived.Laws.RangeAny
import Derived.LoopTactic
import Derived.IntWalk
import Derived.Test.YtihanglnjghcfaaGreatDoorGLn2
import Derived.Laws.Runes
import Derived.Lib.IndexAny
import Derived.Lib.OthersKept
import Derived.Shelf.Strings.AsciiSet
import Derived.Shelf.Strings.SlTrimAscii
import Derived.Lib.Replace
namespace Go.Proofs.YtihanglnjghcfaaGreatDoor
open Go.RowKit
set_option linter.unusedVariables false
set_option linter.unusedSimpArgs false

/-- An entry: mode, name, ID. -/
structure Ent where
 m : ByteArray
 n : ByteArray
 i : ByteArray
/-- A row of entries that reads as these. -/
def EntsAt (w : World) (A : Option Addr) (L : List Ent) : Prop :=
 0 < L.length → ∃ g o, A = some ⟨g, o, none⟩ ∧ g < w.heap.size ∧ ∀ (i : Nat) (x : Ent), L[i]? = some x → w.cell? ⟨g, o + i * 3, none⟩ = some (.string x.m) ∧ w.cell? ⟨g, o + i * 3 + 1, none⟩ = some (.string x.n) ∧ w.cell? ⟨g, o + i * 3 + 2, none⟩ = some (.string x.i)
theorem EntsAt.below {w w' : World} {A : Option Addr} {L : List Ent} (h : EntsAt w A L) (hb : Below w.heap.size w w') : EntsAt w' A L := fun hl => by
 obtain ⟨g, o, h1, h2, h3⟩ := h hl
 exact ⟨g, o, h1, Nat.lt_of_lt_of_le h2 hb.size, fun i x hx => ⟨(hb.cell (p := ⟨g, o + i * 3, none⟩) h2).trans (h3 i x hx).1, (hb.cell (p := ⟨g, o + i * 3 + 1, none⟩) h2).trans (h3 i x hx).2.1, (hb.cell (p := ⟨g, o + i * 3 + 2, none⟩) h2).trans (h3 i x hx).2.2⟩⟩
theorem EntsAt.nil {w : World} {A : Option Addr} : EntsAt w A [] := fun h => absurd h (by simp)
/-- What an entry is printed as, and a tree. -/
def entS (x : Ent) : ByteArray := x.m ++ ⟨#[32]⟩ ++ x.n ++ ⟨#[0]⟩
def entL (x : Ent) : List Int := bytesOf (entS x) ++ rawL x.i
def treeL (L : List Ent) : List Int := L.flatMap entL
def entF (x : Ent) (j : Nat) : Value := if j = 0 then .string x.m else if j = 1 then .string x.n else .string x.i
theorem entF_new (w : World) (x : Ent) : Cel (w.alloc (.cells #[.string x.m, .string x.n, .string x.i] 116)) w.heap.size 116 3 (entF x) :=
 Cel.new w _ #[.string x.m, .string x.n, .string x.i] _ (fun i hi => by
  have : i < 3 := hi
  rcases i with _ | _ | _ | i <;> first | rfl | omega)
end Go.Proofs.YtihanglnjghcfaaGreatDoor
namespace Go.Proofs.YtihanglnjghcfaaGreatDoor
open Go.RowKit
set_option linter.unusedVariables false
set_option linter.unusedSimpArgs false

/-- A row of texts. -/
def StrsAt (w : World) (A : Option Addr) (P : List ByteArray) : Prop :=
 0 < P.length → ∃ g o, A = some ⟨g, o, none⟩ ∧ g < w.heap.size ∧ ∀ (i : Nat) (s : ByteArray), P[i]? = some s → w.cell? ⟨g, o + i, none⟩ = some (.string s)
theorem StrsAt.below {w w' : World} {A : Option Addr} {P : List ByteArray} (h : StrsAt w A P) (hb : Below w.heap.size w w') : StrsAt w' A P := fun hl => by
 obtain ⟨g, o, h1, h2, h3⟩ := h hl
 exact ⟨g, o, h1, Nat.lt_of_lt_of_le h2 hb.size, fun i x hx => (hb.cell (p := ⟨g, o + i, none⟩) h2).trans (h3 i x hx)⟩
theorem StrsAt.nil {w : World} {A : Option Addr} : StrsAt w A [] := fun h => absurd h (by simp)
def treeW : ByteArray := ⟨#[116, 114, 101, 101, 32]⟩
def parentW : ByteArray := ⟨#[112, 97, 114, 101, 110, 116, 32]⟩
def authorW : ByteArray := ⟨#[97, 117, 116, 104, 111, 114, 32]⟩
def committerW : ByteArray := ⟨#[10, 99, 111, 109, 109, 105, 116, 116, 101, 114, 32]⟩
def objectW : ByteArray := ⟨#[111, 98, 106, 101, 99, 116, 32]⟩
def typeW : ByteArray := ⟨#[10, 116, 121, 112, 101, 32]⟩
def tagW : ByteArray := ⟨#[10, 116, 97, 103, 32]⟩
def taggerW : ByteArray := ⟨#[10, 116, 97, 103, 103, 101, 114, 32]⟩
def nlW : ByteArray := ⟨#[10]⟩
def nl2W : ByteArray := ⟨#[10, 10]⟩
/-- A parent's line; a commit's beginning, its end; a tag. -/
def parS (p : ByteArray) : ByteArray := parentW ++ p ++ nlW
def headS (t : ByteArray) : ByteArray := treeW ++ t ++ nlW
def tailS (a c m : ByteArray) : ByteArray := authorW ++ a ++ committerW ++ c ++ nl2W ++ m
def parL (P : List ByteArray) : List Int := P.flatMap fun p => bytesOf (parS p)
def commitL (t : ByteArray) (P : List ByteArray) (a c m : ByteArray) : List Int := bytesOf (headS t) ++ parL P ++ bytesOf (tailS a c m)
def tagS (o k n g m : ByteArray) : ByteArray := objectW ++ o ++ typeW ++ k ++ tagW ++ n ++ taggerW ++ g ++ nl2W ++ m
theorem parS_size (p : ByteArray) : (parS p).size = p.size + 8 := by
 unfold parS; rw [ByteArray.size_append, ByteArray.size_append]; show 7 + p.size + 1 = _; omega
theorem headS_size (t : ByteArray) : (headS t).size = t.size + 6 := by
 unfold headS; rw [ByteArray.size_append, ByteArray.size_append]; show 5 + t.size + 1 = _; omega
theorem tailS_size (a c m : ByteArray) : (tailS a c m).size = a.size + c.size + m.size + 20 := by
 unfold tailS
 rw [ByteArray.size_append, ByteArray.size_append, ByteArray.size_append, ByteArray.size_append, ByteArray.size_append]
 show 7 + a.size + 11 + c.size + 2 + m.size = _
 omega
theorem parL_succ {P : List ByteArray} {k : Nat} {p : ByteArray} (h : P[k]? = some p) : parL (P.take (k + 1)) = parL (P.take k) ++ bytesOf (parS p) := by
 unfold parL
 rw [List.take_add_one, h, List.flatMap_append]
 simp
theorem parL_pre (P : List ByteArray) (k : Nat) : (parL (P.take k)).length ≤ (parL P).length := by
 have e : parL P = parL (P.take k) ++ parL (P.drop k) := by unfold parL; rw [← List.flatMap_append, List.take_append_drop]
 rw [e, List.length_append]
 omega
end Go.Proofs.YtihanglnjghcfaaGreatDoor
namespace Go.Proofs.YtihanglnjghcfaaGreatDoor
open Go.RowKit
set_option linter.unusedVariables false
set_option linter.unusedSimpArgs false

def bk (l : List UInt8) : ByteArray := ⟨l.toArray⟩
theorem bk_list (l : List UInt8) : (bk l).data.toList = l := by simp [bk]
theorem bk_of (s : ByteArray) : bk s.data.toList = s := by cases s; simp [bk]
theorem bk_size (l : List UInt8) : (bk l).size = l.length := by show l.toArray.size = _; simp
theorem bk_ext (s : ByteArray) (a b : Nat) : s.extract a b = bk ((s.data.toList.take b).drop a) := by
 obtain ⟨⟨l⟩⟩ := s
 apply ByteArray.ext
 simp [bk, ByteArray.data_extract, List.drop_take]
theorem bk_ext0 (s : ByteArray) (b : Nat) : s.extract 0 b = bk (s.data.toList.take b) := by rw [bk_ext]; simp
theorem bk_extE (s : ByteArray) (a : Nat) : s.extract a s.size = bk (s.data.toList.drop a) := by
 rw [bk_ext, List.take_of_length_le (by rw [← Lib.size_eq]; exact Nat.le_refl _)]
theorem bk_inj {a b : List UInt8} : bk a = bk b ↔ a = b := ⟨fun h => by rw [← bk_list a, h, bk_list], fun h => by rw [h]⟩
theorem idx_cases (c : UInt8) : ∀ (l : List UInt8), (Lib.indexByte l c = -1 ∧ c ∉ l) ∨ ∃ i : Nat, Lib.indexByte l c = i ∧ i < l.length ∧ l[i]? = some c ∧ c ∉ l.take i
 | [] => .inl ⟨rfl, by simp⟩
 | b :: l => by
  unfold Lib.indexByte
  by_cases h : b = c
  · subst h
    exact .inr ⟨0, by rw [if_pos (by simp)]; rfl, by simp, rfl, by simp⟩
  · have hb : (b == c) = false := by simpa using h
    rw [hb, if_neg (by decide)]
    rcases idx_cases c l with ⟨h1, h2⟩ | ⟨i, h1, h2, h3, h4⟩
    · left
      rw [h1]
      exact ⟨rfl, by simp [h2]; exact fun e => h e.symm⟩
    · right
      refine ⟨i + 1, ?_, by simp; omega, by simpa using h3, by simp [h4]; exact fun e => h e.symm⟩
      have : ((i : Int) == -1) = false := by rw [beq_eq_false_iff_ne]; omega
      rw [h1, this, if_neg (by decide)]
      rfl
set_option maxRecDepth 100000 in
set_option maxHeartbeats 1000000 in
theorem cut1_none (s : ByteArray) (c : UInt8) (w : World) (h : Lib.indexByte s.data.toList c = -1) :
 Calls Tryz.prog 126 #[.string s, .string ⟨#[c]⟩] w fun e w' => e = .returned (.tuple #[.string s, .string (bk []), .bool false]) ∧ Below w.heap.size w w' := by
 have hi := Tryz.stringslite_Index_one s c w
 rw [h] at hi
 have key : Calls Tryz.prog 143 #[.string s, .string ⟨#[c]⟩] w fun e w' => e = .returned (.tuple #[.string s, .string (bk []), .bool false]) ∧ Below w.heap.size w w' := by
  go_enter Tryz.func143, Tryz.ntmps143
  go_wp2_with (go_at_call 152; refine hi.mono ?_; rintro e w' ⟨rfl, rfl⟩)
  go_ret3
  exact ⟨rfl, Below.refl _ _⟩
 go_enter Tryz.func126, Tryz.ntmps126
 go_wp2_with (go_at_call 143; refine key.mono ?_; rintro e w' ⟨rfl, hb⟩)
 go_ret3
 exact ⟨rfl, hb⟩
set_option maxRecDepth 100000 in
set_option maxHeartbeats 1000000 in
theorem cut1_at (s : ByteArray) (c : UInt8) (w : World) (i : Nat) (h : Lib.indexByte s.data.toList c = i) (hl : i < s.size) (hs : s.size ≤ 140737488355328) :
 Calls Tryz.prog 126 #[.string s, .string ⟨#[c]⟩] w fun e w' => e = .returned (.tuple #[.string (bk (s.data.toList.take i)), .string (bk (s.data.toList.drop (i + 1))), .bool true]) ∧ Below w.heap.size w w' := by
 have hi := Tryz.stringslite_Index_one s c w
 rw [h] at hi
 have c0 : (0 : Int) ≤ (i : Int) := by omega
 have c1 : (i : Int) ≤ (s.size : Int) := by omega
 have c2 : (0 : Int) ≤ (i : Int) + 1 := by omega
 have c3 : (i : Int) + 1 ≤ (s.size : Int) := by omega
 have c4 : IntKind.i64.wrap ((i : Int) + 1) = (i : Int) + 1 := IntWalk.i64_in _ (by omega)
 have e1 := bk_ext0 s i
 have e2 := bk_extE s (i + 1)
 have key : Calls Tryz.prog 143 #[.string s, .string ⟨#[c]⟩] w fun e w' => e = .returned (.tuple #[.string (bk (s.data.toList.take i)), .string (bk (s.data.toList.drop (i + 1))), .bool true]) ∧ Below w.heap.size w w' := by
  rw [← e1, ← e2]
  clear e1 e2
  go_enter Tryz.func143, Tryz.ntmps143
  go_wp2_with (go_at_call 152; refine hi.mono ?_; rintro e w' ⟨rfl, rfl⟩)
  go_quiet (fail)
  go_wp2
  go_ret3
  exact ⟨rfl, Below.drewN (Below.refl _ _) _⟩
 clear e1 e2
 go_enter Tryz.func126, Tryz.ntmps126
 go_wp2_with (go_at_call 143; refine key.mono ?_; rintro e w' ⟨rfl, hb⟩)
 go_ret3
 exact ⟨rfl, hb⟩

/-- A line that begins with a word and a blank: what stands behind them, and what behind the line; none: it is not there. -/
def fieldL (nm l : List UInt8) : Option (List UInt8 × List UInt8) :=
 if Lib.hasPrefix l (nm ++ [32]) then
  if Lib.indexByte (Lib.trimPrefix l (nm ++ [32])) 10 = -1 then none
  else some ((Lib.trimPrefix l (nm ++ [32])).take (Lib.indexByte (Lib.trimPrefix l (nm ++ [32])) 10).toNat, (Lib.trimPrefix l (nm ++ [32])).drop ((Lib.indexByte (Lib.trimPrefix l (nm ++ [32])) 10).toNat + 1))
 else none
def FieldPost (g : Nat) (s : ByteArray) (nm : List UInt8) (w : World) (e : Ending) (w' : World) : Prop :=
 Chg (fun k => k = g) w w' ∧ ((∃ x r, fieldL nm s.data.toList = some (x, r) ∧ e = .returned (.tuple #[.string (bk x), .bool true]) ∧ Cel w' g 9 1 (fun _ => .string (bk r))) ∨
  ∃ x : ByteArray, fieldL nm s.data.toList = none ∧ e = .returned (.tuple #[.string x, .bool false]) ∧ Cel w' g 9 1 (fun _ => .string s))
theorem trimPrefix_len (l p : List UInt8) : (Lib.trimPrefix l p).length ≤ l.length := by
 unfold Lib.trimPrefix; split
 · rw [List.length_drop]; omega
 · exact Nat.le_refl _
set_option maxRecDepth 100000 in
set_option maxHeartbeats 2000000 in
theorem field_any (g : Nat) (s : ByteArray) (nm : List UInt8) (w : World) (hs : s.size ≤ 140737488351300) (hn : nm.length ≤ 100) (hc : Cel w g 9 1 (fun _ => .string s)) :
 Calls Tryz.prog 109 #[.pointer (some ⟨g, 0, none⟩), .string (bk nm)] w (FieldPost g s nm w) := by
 have k0 : w.cell? ⟨g, 0, none⟩ = some (.string s) := hc.cell 0 (by decide)
 have f0 : w.frozen? ⟨g, 0, none⟩ = false := hc.frozen 0
 have z0 : (bk nm ++ (⟨#[32]⟩ : ByteArray)).size = (bk nm).size + 1 := by rw [ByteArray.size_append]; rfl
 have z1 : (bk nm).size ≤ 100 := by rw [bk_size]; exact hn
 have HP := Lib.hid (Tryz.strings_CutPrefix s (bk nm ++ (⟨#[32]⟩ : ByteArray)) w)
 rw [show (bk nm ++ (⟨#[32]⟩ : ByteArray)).data.toList = nm ++ [32] by rw [ByteArray.data_append, Array.toList_append, bk_list]] at HP
 have HF : Hid (fieldL nm s.data.toList = if Lib.hasPrefix s.data.toList (nm ++ [32]) then
  if Lib.indexByte (Lib.trimPrefix s.data.toList (nm ++ [32])) 10 = -1 then none
  else some ((Lib.trimPrefix s.data.toList (nm ++ [32])).take (Lib.indexByte (Lib.trimPrefix s.data.toList (nm ++ [32])) 10).toNat, (Lib.trimPrefix s.data.toList (nm ++ [32])).drop ((Lib.indexByte (Lib.trimPrefix s.data.toList (nm ++ [32])) 10).toNat + 1)) else none) := Lib.hid rfl
 have hrl : (Lib.trimPrefix s.data.toList (nm ++ [32])).length ≤ s.size := by rw [Lib.size_eq]; exact trimPrefix_len _ _
 change Hid (Calls Tryz.prog 112 #[.string s, .string (bk nm ++ (⟨#[32]⟩ : ByteArray))] w fun e w' => e = .returned (.tuple #[.string (bk (Lib.trimPrefix s.data.toList (nm ++ [32]))), .bool (Lib.hasPrefix s.data.toList (nm ++ [32]))]) ∧ w' = w) at HP
 have HC := Lib.hid hc
 have HPO : Hid (∀ e w', FieldPost g s nm w e w' = (Chg (fun k => k = g) w w' ∧ ((∃ x r, fieldL nm s.data.toList = some (x, r) ∧ e = .returned (.tuple #[.string (bk x), .bool true]) ∧ Cel w' g 9 1 (fun _ => .string (bk r))) ∨
  ∃ x : ByteArray, fieldL nm s.data.toList = none ∧ e = .returned (.tuple #[.string x, .bool false]) ∧ Cel w' g 9 1 (fun _ => .string s)))) := Lib.hid (fun _ _ => rfl)
 generalize FieldPost g s nm w = POST at *
 generalize Lib.trimPrefix s.data.toList (nm ++ [32]) = R at *
 generalize Lib.hasPrefix s.data.toList (nm ++ [32]) = hp at *
 generalize fieldL nm s.data.toList = FL at *
 have HRL := Lib.hid hrl
 clear hc hn hrl
 go_enter Tryz.func109, Tryz.ntmps109
 cases hp
 · go_wp2_with (go_at_call 112; refine HP.out.mono ?_; rintro e w1 ⟨rfl, rfl⟩)
   rw [HPO.out]
   exact ⟨Chg.refl _ _, .inr ⟨_, HF.out, rfl, HC.out⟩⟩
 · have HB : Hid ((bk R).data.toList = R) := Lib.hid (bk_list R)
   have HZ : Hid ((bk R).size = R.length) := Lib.hid (bk_size R)
   rcases idx_cases 10 R with ⟨hi, _⟩ | ⟨i, hi, hil, _, _⟩
   · have HCN := Lib.hid (fun w => cut1_none (bk R) 10 w (by rw [bk_list]; exact hi))
     have HFN : Hid (FL = none) := Lib.hid (by rw [HF.out, if_pos rfl, if_pos hi])
     clear hi
     go_wp2_with (first | (go_at_call 112; refine HP.out.mono ?_; rintro e w1 ⟨rfl, rfl⟩) | (go_at_call 126; refine (HCN.out _).mono ?_; rintro e w2 ⟨rfl, hb2⟩; have HB2 := Lib.hid hb2; clear hb2))
     rw [HPO.out]
     exact ⟨Chg.of_below HB2.out, .inr ⟨_, HFN.out, rfl, HC.out.below HB2.out HC.out.blk⟩⟩
   · have HCN := Lib.hid (fun w => cut1_at (bk R) 10 w i (by rw [bk_list]; exact hi) (by rw [bk_size]; exact hil) (by rw [bk_size]; have := HRL.out; omega))
     rw [bk_list] at HCN
     have HFN : Hid (FL = some (R.take i, R.drop (i + 1))) := Lib.hid (by rw [HF.out, if_pos rfl, if_neg (by omega), hi]; rfl)
     clear hi hil
     generalize R.take i = X at *
     generalize R.drop (i + 1) = Y at *
     go_wp2_with fail
     refine HP.out.mono ?_
     rintro e w1 ⟨rfl, rfl⟩
     clear k0 f0
     go_wp2_with fail
     refine (HCN.out _).mono ?_
     rintro e w2 ⟨rfl, hb2⟩
     have HB2 := Lib.hid hb2
     have hc2 := HC.out.below hb2 HC.out.blk
     have k0 : w2.cell? ⟨g, 0, none⟩ = some (.string s) := hc2.cell 0 (by decide)
     have f0 : w2.frozen? ⟨g, 0, none⟩ = false := hc2.frozen 0
     have HC2 := Lib.hid hc2
     clear hb2 hc2
     go_wp2
     rw [HPO.out]
     exact ⟨Chg.setCell (S := fun k => k = g) (Chg.of_below HB2.out) (a := ⟨g, 0, none⟩) (.inl rfl) _, .inl ⟨X, Y, HFN.out, rfl, (HC2.out.set 0 (.string (bk Y))).congr (fun i hi => by rw [if_pos (by omega)])⟩⟩
end Go.Proofs.YtihanglnjghcfaaGreatDoor
namespace Go.Proofs.YtihanglnjghcfaaGreatDoor
open Go.RowKit
set_option linter.unusedVariables false

def badO : ByteArray := ⟨#[60, 62, 10, 0]⟩
theorem idxByte_high (l : List UInt8) (c : UInt8) (h : c ∉ l) : Lib.indexByte l c = -1 := by
 induction l with
 | nil => rfl
 | cons b l ih =>
  unfold Lib.indexByte
  rw [if_neg (by rw [beq_iff_eq]; rintro rfl; exact h (by simp)), ih (fun hm => h (by simp [hm]))]
  rfl
theorem notBad (c : UInt8) (h : 128 ≤ c.toNat) (n : Nat) : c ∉ badO.data.toList.drop n := by
 intro hm
 have := List.mem_of_mem_drop hm
 simp [badO] at this
 rcases this with rfl | rfl | rfl | rfl <;> revert h <;> decide
set_option maxRecDepth 100000 in
set_option maxHeartbeats 1000000 in
theorem indexRune_errO (w : World) :
 Calls Tryz.prog 154 #[.string badO, .int .i32 65533] w fun e w' => e = .returned (.int .i64 (-1)) ∧ Below w.heap.size w w' := by
 go_enter Tryz.func154, Tryz.ntmps154
 go_wp2
 go_loopw [5] (fun _ w' => ∃ pos : Nat, pos ≤ 4 ∧ w' = w.iter badO pos) (fun _ w' => 4 - w'.iterPos w.heap.size)
 case atStart => exact ⟨0, by omega, rfl⟩
 case round =>
  obtain ⟨pos, hp7, rfl⟩ := hrel
  by_cases hp : pos < badO.size
  · have hnx : ∀ ty, (Instr.next (.pointer (some ⟨w.heap.size, 0, none⟩)) true ty).run Tryz.prog (w.iter badO pos) = _ := fun ty => run_next_any w badO pos ty hp
    have hd : Utf8.decode badO pos = ((badO[pos]'hp).toNat, 1) := decode_ascii badO pos hp (by
     have h7 : pos < 4 := hp
     have : pos = 0 ∨ pos = 1 ∨ pos = 2 ∨ pos = 3 := by omega
     rcases this with rfl | rfl | rfl | rfl <;> exact of_decide_eq_true rfl)
    have hb := (badO[pos]'hp).toNat_lt
    have q1 : (((Utf8.decode badO pos).1 : Int) == 65533) = false := by rw [hd, beq_eq_false_iff_ne]; simp only []; omega
    have hw : (Utf8.decode badO pos).2 = 1 := by rw [hd]
    have h7 : pos < 4 := hp
    have HW := Lib.hid hw
    clear hd hw
    go_wp2
    go_roundw
    case rel => exact ⟨pos + 1, by omega, by rw [HW.out]⟩
    case measure => simp; have := HW.out; omega
  · have hnx : ∀ ty, (Instr.next (.pointer (some ⟨w.heap.size, 0, none⟩)) true ty).run Tryz.prog (w.iter badO pos) = _ := fun ty => run_next_end w badO pos ty hp
    go_wp2
    go_ret
    exact ⟨rfl, (Below.refl _ _).alloc (Nat.le_refl _) _⟩
set_option maxRecDepth 1000000 in
set_option maxHeartbeats 1000000 in
theorem indexRune_badO (c : Nat) (w : World) (h1 : 128 ≤ c) (h3 : c ≠ 65533) (hr : Lib.validRune (c : Int) = false) :
 Calls Tryz.prog 154 #[.string ⟨#[60, 62, 10, 0]⟩, .int .i32 c] w fun e w' => e = .returned (.int .i64 (-1)) ∧ Below w.heap.size w w' := by
 have q0 : decide ((0 : Int) ≤ (c : Int)) = true := decide_eq_true (by omega)
 have q1 : decide ((c : Int) < 128) = false := decide_eq_false (by omega)
 have q2 : ((c : Int) == 65533) = false := by rw [beq_eq_false_iff_ne]; omega
 have hv : Calls Tryz.prog 161 #[.int .i32 c] w fun e w' => e = .returned (.bool false) ∧ w = w' := (Tryz.utf8_ValidRune (c : Int) w).mono fun _ _ ⟨h1, h2⟩ => ⟨by rw [h1, hr], h2.symm⟩
 go_enter Tryz.func154, Tryz.ntmps154
 go_wp2_with (go_at_call 161; refine hv.mono ?_; rintro e w' ⟨rfl, rfl⟩)
 go_ret
 exact ⟨rfl, Below.refl _ _⟩
set_option maxRecDepth 1000000 in
set_option maxHeartbeats 1000000 in
theorem indexRune_h2O (c : Nat) (w : World) (h1 : 128 ≤ c) (h3 : c ≠ 65533) (hr : Lib.validRune (c : Int) = true) (rs : ByteArray) (hrs : Utf8.encode (c : Int) = rs) (hn : rs.size = 2) (g2 : 1 < rs.size) (hb : 128 ≤ (rs[1]'g2).toNat) :
 Calls Tryz.prog 154 #[.string ⟨#[60, 62, 10, 0]⟩, .int .i32 c] w fun e w' => e = .returned (.int .i64 (-1)) ∧ Below w.heap.size w w' := by
 have q0 : decide ((0 : Int) ≤ (c : Int)) = true := decide_eq_true (by omega)
 have q1 : decide ((c : Int) < 128) = false := decide_eq_false (by omega)
 have q2 : ((c : Int) == 65533) = false := by rw [beq_eq_false_iff_ne]; omega
 have hv : Calls Tryz.prog 161 #[.int .i32 c] w fun e w' => e = .returned (.bool true) ∧ w = w' := (Tryz.utf8_ValidRune (c : Int) w).mono fun _ _ ⟨h1, h2⟩ => ⟨by rw [h1, hr], h2.symm⟩
 have r1 : (!((62 : Int) == ((rs[1]'g2).toNat : Int))) = true := by
  have : ((62 : Int) == ((rs[1]'g2).toNat : Int)) = false := by rw [beq_eq_false_iff_ne]; omega
  rw [this]; rfl
 have r2 : ((((⟨#[60, 62, 10, 0]⟩ : ByteArray)[1]'(by decide)).toNat : Int) != ((rs[1]'g2).toNat : Int)) = true := r1
 obtain ⟨t, ht⟩ : ∃ t : ByteArray, (⟨#[60, 62, 10, 0]⟩ : ByteArray).extract 2 4 = t := ⟨_, rfl⟩
 have hix : ∀ w', Calls Tryz.prog 130 #[.string t, .int .u8 ((rs[1]'g2).toNat : Int)] w' fun e w'' => e = .returned (.int .i64 (-1)) ∧ w'' = w' := fun w' => by
  have := Tryz.strings_IndexByte t ((rs[1]'g2).toNat : Int) w'
  rw [Int.toNat_natCast, show ((rs[1]'g2).toNat).toUInt8 = rs[1]'g2 by simp, ← ht, show ((⟨#[60, 62, 10, 0]⟩ : ByteArray).extract 2 4).data.toList = badO.data.toList.drop 2 from Lib.ext_list badO 2, idxByte_high _ _ (notBad _ hb 2), ht] at this
  exact this
 have HIX := Lib.hid hix
 clear hix hr h3 hb
 go_enter Tryz.func154, Tryz.ntmps154
 go_wp2_with (go_at_call 161; refine hv.mono ?_; rintro e w' ⟨rfl, rfl⟩)
 go_step3
 go_wp2
 go_loop [9, 10] (fun i f => i = .int .i64 1 ∧ f = .int .i64 0) (fun _ _ => 0)
 case atStart => exact ⟨rfl, rfl⟩
 case round =>
 obtain ⟨rfl, rfl⟩ := hrel
 clear hv
 go_wp2
 go_step3
 go_wp2
 go_quiet (fail)
 go_wp2
 have hB1 : Below w.heap.size w (w.drewN nq) := Below.drewN (Below.refl _ _) nq
 generalize w.drewN nq = w1 at hB1 ⊢
 go_quiet ((go_at_call 130; exact Calls.quiet_of_same (HIX.out _)))
 go_wp2
 simp only [Exit.noGoto_ret]
 go_wp2
 simp only [Exit.noGoto_ret]
 go_ret
 exact ⟨rfl, Below.drewN hB1 _⟩
set_option maxRecDepth 1000000 in
set_option maxHeartbeats 1000000 in
theorem indexRune_h3O (c : Nat) (w : World) (h1 : 128 ≤ c) (h3 : c ≠ 65533) (hr : Lib.validRune (c : Int) = true) (rs : ByteArray) (hrs : Utf8.encode (c : Int) = rs) (hn : rs.size = 3) (g2 : 2 < rs.size) (hb : 128 ≤ (rs[2]'g2).toNat) :
 Calls Tryz.prog 154 #[.string ⟨#[60, 62, 10, 0]⟩, .int .i32 c] w fun e w' => e = .returned (.int .i64 (-1)) ∧ Below w.heap.size w w' := by
 have q0 : decide ((0 : Int) ≤ (c : Int)) = true := decide_eq_true (by omega)
 have q1 : decide ((c : Int) < 128) = false := decide_eq_false (by omega)
 have q2 : ((c : Int) == 65533) = false := by rw [beq_eq_false_iff_ne]; omega
 have hv : Calls Tryz.prog 161 #[.int .i32 c] w fun e w' => e = .returned (.bool true) ∧ w = w' := (Tryz.utf8_ValidRune (c : Int) w).mono fun _ _ ⟨h1, h2⟩ => ⟨by rw [h1, hr], h2.symm⟩
 have r1 : (!((10 : Int) == ((rs[2]'g2).toNat : Int))) = true := by
  have : ((10 : Int) == ((rs[2]'g2).toNat : Int)) = false := by rw [beq_eq_false_iff_ne]; omega
  rw [this]; rfl
 have r2 : ((((⟨#[60, 62, 10, 0]⟩ : ByteArray)[2]'(by decide)).toNat : Int) != ((rs[2]'g2).toNat : Int)) = true := r1
 obtain ⟨t, ht⟩ : ∃ t : ByteArray, (⟨#[60, 62, 10, 0]⟩ : ByteArray).extract 3 4 = t := ⟨_, rfl⟩
 have hix : ∀ w', Calls Tryz.prog 130 #[.string t, .int .u8 ((rs[2]'g2).toNat : Int)] w' fun e w'' => e = .returned (.int .i64 (-1)) ∧ w'' = w' := fun w' => by
  have := Tryz.strings_IndexByte t ((rs[2]'g2).toNat : Int) w'
  rw [Int.toNat_natCast, show ((rs[2]'g2).toNat).toUInt8 = rs[2]'g2 by simp, ← ht, show ((⟨#[60, 62, 10, 0]⟩ : ByteArray).extract 3 4).data.toList = badO.data.toList.drop 3 from Lib.ext_list badO 3, idxByte_high _ _ (notBad _ hb 3), ht] at this
  exact this
 have HIX := Lib.hid hix
 clear hix hr h3 hb
 go_enter Tryz.func154, Tryz.ntmps154
 go_wp2_with (go_at_call 161; refine hv.mono ?_; rintro e w' ⟨rfl, rfl⟩)
 go_step3
 go_wp2
 go_loop [9, 10] (fun i f => i = .int .i64 2 ∧ f = .int .i64 0) (fun _ _ => 0)
 case atStart => exact ⟨rfl, rfl⟩
 case round =>
 obtain ⟨rfl, rfl⟩ := hrel
 clear hv
 go_wp2
 go_step3
 go_wp2
 go_quiet (fail)
 go_wp2
 have hB1 : Below w.heap.size w (w.drewN nq) := Below.drewN (Below.refl _ _) nq
 generalize w.drewN nq = w1 at hB1 ⊢
 go_quiet ((go_at_call 130; exact Calls.quiet_of_same (HIX.out _)))
 go_wp2
 simp only [Exit.noGoto_ret]
 go_wp2
 simp only [Exit.noGoto_ret]
 go_ret
 exact ⟨rfl, Below.drewN hB1 _⟩
set_option maxRecDepth 1000000 in
set_option maxHeartbeats 1000000 in
theorem indexRune_h4O (c : Nat) (w : World) (h1 : 128 ≤ c) (h3 : c ≠ 65533) (hr : Lib.validRune (c : Int) = true) (rs : ByteArray) (hrs : Utf8.encode (c : Int) = rs) (hn : rs.size = 4) (g2 : 3 < rs.size) (hb : 128 ≤ (rs[3]'g2).toNat) :
 Calls Tryz.prog 154 #[.string ⟨#[60, 62, 10, 0]⟩, .int .i32 c] w fun e w' => e = .returned (.int .i64 (-1)) ∧ Below w.heap.size w w' := by
 have q0 : decide ((0 : Int) ≤ (c : Int)) = true := decide_eq_true (by omega)
 have q1 : decide ((c : Int) < 128) = false := decide_eq_false (by omega)
 have q2 : ((c : Int) == 65533) = false := by rw [beq_eq_false_iff_ne]; omega
 have hv : Calls Tryz.prog 161 #[.int .i32 c] w fun e w' => e = .returned (.bool true) ∧ w = w' := (Tryz.utf8_ValidRune (c : Int) w).mono fun _ _ ⟨h1, h2⟩ => ⟨by rw [h1, hr], h2.symm⟩
 have r1 : (!((0 : Int) == ((rs[3]'g2).toNat : Int))) = true := by
  have : ((0 : Int) == ((rs[3]'g2).toNat : Int)) = false := by rw [beq_eq_false_iff_ne]; omega
  rw [this]; rfl
 have r2 : ((((⟨#[60, 62, 10, 0]⟩ : ByteArray)[3]'(by decide)).toNat : Int) != ((rs[3]'g2).toNat : Int)) = true := r1
 obtain ⟨t, ht⟩ : ∃ t : ByteArray, (⟨#[60, 62, 10, 0]⟩ : ByteArray).extract 4 4 = t := ⟨_, rfl⟩
 have hix : ∀ w', Calls Tryz.prog 130 #[.string t, .int .u8 ((rs[3]'g2).toNat : Int)] w' fun e w'' => e = .returned (.int .i64 (-1)) ∧ w'' = w' := fun w' => by
  have := Tryz.strings_IndexByte t ((rs[3]'g2).toNat : Int) w'
  rw [Int.toNat_natCast, show ((rs[3]'g2).toNat).toUInt8 = rs[3]'g2 by simp, ← ht, show ((⟨#[60, 62, 10, 0]⟩ : ByteArray).extract 4 4).data.toList = badO.data.toList.drop 4 from Lib.ext_list badO 4, idxByte_high _ _ (notBad _ hb 4), ht] at this
  exact this
 have hw4 : IntKind.i64.wrap 4 = 4 := by decide
 have hsl : ∀ w', (Instr.slice 9 (.string ⟨#[60, 62, 10, 0]⟩) (some (.int .i64 4)) none none).run Tryz.prog w' = .ok (.string t) w' := fun w' => by rw [← ht]; kernel_rfl
 have HIX := Lib.hid hix
 clear hix hr h3 hb
 go_enter Tryz.func154, Tryz.ntmps154
 go_wp2_with (go_at_call 161; refine hv.mono ?_; rintro e w' ⟨rfl, rfl⟩)
 go_step3
 go_wp2
 go_loop [9, 10] (fun i f => i = .int .i64 3 ∧ f = .int .i64 0) (fun _ _ => 0)
 case atStart => exact ⟨rfl, rfl⟩
 case round =>
 obtain ⟨rfl, rfl⟩ := hrel
 clear hv
 go_wp2
 go_step3
 go_wp2
 go_quiet (fail)
 go_wp2
 have hB1 : Below w.heap.size w (w.drewN nq) := Below.drewN (Below.refl _ _) nq
 generalize w.drewN nq = w1 at hB1 ⊢
 go_quiet ((go_at_call 130; exact Calls.quiet_of_same (HIX.out _)))
 go_wp2
 simp only [Exit.noGoto_ret]
 go_wp2
 simp only [Exit.noGoto_ret]
 go_ret
 exact ⟨rfl, Below.drewN hB1 _⟩
theorem idxRune_low (c : UInt8) (w : World) (h : c.toNat < 128) :
 Calls Tryz.prog 154 #[.string ⟨#[60, 62, 10, 0]⟩, .int .i32 (c.toNat : Int)] w fun e w' => e = .returned (.int .i64 (Lib.indexByte [60, 62, 10, 0] c)) ∧ w = w' := by
 refine (Tryz.strings_IndexRune_ascii ⟨#[60, 62, 10, 0]⟩ (c.toNat : Int) w (by omega) (by omega)).mono fun e w' ⟨h1, h2⟩ => ⟨?_, h2.symm⟩
 rw [h1, Int.toNat_natCast, show (c.toNat).toUInt8 = c by simp]
theorem idxRune_high (c : Nat) (w : World) (h1 : 128 ≤ c) (h2 : c ≤ 1114111) :
 Calls Tryz.prog 154 #[.string ⟨#[60, 62, 10, 0]⟩, .int .i32 c] w fun e w' => e = .returned (.int .i64 (-1)) ∧ Below w.heap.size w w' := by
 by_cases h3 : c = 65533
 · subst h3; exact indexRune_errO w
 by_cases hr : Lib.validRune (c : Int) = true
 · have hv2 : Utf8.valid (c : Int) = true := by
    unfold Lib.validRune at hr
    have := of_decide_eq_true hr
    unfold Utf8.valid
    simp
    omega
   obtain ⟨f1, f2, f3⟩ := encode_facts (c : Int) hv2 (by omega)
   obtain ⟨rs, hrs⟩ : ∃ rs, Utf8.encode (c : Int) = rs := ⟨_, rfl⟩
   rw [hrs] at f1 f2
   have f3 : ∀ h : rs.size - 1 < rs.size, 128 ≤ (rs[rs.size - 1]'h).toNat := by rw [← hrs]; exact f3
   have hn : rs.size = 2 ∨ rs.size = 3 ∨ rs.size = 4 := by omega
   rcases hn with hn | hn | hn
   · exact indexRune_h2O c w h1 h3 hr rs hrs hn (by omega) (by have := f3 (by omega); simpa [hn] using this)
   · exact indexRune_h3O c w h1 h3 hr rs hrs hn (by omega) (by have := f3 (by omega); simpa [hn] using this)
   · exact indexRune_h4O c w h1 h3 hr rs hrs hn (by omega) (by have := f3 (by omega); simpa [hn] using this)
 · have hr' : Lib.validRune (c : Int) = false := by simpa using hr
   exact indexRune_badO c w h1 h3 hr'
end Go.Proofs.YtihanglnjghcfaaGreatDoor
namespace Go.Proofs.YtihanglnjghcfaaGreatDoor
open Go.RowKit
set_option linter.unusedVariables false
set_option linter.unusedSimpArgs false

def badL : List UInt8 := [60, 62, 10, 0]
theorem badL_low (c : UInt8) (h : 128 ≤ c.toNat) : badL.contains c = false := by
 cases hc : badL.contains c
 · rfl
 · simp [badL] at hc
   rcases hc with rfl | rfl | rfl | rfl <;> revert h <;> decide
theorem getO_toList (s : ByteArray) (i : Nat) (h : i < s.size) : s.data.toList[i]? = some (s.get! i) := by
 have hl : i < s.data.toList.length := by rw [← Lib.size_eq]; exact h
 have := Lib.getD_get!' s i
 rw [List.getD_eq_getElem?_getD, List.getElem?_eq_getElem hl] at this
 rw [List.getElem?_eq_getElem hl]
 simpa using this
/-- A step of the decoder at a byte from 128 on: the rune is one too, and so are the bytes that it takes. -/
theorem decO_high (n b0 b1 b2 b3 : Nat) (h0 : 128 ≤ b0) (hn : 1 ≤ n) (h1 : b0 < 256) (h2 : b1 < 256) (h3 : b2 < 256) (h4 : b3 < 256) :
 128 ≤ (Lib.decodeN n b0 b1 b2 b3).1 ∧ (Lib.decodeN n b0 b1 b2 b3).1 ≤ 1114111 ∧ (Lib.decodeN n b0 b1 b2 b3).2 ≤ n ∧ (Lib.decodeN n b0 b1 b2 b3).2 ≤ 4 ∧ (1 < (Lib.decodeN n b0 b1 b2 b3).2 → 128 ≤ b1) ∧ (2 < (Lib.decodeN n b0 b1 b2 b3).2 → 128 ≤ b2) ∧ (3 < (Lib.decodeN n b0 b1 b2 b3).2 → 128 ≤ b3) := by
 unfold Lib.decodeN
 rw [if_neg (by omega)]
 repeat' split
 all_goals (refine ⟨?_, ?_, ?_, ?_, ?_, ?_, ?_⟩ <;> simp only [] <;> omega)
theorem decO_low (s : ByteArray) (pos : Nat) (h : pos < s.size) (ha : (s.get! pos).toNat < 128) : Utf8.decode s pos = ((s.get! pos).toNat, 1) := by
 rw [Lib.decode_at]; unfold Lib.decodeN; rw [if_pos ha]
theorem noAny_high (s : ByteArray) (pos : Nat) (h : pos < s.size) (ha : 128 ≤ (s.get! pos).toNat) (hN : Lib.NoAny s.data.toList badL pos) :
 Lib.NoAny s.data.toList badL (pos + (Utf8.decode s pos).2) ∧ pos + (Utf8.decode s pos).2 ≤ s.size ∧ 128 ≤ (Utf8.decode s pos).1 ∧ (Utf8.decode s pos).1 ≤ 1114111 := by
 have hd := decO_high (s.size - pos) (s.get! pos).toNat (s.get! (pos + 1)).toNat (s.get! (pos + 2)).toNat (s.get! (pos + 3)).toNat ha (by omega) (UInt8.toNat_lt _) (UInt8.toNat_lt _) (UInt8.toNat_lt _) (UInt8.toNat_lt _)
 rw [← Lib.decode_at] at hd
 generalize (Utf8.decode s pos).1 = c at hd ⊢
 generalize (Utf8.decode s pos).2 = m at hd ⊢
 refine ⟨fun j b hj hb => ?_, by omega, hd.1, hd.2.1⟩
 by_cases hjp : j < pos
 · exact hN j b hjp hb
 · have hlt : j < s.size := by rw [Lib.size_eq]; exact (List.getElem?_eq_some_iff.1 hb).1
   rw [getO_toList s j hlt] at hb
   injection hb with hb
   subst hb
   apply badL_low
   have : j = pos ∨ j = pos + 1 ∨ j = pos + 2 ∨ j = pos + 3 := by omega
   rcases this with rfl | rfl | rfl | rfl
   · exact ha
   · exact hd.2.2.2.2.1 (by omega)
   · exact hd.2.2.2.2.2.1 (by omega)
   · exact hd.2.2.2.2.2.2 (by omega)
def AnyPost (s : ByteArray) (w : World) (e : Ending) (w' : World) : Prop := e = .returned (.int .i64 (Lib.indexAny s.data.toList badL)) ∧ Below w.heap.size w w'
set_option maxRecDepth 1000000 in
set_option maxHeartbeats 4000000 in
theorem indexAny_short (s : ByteArray) (w : World) (h8 : s.size ≤ 8) :
 Calls Tryz.prog 147 #[.string s, .string ⟨#[60, 62, 10, 0]⟩] w (AnyPost s w) := by
 have h8z : decide ((8 : Int) < (s.size : Int)) = false := decide_eq_false (by omega)
 go_enter Tryz.func147, Tryz.ntmps147
 go_wp2_with (go_at_call 155; refine (Tryz.strings_shouldUseASCIISet (s.size : Int) _).mono ?_; rintro e w' ⟨rfl, hw⟩; rw [hw, h8z])
 have hB0 : Below w.heap.size w (w.iter s 0) := (Below.refl _ _).alloc (Nat.le_refl _) _
 have hi0 : (w.iter s 0).heap[w.heap.size]? = some (.stringIter s 0) := heap_alloc_new w _
 generalize hkk : w.heap.size = kk at *
 generalize w.iter s 0 = w0 at *
 have HKK := Lib.hid hkk
 clear hkk
 go_loopw [9, 10] (fun _ _ wr => ∃ pos : Nat, wr.heap[kk]? = some (.stringIter s pos) ∧ Below kk w wr ∧ pos ≤ s.size ∧ Lib.NoAny s.data.toList badL pos) (fun _ _ wr => s.size - wr.iterPos kk)
 case atStart => exact ⟨0, hi0, hB0, by omega, Lib.NoAny.zero _ _⟩
 case round =>
  obtain ⟨pos, hit, hB, hps, hno⟩ := hrel
  clear hi0 hB0
  have HN := Lib.hid hno
  clear hno
  by_cases hp : pos < s.size
  · obtain ⟨r, hr⟩ : ∃ r, (Utf8.decode s pos).1 = r := ⟨_, rfl⟩
    obtain ⟨m, hm⟩ : ∃ m, (Utf8.decode s pos).2 = m := ⟨_, rfl⟩
    have hm1 : 1 ≤ m := by rw [← hm]; exact Lib.decode_width_pos s pos hp
    have hnx : ∀ ty, (Instr.next (.pointer (some ⟨kk, 0, none⟩)) true ty).run Tryz.prog wr = .ok (.tuple #[.bool true, .int .i64 pos, .int .i32 r]) (wr.iterAt kk s (pos + m)) := fun ty => by rw [Lib.run_next_any_at (P := Tryz.prog) wr kk s pos ty hit hp, hr, hm]
    have hit2 := Lib.iterAt_heap wr kk s pos (pos + m) hit
    have hB2 : Below kk w (wr.iterAt kk s (pos + m)) := Lib.below_iterAt hB (Nat.le_refl _) s (pos + m)
    have hkk : kk < (wr.iterAt kk s (pos + m)).heap.size := by
     rw [Lib.iterAt_size]
     exact (Array.getElem?_eq_some_iff.1 hit).1
    by_cases ha : (s.get! pos).toNat < 128
    · have hd := decO_low s pos hp ha
      rw [hd] at hr hm
      simp only [] at hr hm
      subst hr
      subst hm
      have hcr := idxRune_low (s.get! pos) (wr.iterAt kk s (pos + 1)) ha
      have hxl := getO_toList s pos hp
      have hcon := Lib.contains_iff_indexByte badL (s.get! pos)
      cases hin : badL.contains (s.get! pos)
      · rw [hin] at hcon
        have hlt : ¬ ((0 : Int) ≤ Lib.indexByte [60, 62, 10, 0] (s.get! pos)) := of_decide_eq_false hcon.symm
        have HS := Lib.hid (HN.out.succ hxl hin)
        clear hcon hxl hin hd
        go_wp2_with (go_at_call 154; refine hcr.mono ?_; rintro e w' ⟨rfl, rfl⟩)
        go_roundw
        case rel => exact ⟨pos + 1, hit2, hB2, by omega, HS.out⟩
        case measure =>
         rw [World.iterPos, World.iterPos, hit, hit2]
         simp
         omega
      · rw [hin] at hcon
        have hge : (0 : Int) ≤ Lib.indexByte [60, 62, 10, 0] (s.get! pos) := of_decide_eq_true hcon.symm
        have HS := Lib.hid (Lib.indexAny_hit HN.out hxl hin)
        clear hcon hxl hin hd
        go_wp2_with (go_at_call 154; refine hcr.mono ?_; rintro e w' ⟨rfl, rfl⟩)
        go_ret
        unfold AnyPost
        rw [HS.out]
        exact ⟨rfl, by rw [HKK.out]; exact hB2⟩
    · obtain ⟨g1, g2, g3, g4⟩ := noAny_high s pos hp (by omega) HN.out
      rw [hm] at g1 g2
      rw [hr] at g3 g4
      have HS := Lib.hid g1
      clear hr hm g1 ha
      have hcr := idxRune_high r (wr.iterAt kk s (pos + m)) g3 g4
      go_wp2_with (go_at_call 154; refine hcr.mono ?_; rintro e w' ⟨rfl, hb⟩)
      have hit3 : w'.heap[kk]? = some (.stringIter s (pos + m)) := (hb.block kk hkk).trans hit2
      have hB3 : Below kk w w' := hB2.trans (hb.mono (Nat.le_of_lt hkk))
      go_roundw
      case rel => exact ⟨pos + m, hit3, hB3, g2, HS.out⟩
      case measure =>
       rw [World.iterPos, World.iterPos, hit, hit3]
       simp
       omega
  · obtain rfl : pos = s.size := by omega
    have hnx : ∀ ty, (Instr.next (.pointer (some ⟨kk, 0, none⟩)) true ty).run Tryz.prog wr = _ := fun ty => Lib.run_next_end_at (P := Tryz.prog) wr kk s s.size ty hit hp
    have HS := Lib.hid (Lib.indexAny_none (by rw [← Lib.size_eq]; exact HN.out))
    go_wp2
    go_ret
    unfold AnyPost
    rw [HS.out]
    exact ⟨rfl, by rw [HKK.out]; exact hB⟩
end Go.Proofs.YtihanglnjghcfaaGreatDoor
namespace Go.Proofs.YtihanglnjghcfaaGreatDoor
open Go.RowKit
set_option linter.unusedVariables false
set_option linter.unusedSimpArgs false

def setO : Array Value := Lib.setCells badL
theorem setO_size : setO.size = 256 := Lib.setCells_size _
theorem setO_at (x : UInt8) : setO[x.toNat]? = some (.bool (badL.contains x)) := Lib.setCells_at _ x
theorem set_info : (Tryz.prog.info? 195).map (fun i => (i.zero, i.size)) = some (some (.agg (Array.replicate 256 (.bool false))), 256) := by kernel_rfl
theorem makeSet (w : World) : Calls Tryz.prog 138 #[.string ⟨#[60, 62, 10, 0]⟩] w fun e w' => e = .returned (.tuple #[.agg setO, .bool true]) ∧ w' = w.alloc (.cells setO 195) :=
 Tryz.strings_makeASCIISet (zero_of_info set_info).1 ⟨#[60, 62, 10, 0]⟩ w (by decide) (fun j b hb => by
  have : j = 0 ∨ j = 1 ∨ j = 2 ∨ j = 3 := by
   have := (List.getElem?_eq_some_iff.1 hb).1
   simp at this; omega
  rcases this with rfl | rfl | rfl | rfl <;> (simp at hb; subst hb; decide))
set_option maxRecDepth 1000000 in
set_option maxHeartbeats 4000000 in
theorem indexAny_long (s : ByteArray) (w : World) (h8 : 8 < s.size) (hs : s.size ≤ 140737488355328) :
 Calls Tryz.prog 147 #[.string s, .string ⟨#[60, 62, 10, 0]⟩] w (AnyPost s w) := by
 have h8z : decide ((8 : Int) < (s.size : Int)) = true := decide_eq_true (by omega)
 have HM := Lib.hid (fun w => makeSet w)
 have hsc : Lib.Kept ((storeCells ⟨w.heap.size + 1, 0, none⟩ setO.toList 0).run Tryz.prog ((w.alloc (.cells setO 195)).alloc (.cells Tryz.zeroCells195 195)) = .ok () ((w.alloc (.cells setO 195)).alloc (.cells setO 195))) := by
  have h := run_storeCells_new (P := Tryz.prog) (w.alloc (.cells setO 195)) 195 Tryz.zeroCells195 setO (by rw [setO_size]; exact (zero_of_info set_info).2) (by rw [setO_size]; kernel_rfl) (Lib.setCells_one _)
  rw [show (w.alloc (.cells setO 195)).heap.size = w.heap.size + 1 by simp] at h
  exact h
 have HSZ := Lib.hid setO_size
 have HAT := Lib.hid setO_at
 go_enter Tryz.func147, Tryz.ntmps147
 go_wp2_with (first
  | (go_at_call 155; refine (Tryz.strings_shouldUseASCIISet (s.size : Int) _).mono ?_; rintro e w' ⟨rfl, hw⟩; rw [hw, h8z])
  | (go_at_call 138; refine (HM.out _).mono ?_; rintro e w1 ⟨rfl, hw1⟩))
 have hsc' : (storeCells ⟨w.heap.size + 1, 0, none⟩ setO.toList 0).run Tryz.prog ((w.alloc (.cells setO 195)).alloc (.cells Tryz.zeroCells195 195)) = .ok () ((w.alloc (.cells setO 195)).alloc (.cells setO 195)) := hsc
 rw [hsc']
 simp only [Result.andThen]
 rw [Oper.upon_skip]
 clear hsc hsc'
 have hcl : ∀ x : UInt8, ((w.alloc (.cells setO 195)).alloc (.cells setO 195)).cell? ⟨w.heap.size + 1, x.toNat, none⟩ = some (.bool (badL.contains x)) := fun x => by
  rw [World.cell?_alloc_at _ _ _ _ (by simp)]; exact setO_at x
 have hbl : Below w.heap.size w ((w.alloc (.cells setO 195)).alloc (.cells setO 195)) := ((Below.refl _ _).alloc (Nat.le_refl _) _).alloc (by simp) _
 have HC := Lib.hid hcl
 have HB := Lib.hid hbl
 generalize (w.alloc (.cells setO 195)).alloc (.cells setO 195) = w0 at *
 generalize hgg : w.heap.size + 1 = gg at *
 clear hcl hbl HAT hgg
 go_wp2
 go_loopw [8] (fun v wr => ∃ i : Nat, i ≤ s.size ∧ v = .int .i64 (i : Int) ∧ wr = w0 ∧ Lib.NoAny s.data.toList badL i) (fun v _ => s.size - (intOf v).toNat)
 case atStart => exact ⟨0, by omega, rfl, rfl, Lib.NoAny.zero _ _⟩
 case round =>
  obtain ⟨i, hi, rfl, rfl, hno⟩ := hrel
  have HN := Lib.hid hno
  clear hno
  by_cases hlt : i < s.size
  · have d0 : decide ((i : Int) < (s.size : Int)) = true := decide_eq_true (by omega)
    have hxl : s.data.toList[i]? = some (s[i]'hlt) := Lib.data_getElem? s i hlt
    have hcx := Tryz.asciiSet_contains gg (s[i]'hlt) _ wr (HC.out (s[i]'hlt))
    cases hin : badL.contains (s[i]'hlt)
    · rw [hin] at hcx
      have HS := Lib.hid (HN.out.succ hxl hin)
      clear hxl hin
      go_wp2_with (go_at_call 148; refine hcx.mono ?_; rintro e w' ⟨rfl, rfl⟩)
      go_roundw
      case rel => exact ⟨i + 1, by omega, by go_num, by first | rfl | trivial, HS.out⟩
      case measure => simp [intOf]; omega
    · rw [hin] at hcx
      have HS := Lib.hid (Lib.indexAny_hit HN.out hxl hin)
      clear hxl hin
      go_wp2_with (go_at_call 148; refine hcx.mono ?_; rintro e w' ⟨rfl, rfl⟩)
      go_ret
      unfold AnyPost
      rw [HS.out]
      exact ⟨rfl, HB.out⟩
  · obtain rfl : i = s.size := by omega
    have d0 : decide ((s.size : Int) < (s.size : Int)) = false := decide_eq_false (by omega)
    have HS := Lib.hid (Lib.indexAny_none (by rw [← Lib.size_eq]; exact HN.out))
    go_wp2
    go_ret
    unfold AnyPost
    rw [HS.out]
    exact ⟨rfl, HB.out⟩
end Go.Proofs.YtihanglnjghcfaaGreatDoor
namespace Go.Proofs.YtihanglnjghcfaaGreatDoor
open Go.RowKit
set_option linter.unusedVariables false
set_option linter.unusedSimpArgs false

theorem indexAny_any (s : ByteArray) (w : World) (hs : s.size ≤ 140737488355328) :
 Calls Tryz.prog 147 #[.string s, .string ⟨#[60, 62, 10, 0]⟩] w (AnyPost s w) := by
 by_cases h : 8 < s.size
 · exact indexAny_long s w h hs
 · exact indexAny_short s w (by omega)
set_option maxRecDepth 100000 in
theorem containsAny_any (s : ByteArray) (w : World) (hs : s.size ≤ 140737488355328) :
 Calls Tryz.prog 131 #[.string s, .string ⟨#[60, 62, 10, 0]⟩] w fun e w' => e = .returned (.bool (Lib.containsAny s.data.toList badL)) ∧ Below w.heap.size w w' := by
 have H := Lib.hid (indexAny_any s w hs)
 unfold Lib.containsAny
 unfold AnyPost at H
 generalize Lib.indexAny s.data.toList badL = X at *
 go_enter Tryz.func131, Tryz.ntmps131
 go_wp2_with (go_at_call 147; refine H.out.mono ?_; rintro e w1 ⟨rfl, hb⟩)
 go_ret
 exact ⟨rfl, hb⟩
/-- A text of valid characters, none of them one of those. -/
def textB (l : List UInt8) : Bool := Lib.validD l && !Lib.containsAny l badL
set_option maxRecDepth 100000 in
theorem text_any (s : ByteArray) (w : World) (hE : EnvO w) (hs : s.size ≤ 140737488355328) :
 Calls Tryz.prog 114 #[.string s, .string ⟨#[60, 62, 10, 0]⟩] w fun e w' => e = .returned (.bool (textB s.data.toList)) ∧ Below w.heap.size w w' := by
 have hv := Any.utf8_ValidString Tryz.lays196 s w (by omega) hE.tabs
 have hv : Calls Tryz.prog 123 #[.string s] w fun e w' => e = .returned (.bool (Lib.validD s.data.toList)) ∧ Below w.heap.size w w' := hv
 have HC := Lib.hid (fun w => containsAny_any s w hs)
 unfold textB
 cases h1 : Lib.validD s.data.toList
 · rw [h1] at hv
   clear h1
   go_enter Tryz.func114, Tryz.ntmps114
   go_wp2_with (go_at_call 123; refine hv.mono ?_; rintro e w1 ⟨rfl, hb1⟩)
   go_ret
   exact ⟨rfl, hb1⟩
 · rw [h1] at hv
   clear h1
   generalize Lib.containsAny s.data.toList badL = X at *
   go_enter Tryz.func114, Tryz.ntmps114
   go_wp2_with (first
    | (go_at_call 131; have hx := hb1; refine (HC.out w1).mono ?_; rintro e w2 ⟨rfl, hb2⟩)
    | (go_at_call 123; refine hv.mono ?_; rintro e w1 ⟨rfl, hb1⟩))
   go_ret
   exact ⟨by simp, hb1.trans (hb2.mono hb1.size)⟩
theorem trim_any (s : ByteArray) (w : World) (hs : s.size ≤ 9223372036854775807) :
 Calls Tryz.prog 124 #[.string s, .string ⟨#[48, 49, 50, 51, 52, 53, 54, 55, 56, 57]⟩] w fun e w' => e = .returned (.string ⟨(Lib.trimS s.data.toList [48, 49, 50, 51, 52, 53, 54, 55, 56, 57]).toArray⟩) ∧ Below w.heap.size w w' :=
 Any.strings_Trim_laid Tryz.lays160 (by kernel_rfl) s ⟨#[48, 49, 50, 51, 52, 53, 54, 55, 56, 57]⟩ w hs (by decide) (fun j b hb => by
  have : j < 10 := by
   have := (List.getElem?_eq_some_iff.1 hb).1
   simpa using this
  have : b ∈ ([48, 49, 50, 51, 52, 53, 54, 55, 56, 57] : List UInt8) := List.mem_of_getElem? hb
  revert this
  generalize b = b
  intro hm
  simp only [List.mem_cons, List.not_mem_nil, or_false] at hm
  rcases hm with rfl | rfl | rfl | rfl | rfl | rfl | rfl | rfl | rfl | rfl <;> decide)
end Go.Proofs.YtihanglnjghcfaaGreatDoor
namespace Go.Proofs.YtihanglnjghcfaaGreatDoor
set_option linter.unusedVariables false

/-- A step of the decoder at a byte from 128 on: the rune is one too, and so are the bytes that it takes. -/
theorem decodeN_high (n b0 b1 b2 b3 : Nat) (h0 : 128 ≤ b0) (hn : 1 ≤ n) :
 128 ≤ (Lib.decodeN n b0 b1 b2 b3).1 ∧ (Lib.decodeN n b0 b1 b2 b3).2 ≤ n ∧ (Lib.decodeN n b0 b1 b2 b3).2 ≤ 4 ∧ (1 < (Lib.decodeN n b0 b1 b2 b3).2 → 128 ≤ b1) ∧ (2 < (Lib.decodeN n b0 b1 b2 b3).2 → 128 ≤ b2) ∧ (3 < (Lib.decodeN n b0 b1 b2 b3).2 → 128 ≤ b3) := by
 unfold Lib.decodeN
 rw [if_neg (by omega)]
 repeat' split
 all_goals (refine ⟨?_, ?_, ?_, ?_, ?_, ?_⟩ <;> simp only [] <;> omega)
section
variable (s : ByteArray)
theorem get_toList (i : Nat) (h : i < s.size) : s.data.toList[i]? = some (s.get! i) := by
 have hl : i < s.data.toList.length := by rw [← Lib.size_eq]; exact h
 have := Lib.getD_get!' s i
 rw [List.getD_eq_getElem?_getD, List.getElem?_eq_getElem hl] at this
 rw [List.getElem?_eq_getElem hl]
 simpa using this
end
end Go.Proofs.YtihanglnjghcfaaGreatDoor
namespace Go.Proofs.YtihanglnjghcfaaGreatDoor
open Go.RowKit
set_option linter.unusedVariables false
set_option linter.unusedSimpArgs false

/-- A text of valid characters, none of its bytes one of those. -/
def withoutB (l bad : List UInt8) : Bool := Lib.validD l && !Lib.containsAny l bad
end Go.Proofs.YtihanglnjghcfaaGreatDoor
