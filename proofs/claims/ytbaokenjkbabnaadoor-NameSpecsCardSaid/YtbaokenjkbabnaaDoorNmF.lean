/- strings.Cut at one byte, strings.Replace of one star, name.side; the document's Under. -/
import Derived.Test.YtbaokenjkbabnaaDoorNmE
import Derived.Test.YtbaokenjkbabnaaDoorNmS
namespace Go.Proofs.YtbaokenjkbabnaaDoor
open Go.RowKit
set_option linter.unusedVariables false

theorem index1_any (s : ByteArray) (c : UInt8) (w : World) : Calls Tryd.prog 50 #[.string s, .string ⟨#[c]⟩] w fun e w' => e = .returned (.int .i64 (Lib.indexByte s.data.toList c)) ∧ w = w' :=
  (Any.stringslite_Index_one (P := Tryd.prog) (ρ := Tryd.lays143_ren) { Tryd.lays143 with } s c w).mono fun _ _ ⟨a, b⟩ => ⟨a, b.symm⟩
set_option maxRecDepth 100000 in
set_option maxHeartbeats 1000000 in
theorem cut1_none (s : ByteArray) (c : UInt8) (w : World) (h : Lib.indexByte s.data.toList c = -1) :
    Calls Tryd.prog 21 #[.string s, .string ⟨#[c]⟩] w fun e w' => e = .returned (.tuple #[.string s, .string (mk []), .bool false]) ∧ Below w.heap.size w w' := by
  have hi := index1_any s c w
  rw [h] at hi
  have key : Calls Tryd.prog 37 #[.string s, .string ⟨#[c]⟩] w fun e w' => e = .returned (.tuple #[.string s, .string (mk []), .bool false]) ∧ Below w.heap.size w w' := by
    go_enter Tryd.func37, Tryd.ntmps37
    go_wp2_with (go_at_call 50; refine hi.mono ?_; rintro e w' ⟨rfl, rfl⟩)
    go_ret3
    exact ⟨rfl, Below.refl _ _⟩
  go_enter Tryd.func21, Tryd.ntmps21
  go_wp2_with (go_at_call 37; refine key.mono ?_; rintro e w' ⟨rfl, hb⟩)
  go_ret3
  exact ⟨rfl, hb⟩
set_option maxRecDepth 100000 in
set_option maxHeartbeats 1000000 in
theorem cut1_at (s : ByteArray) (c : UInt8) (w : World) (i : Nat) (h : Lib.indexByte s.data.toList c = i) (hl : i < s.size) (hs : s.size ≤ 140737488355328) :
    Calls Tryd.prog 21 #[.string s, .string ⟨#[c]⟩] w fun e w' => e = .returned (.tuple #[.string (mk (s.data.toList.take i)), .string (mk (s.data.toList.drop (i + 1))), .bool true]) ∧ Below w.heap.size w w' := by
  have hi := index1_any s c w
  rw [h] at hi
  have c0 : (0 : Int) ≤ (i : Int) := by omega
  have c1 : (i : Int) ≤ (s.size : Int) := by omega
  have c2 : (0 : Int) ≤ (i : Int) + 1 := by omega
  have c3 : (i : Int) + 1 ≤ (s.size : Int) := by omega
  have c4 : IntKind.i64.wrap ((i : Int) + 1) = (i : Int) + 1 := IntWalk.i64_in _ (by omega)
  have e1 := mk_ext0 s i
  have e2 := mk_extE s (i + 1)
  have key : Calls Tryd.prog 37 #[.string s, .string ⟨#[c]⟩] w fun e w' => e = .returned (.tuple #[.string (mk (s.data.toList.take i)), .string (mk (s.data.toList.drop (i + 1))), .bool true]) ∧ Below w.heap.size w w' := by
    rw [← e1, ← e2]
    clear e1 e2
    go_enter Tryd.func37, Tryd.ntmps37
    go_wp2_with (go_at_call 50; refine hi.mono ?_; rintro e w' ⟨rfl, rfl⟩)
    go_quiet (fail)
    go_wp2
    go_ret3
    exact ⟨rfl, Below.drewN (Below.refl _ _) _⟩
  clear e1 e2
  go_enter Tryd.func21, Tryd.ntmps21
  go_wp2_with (go_at_call 37; refine key.mono ?_; rintro e w' ⟨rfl, hb⟩)
  go_ret3
  exact ⟨rfl, hb⟩
set_option maxRecDepth 100000 in
set_option maxHeartbeats 1000000 in
theorem repl_none (s t : ByteArray) (w : World) (h : s.data.toList.count 42 = 0) :
    Calls Tryd.prog 24 #[.string s, .string ⟨#[42]⟩, .string t, .int .i64 1] w fun e w' => e = .returned (.string s) ∧ Below w.heap.size w w' := by
  have hc : Calls Tryd.prog 38 #[.string s, .string ⟨#[42]⟩] w fun e w' => e = .returned (.int .i64 0) ∧ w = w' := (Tryd.strings_Count_one s 42 w).mono fun _ _ ⟨a, b⟩ => ⟨by rw [a]; unfold Lib.countByte; rw [h]; rfl, b.symm⟩
  clear h
  by_cases he : (([42] : List UInt8) == t.toList) = true
  · go_enter Tryd.func24, Tryd.ntmps24
    go_wp2
    go_ret
    exact ⟨rfl, Below.refl _ _⟩
  · have he' : (([42] : List UInt8) == t.toList) = false := by simpa using he
    go_enter Tryd.func24, Tryd.ntmps24
    go_wp2_with (go_at_call 38; refine hc.mono ?_; rintro e w' ⟨rfl, rfl⟩)
    go_ret
    exact ⟨rfl, Below.refl _ _⟩
theorem bGrow (b n : Nat) (w : World) (hbk : w.heap[b]? = some (.cells #[.pointer none, .slice none 0 0] 57 (0, 0))) (hBw : b ≤ w.heap.size) (hn : n ≤ 281474976710656) :
    Calls Tryd.prog 40 #[.pointer (some ⟨b, 0, none⟩), .int .i64 n] w fun e w' => e = .returned (.tuple #[]) ∧ Lib.IsBuilder 57 5 b b (Lib.byteCells []) w' ∧ Below b w w' :=
  (Any.Builder_Grow_fresh (P := Tryd.prog) (ρ := Tryd.lays154_ren) { Tryd.lays154 with } Tryd.Builder_Extra_154 b b n w (Nat.le_refl _) hbk hBw hn).mono fun _ _ ⟨h1, h2, h3⟩ => ⟨h1, .inr h2, h3⟩
theorem bWrite (b : Nat) (l : List UInt8) (s : ByteArray) (w : World) (h : Lib.IsBuilder 57 5 b b (Lib.byteCells l) w) (hlen : l.length + s.size ≤ 140737488355328) (hBw : b ≤ w.heap.size) :
    Calls Tryd.prog 42 #[.pointer (some ⟨b, 0, none⟩), .string s] w fun e w' => e = .returned (.tuple #[.int .i64 s.size, .nilIface]) ∧ Lib.IsBuilder 57 5 b b (Lib.byteCells (l ++ s.data.toList)) w' ∧ Below b w w' :=
  (Any.Builder_WriteString (P := Tryd.prog) (ρ := Tryd.lays154_ren) { Tryd.lays154 with } Tryd.Builder_Extra_154 b b _ s w h (by rw [Lib.byteCells_length]; exact hlen) hBw).mono fun _ _ ⟨h1, h2, h3⟩ => ⟨h1, .inr (by rw [Lib.strCells_eq, ← Lib.byteCells_append] at h2; exact h2), h3⟩
theorem bStr (b : Nat) (l : List UInt8) (w : World) (h : Lib.IsBuilder 57 5 b b (Lib.byteCells l) w) (hBw : b ≤ w.heap.size) :
    Calls Tryd.prog 44 #[.pointer (some ⟨b, 0, none⟩)] w fun e w' => e = .returned (.string (mk l)) ∧ Below b w w' :=
  Any.Builder_String_any (P := Tryd.prog) (ρ := Tryd.lays154_ren) { Tryd.lays154 with } Tryd.Builder_Extra_154 b b l w h hBw
theorem subst_at {l : List UInt8} {i : Nat} (x : List UInt8) (h : Lib.indexByte l 42 = i) : subst l x = l.take i ++ x ++ l.drop (i + 1) := by
  unfold subst idx
  rw [h, Int.toNat_natCast]
theorem drop_take_at {l : List UInt8} {i : Nat} {c : UInt8} (h2 : i < l.length) (h3 : l[i]? = some c) : l.take i ++ [c] ++ l.drop (i + 1) = l := by
  conv => rhs; rw [← List.take_append_drop i l, List.drop_eq_getElem_cons h2, (List.getElem?_eq_some_iff.1 h3).2]
  simp
set_option maxRecDepth 1000000 in
set_option maxHeartbeats 4000000 in
theorem repl_one (s t : ByteArray) (w : World) (h : s.data.toList.count 42 = 1) (hlen : s.size + t.size ≤ 140737488355328) :
    Calls Tryd.prog 24 #[.string s, .string ⟨#[42]⟩, .string t, .int .i64 1] w fun e w' => e = .returned (.string (mk (subst s.data.toList t.data.toList))) ∧ Below w.heap.size w w' := by
  have hc : Calls Tryd.prog 38 #[.string s, .string ⟨#[42]⟩] w fun e w' => e = .returned (.int .i64 1) ∧ w = w' := (Tryd.strings_Count_one s 42 w).mono fun _ _ ⟨a, b⟩ => ⟨by rw [a]; unfold Lib.countByte; rw [h]; rfl, b.symm⟩
  rcases idx_cases 42 s.data.toList with ⟨h1, h2⟩ | ⟨i, h1, h2, h3, h4⟩
  · rw [List.count_eq_zero.2 h2] at h; omega
  have hsub := subst_at t.data.toList h1
  rw [hsub]
  have hil : i < s.size := by rw [Lib.size_eq]; exact h2
  by_cases he : (([42] : List UInt8) == t.toList) = true
  · have htl : t.data.toList = [42] := by rw [Lib.toList_data, beq_iff_eq] at he; exact he.symm
    rw [htl, drop_take_at h2 h3, mk_of]
    clear hsub htl h
    go_enter Tryd.func24, Tryd.ntmps24
    go_wp2
    go_ret
    exact ⟨rfl, Below.refl _ _⟩
  · have he' : (([42] : List UInt8) == t.toList) = false := by simpa using he
    have hga : IntKind.i64.wrap ((s.size : Int) + ((t.size : Int) - 1)) = (s.size : Int) + ((t.size : Int) - 1) := IntWalk.i64_in _ (by omega)
    obtain ⟨G, hG⟩ : ∃ G : Nat, (s.size : Int) + ((t.size : Int) - 1) = (G : Int) := ⟨s.size + t.size - 1, by omega⟩
    have hGb : G ≤ 140737488355328 := by omega
    have hix : Calls Tryd.prog 41 #[.string s, .string ⟨#[42]⟩] w fun e w' => e = .returned (.int .i64 i) ∧ w = w' := (Tryd.strings_Index_one s 42 w).mono fun _ _ ⟨a, b⟩ => ⟨by rw [a, h1], b.symm⟩
    have hix : ∀ w', Calls Tryd.prog 41 #[.string s, .string ⟨#[42]⟩] w' fun e w'' => e = .returned (.int .i64 i) ∧ w' = w'' := fun w' => (Tryd.strings_Index_one s 42 w').mono fun _ _ ⟨a, b⟩ => ⟨by rw [a, h1], b.symm⟩
    have HIX := Lib.hid hix
    have HG := Lib.hid hG
    clear h hsub he hix h1 h3 h4 hG
    go_enter Tryd.func24, Tryd.ntmps24
    go_wp2_with (go_at_call 38; refine hc.mono ?_; rintro e w' ⟨rfl, rfl⟩)
    rw [HG.out]
    refine (bGrow w.heap.size G _ (heap_alloc_new w _) (by simp) (by omega)).mono ?_
    rintro e w1 ⟨rfl, hb1, hl1⟩
    have HB1 := Lib.hid hb1
    have hB1 : Below w.heap.size w w1 := ((Below.refl w.heap.size w).alloc (Nat.le_refl _) _).trans hl1
    clear hb1 hl1 hga hc HG
    have c0 : (0 : Int) ≤ (i : Int) := by omega
    have c1 : (i : Int) ≤ (s.size : Int) := by omega
    have c4 : IntKind.i64.wrap ((i : Int) + 1) = (i : Int) + 1 := IntWalk.i64_in _ (by omega)
    go_wp2_with fail
    go_loopg [11, 53] 1 (fun g a b wx => ∃ acc : List UInt8, Hid (Lib.IsBuilder 57 5 w.heap.size w.heap.size (Lib.byteCells acc) wx) ∧ Below w.heap.size w wx ∧ Hid ((g = 1 ∧ a = .int .i64 0 ∧ b = .int .i64 0 ∧ acc = []) ∨ (g = 0 ∧ a = .int .i64 ((i + 1 : Nat) : Int) ∧ b = .int .i64 1 ∧ acc = s.data.toList.take i ++ t.data.toList)))
    case atStart => exact ⟨[], HB1.out, hB1, .inl ⟨rfl, rfl, rfl, rfl⟩⟩
    case round =>
      obtain ⟨acc, HB, hB, hcase⟩ := hrel
      rcases hcase.out with ⟨rfl, rfl, rfl, rfl⟩ | ⟨rfl, rfl, rfl, rfl⟩
      · clear hcase
        have hw0 := hB.size
        go_wp2_with (go_at_call 41; refine (HIX.out _).mono ?_; rintro e w' ⟨rfl, rfl⟩)
        have z1 : (s.extract 0 i).data.toList = s.data.toList.take i := Lib.extract_from_zero s i
        have z2 : (s.extract 0 i).size = i := by rw [Lib.size_eq, z1, List.length_take]; omega
        refine (bWrite w.heap.size [] (s.extract 0 i) wr HB.out (by rw [z2]; simp; omega) hw0).mono ?_
        rintro e w3 ⟨rfl, h3, hb3⟩
        rw [z1, List.nil_append] at h3
        have H3 := Lib.hid h3
        have hB3 := hB.trans hb3
        clear h3 hb3 HB hB z1 z2 hw0
        have hw3 := hB3.size
        go_wp2_with fail
        refine (bWrite w.heap.size (s.data.toList.take i) t w3 H3.out (by rw [List.length_take]; omega) hw3).mono ?_
        rintro e w4 ⟨rfl, h4, hb4⟩
        have H4 := Lib.hid h4
        have hB4 := hB3.trans hb4
        clear h4 hb4 H3 hB3 hw3
        go_wp2
        go_roundg 0
        case measure => omega
        case rel => exact ⟨_, H4, hB4, .inr ⟨rfl, by go_num, by go_num, rfl⟩⟩
      · clear hcase
        have hw0 := hB.size
        have p0 : (0 : Int) ≤ ((i + 1 : Nat) : Int) := by omega
        have p1 : ((i + 1 : Nat) : Int) ≤ (s.size : Int) := by omega
        have z1 : (s.extract (i + 1) s.size).data.toList = s.data.toList.drop (i + 1) := Lib.ext_list s (i + 1)
        have z2 : (s.extract (i + 1) s.size).size = s.size - (i + 1) := Lib.ext_size s (i + 1)
        go_wp2_with fail
        refine (bWrite w.heap.size (s.data.toList.take i ++ t.data.toList) (s.extract (i + 1) s.size) wr HB.out (by rw [z2, List.length_append, List.length_take, ← Lib.size_eq, ← Lib.size_eq]; omega) hw0).mono ?_
        rintro e w3 ⟨rfl, h3, hb3⟩
        rw [z1] at h3
        have H3 := Lib.hid h3
        have hB3 := hB.trans hb3
        clear h3 hb3 HB hB z1 z2 hw0
        have hw3 := hB3.size
        go_wp2_with fail
        refine (bStr w.heap.size _ w3 H3.out hw3).mono ?_
        rintro e w5 ⟨rfl, hb5⟩
        have hB5 := hB3.trans hb5
        clear hb5 H3 hB3 hw3
        go_wp2
        go_ret
        refine ⟨?_, hB5⟩
        rw [List.append_assoc]
        rfl
end Go.Proofs.YtbaokenjkbabnaaDoor
