/- The document's line. -/
import Derived.Test.YtdlabapfcghfmaaGreatDoorRgC
import Derived.Test.YtdlabapfcghfmaaGreatDoorRgD
import Derived.Test.YtdlabapfcghfmaaGreatDoorObK
import Derived.Test.YtdlabapfcghfmaaGreatDoorRgE
import Derived.Test.YtdlabapfcghfmaaGreatDoorRgF
import Derived.Laws.StructEq
import Derived.Test.YtdlabapfcghfmaaGreatDoorRelT
namespace Go.Proofs.YtdlabapfcghfmaaGreatDoor
open Go.RowKit
set_option linter.unusedVariables false
set_option linter.unusedSimpArgs false

def LinePost (s : ByteArray) (nm : List UInt8) (w : World) (e : Ending) (w' : World) : Prop :=
  ∃ (x : ByteArray) (b : Bool) (s' : ByteArray), e = .returned (.tuple #[.string x, .string s', .bool b]) ∧ FieldR nm s x b s' ∧ Below w.heap.size w w'
set_option maxRecDepth 100000 in
set_option maxHeartbeats 2000000 in
theorem line_any (s : ByteArray) (nm : List UInt8) (w : World) (hs : s.size ≤ 140737488351300) (hn : nm.length ≤ 100) (h10 : (10 : UInt8) ∉ nm) :
    Calls Tryz.prog 87 #[.string s, .string (bk nm)] w (LinePost s nm w) := by
  have HU := Lib.hid (upto_any s 10 w (by omega))
  have HPO : Hid (∀ e w', LinePost s nm w e w' = (∃ (x : ByteArray) (b : Bool) (s' : ByteArray), e = .returned (.tuple #[.string x, .string s', .bool b]) ∧ FieldR nm s x b s' ∧ Below w.heap.size w w')) := Lib.hid (fun _ _ => rfl)
  have z0 : (bk nm ++ (⟨#[32]⟩ : ByteArray)).size = (bk nm).size + 1 := by rw [ByteArray.size_append]; rfl
  have z1 : (bk nm).size = nm.length := bk_size nm
  have HPT : Hid ((bk nm ++ (⟨#[32]⟩ : ByteArray)).toList = nm ++ [32]) := Lib.hid (by rw [Lib.toList_data, ByteArray.data_append, Array.toList_append, bk_list])
  generalize LinePost s nm w = POST at *
  go_enter Tryz.func87, Tryz.ntmps87
  go_wp2_with fail
  refine HU.out.mono ?_
  rintro e w1 ⟨hb, ⟨hno, rfl⟩ | ⟨i, hi, hx, hno, rfl⟩⟩
  · have HB := Lib.hid hb
    have HF : Hid (FieldR nm s ⟨#[]⟩ false s) := Lib.hid (.inr ⟨rfl, fieldL_no nm _ hno, rfl⟩)
    clear hb hno
    go_wp2
    go_ret3
    rw [HPO.out]
    exact ⟨_, _, _, rfl, HF.out, HB.out⟩
  · have HB := Lib.hid hb
    have hfl := fieldL_line nm s.data.toList h10 i hx hno
    have e1 : (s.extract 0 i).data.toList = s.data.toList.take i := by rw [bk_ext0, bk_list]
    have e2 : (s.extract (i + 1) s.size).data.toList = s.data.toList.drop (i + 1) := by rw [bk_extE, bk_list]
    have zl : (s.extract 0 i).size = i := by rw [bk_ext0, bk_size, List.length_take, ← Lib.size_eq]; omega
    by_cases hle : nm.length + 1 ≤ i
    · have d1 : decide ((i : Int) < (nm.length : Int) + 1) = false := decide_eq_false (by omega)
      have d1' : decide (i < nm.length + 1) = false := decide_eq_false (by omega)
      have c2 : (nm.length : Int) + 1 ≤ (i : Int) := by omega
      by_cases hp : (s.data.toList.take i).take (nm.length + 1) = nm ++ [32]
      · have HF : Hid (FieldR nm s ((s.extract 0 i).extract (nm.length + 1) i) true (s.extract (i + 1) s.size)) := Lib.hid (.inl ⟨rfl, by
          rw [hfl, if_pos ⟨hle, hp⟩, e2, bk_ext, bk_list, e1, List.take_take, Nat.min_self]⟩)
        have q1 : (((s.extract 0 i).extract 0 (nm.length + 1)).toList == (bk nm ++ (⟨#[32]⟩ : ByteArray)).toList) = true := by
          rw [HPT.out, Lib.toList_data, bk_ext0, bk_list, e1, beq_iff_eq]; exact hp
        have q2 : (!((s.extract 0 i).extract 0 (nm.length + 1)).toList == (bk nm ++ (⟨#[32]⟩ : ByteArray)).toList) = false := by rw [q1]; rfl
        clear hb hfl e1 e2 hx hno hp hle
        go_wp2
        go_ret3
        rw [HPO.out]
        exact ⟨_, _, _, rfl, HF.out, HB.out⟩
      · have HF : Hid (FieldR nm s ⟨#[]⟩ false s) := Lib.hid (.inr ⟨rfl, by rw [hfl, if_neg (fun h => hp h.2)], rfl⟩)
        have q1 : (((s.extract 0 i).extract 0 (nm.length + 1)).toList == (bk nm ++ (⟨#[32]⟩ : ByteArray)).toList) = false := by
          rw [HPT.out, Lib.toList_data, bk_ext0, bk_list, e1, beq_eq_false_iff_ne]; exact hp
        have q2 : (!((s.extract 0 i).extract 0 (nm.length + 1)).toList == (bk nm ++ (⟨#[32]⟩ : ByteArray)).toList) = true := by rw [q1]; rfl
        clear hb hfl e1 e2 hx hno hp hle
        go_wp2
        go_ret3
        rw [HPO.out]
        exact ⟨_, _, _, rfl, HF.out, HB.out⟩
    · have d1 : decide ((i : Int) < (nm.length : Int) + 1) = true := decide_eq_true (by omega)
      have d1' : decide (i < nm.length + 1) = true := decide_eq_true (by omega)
      have HF : Hid (FieldR nm s ⟨#[]⟩ false s) := Lib.hid (.inr ⟨rfl, by rw [hfl, if_neg (fun h => hle h.1)], rfl⟩)
      clear hb hfl e1 e2 hx hno hle
      go_wp2
      go_ret3
      rw [HPO.out]
      exact ⟨_, _, _, rfl, HF.out, HB.out⟩
end Go.Proofs.YtdlabapfcghfmaaGreatDoor
namespace Go.Proofs.YtdlabapfcghfmaaGreatDoor
open Go.RowKit
set_option linter.unusedVariables false
set_option linter.unusedSimpArgs false

theorem low_take {l : List UInt8} {k : Nat} {b : UInt8} (h : l[k]? = some b) : (l.map lowU).take (k + 1) = (l.map lowU).take k ++ [lowU b] := by
  rw [List.take_add_one, List.getElem?_map, h]; rfl
theorem bytesBk_snoc (l : List UInt8) (b : UInt8) : (bytesOf (bk (l ++ [b]))).map (Value.int .u8) = (bytesOf (bk l)).map (Value.int .u8) ++ [.int .u8 (b.toNat : Int)] := by
  unfold bytesOf
  rw [bk_list, bk_list, List.map_append, List.map_append]
  rfl
set_option maxRecDepth 100000 in
set_option maxHeartbeats 2000000 in
theorem small_any (s : ByteArray) (w : World) (hs : s.size ≤ 140737488351300) : Calls Tryz.prog 111 #[.string s] w fun e w' => e = .returned (.string (bk (s.data.toList.map lowU))) ∧ Below w.heap.size w w' := by
  obtain ⟨i0, hi, hz0, hz1, hz2⟩ := info_parts Tryz.info_u8
  have HRES : Hid (bk (s.data.toList.map lowU) = bk (s.data.toList.map lowU)) := rfl
  generalize hR : bk (s.data.toList.map lowU) = R at *
  have HR := Lib.hid hR
  clear hR HRES
  go_enter Tryz.func111, Tryz.ntmps111
  go_wp2
  go_loopw [4, 3] (fun vi vo wr => ∃ (k : Nat) (v : Value), vi = .int .i64 k ∧ v = vo ∧ k ≤ s.size ∧ OwnS wr w.heap.size 5 1 v k ((bytesOf (bk ((s.data.toList.map lowU).take k))).map (Value.int .u8)) ∧ Below w.heap.size w wr) (fun vi _ _ => s.size - (intOf vi).toNat)
  case atStart => exact ⟨0, _, rfl, rfl, Nat.zero_le _, OwnS.nil _ _ _ _, Below.refl _ _⟩
  case round =>
    obtain ⟨k, v, rfl, rfl, hk, ho, hb⟩ := hrel
    obtain ⟨Av, cv, rfl⟩ := ho.shape
    by_cases hlt : k < s.size
    · have hx := Lib.data_getElem? s k hlt
      have d0 : decide ((k : Int) < (s.size : Int)) = true := decide_eq_true (by omega)
      have d0' : decide (k < s.size) = true := decide_eq_true hlt
      have HLT := Lib.hid (low_take hx)
      have HV := Lib.hid (lowU_val (s[k]'hlt))
      have HB := Lib.hid hb
      have hmax : k + 1 ≤ maxLen := by unfold maxLen; omega
      have hbyte : (k + 1) * 1 ≤ 140737488355328 := by omega
      have HO := Lib.hid ho
      have HOA := Lib.hid (fun z : Int => ho.alloc (.cells #[.int .u8 z] 5))
      have HBA := Lib.hid (fun z : Int => hb.trans (((Below.refl wr.heap.size wr).alloc (Nat.le_refl _) (.cells #[.int .u8 z] 5)).mono hb.size))
      clear hx ho hb
      by_cases h1 : 65 ≤ (s[k]'hlt).toNat
      · have q1 : decide (((s[k]'hlt).toNat : Int) < 65) = false := decide_eq_false (by omega)
        have q1' : decide (65 ≤ ((s[k]'hlt).toNat : Int)) = true := decide_eq_true (by omega)
        by_cases h2 : (s[k]'hlt).toNat ≤ 90
        · have q2 : decide (90 < ((s[k]'hlt).toNat : Int)) = false := decide_eq_false (by omega)
          have q2' : decide (((s[k]'hlt).toNat : Int) ≤ 90) = true := decide_eq_true (by omega)
          have hw8 : IntKind.u8.wrap (((s[k]'hlt).toNat : Int) + 32) = ((s[k]'hlt).toNat : Int) + 32 := by
            have := (s[k]'hlt).toNat_lt
            rw [show IntKind.u8.wrap (((s[k]'hlt).toNat : Int) + 32) = (((s[k]'hlt).toNat : Int) + 32) % 256 from rfl]
            omega
          have HW : Hid (((lowU (s[k]'hlt)).toNat : Int) = ((s[k]'hlt).toNat : Int) + 32) := Lib.hid (by rw [HV.out, if_pos ⟨h1, h2⟩])
          have HO2 := Lib.hid (HOA.out (((s[k]'hlt).toNat : Int) + 32))
          have HB2 := Lib.hid (HBA.out (((s[k]'hlt).toNat : Int) + 32))
          clear h1 h2 HOA HBA HV
          go_wp2_with (at_builtin; go_loud (refine wpList_append_S rfl (.tmp 23) (.tmp 25) 24 24 rfl i0 (.int .u8 0) 1 (.slice 5) Tryz.underlying24 Tryz.underlying24 (fun _ h => by cases h) hi hz0 hz1 hz2 rfl rfl rfl HO2.out (Src.new (us := [.int .u8 (((s[k]'hlt).toNat : Int) + 32)]) rfl (by simp [Value.oneCell'])) hmax hbyte HB2.out.size ?_; intro A9 c9 w9 ho9 hg9 hw9))
          have HO9 : Hid (OwnS w9 w.heap.size 5 1 (.slice A9 (k + 1) c9) (k + 1) ((bytesOf (bk ((s.data.toList.map lowU).take (k + 1)))).map (Value.int .u8))) := Lib.hid (by
            rw [HLT.out, bytesBk_snoc, HW.out]
            exact ho9)
          have HB9 := Lib.hid (HB2.out.grown hg9 HB2.out.size (fun j hj => (HO2.out.lt j hj).1))
          clear ho9 hg9 hw9
          go_roundw
          case rel => exact ⟨k + 1, _, rfl, rfl, by omega, HO9.out, HB9.out⟩
          case measure => simp [intOf]; omega
        · have q2 : decide (90 < ((s[k]'hlt).toNat : Int)) = true := decide_eq_true (by omega)
          have q2' : decide (((s[k]'hlt).toNat : Int) ≤ 90) = false := decide_eq_false (by omega)
          have HW : Hid (((lowU (s[k]'hlt)).toNat : Int) = ((s[k]'hlt).toNat : Int)) := Lib.hid (by rw [HV.out, if_neg (fun h => h2 h.2)])
          have HO2 := Lib.hid (HOA.out (((s[k]'hlt).toNat : Int)))
          have HB2 := Lib.hid (HBA.out (((s[k]'hlt).toNat : Int)))
          clear h1 h2 HOA HBA HV
          go_wp2_with (at_builtin; go_loud (refine wpList_append_S rfl (.tmp 23) (.tmp 25) 24 24 rfl i0 (.int .u8 0) 1 (.slice 5) Tryz.underlying24 Tryz.underlying24 (fun _ h => by cases h) hi hz0 hz1 hz2 rfl rfl rfl HO2.out (Src.new (us := [.int .u8 (((s[k]'hlt).toNat : Int))]) rfl (by simp [Value.oneCell'])) hmax hbyte HB2.out.size ?_; intro A9 c9 w9 ho9 hg9 hw9))
          have HO9 : Hid (OwnS w9 w.heap.size 5 1 (.slice A9 (k + 1) c9) (k + 1) ((bytesOf (bk ((s.data.toList.map lowU).take (k + 1)))).map (Value.int .u8))) := Lib.hid (by
            rw [HLT.out, bytesBk_snoc, HW.out]
            exact ho9)
          have HB9 := Lib.hid (HB2.out.grown hg9 HB2.out.size (fun j hj => (HO2.out.lt j hj).1))
          clear ho9 hg9 hw9
          go_roundw
          case rel => exact ⟨k + 1, _, rfl, rfl, by omega, HO9.out, HB9.out⟩
          case measure => simp [intOf]; omega
      · have q1 : decide (((s[k]'hlt).toNat : Int) < 65) = true := decide_eq_true (by omega)
        have q1' : decide (65 ≤ ((s[k]'hlt).toNat : Int)) = false := decide_eq_false (by omega)
        have HW : Hid (((lowU (s[k]'hlt)).toNat : Int) = ((s[k]'hlt).toNat : Int)) := Lib.hid (by rw [HV.out, if_neg (fun h => h1 h.1)])
        have HO2 := Lib.hid (HOA.out (((s[k]'hlt).toNat : Int)))
        have HB2 := Lib.hid (HBA.out (((s[k]'hlt).toNat : Int)))
        clear h1 HOA HBA HV
        go_wp2_with (at_builtin; go_loud (refine wpList_append_S rfl (.tmp 23) (.tmp 25) 24 24 rfl i0 (.int .u8 0) 1 (.slice 5) Tryz.underlying24 Tryz.underlying24 (fun _ h => by cases h) hi hz0 hz1 hz2 rfl rfl rfl HO2.out (Src.new (us := [.int .u8 (((s[k]'hlt).toNat : Int))]) rfl (by simp [Value.oneCell'])) hmax hbyte HB2.out.size ?_; intro A9 c9 w9 ho9 hg9 hw9))
        have HO9 : Hid (OwnS w9 w.heap.size 5 1 (.slice A9 (k + 1) c9) (k + 1) ((bytesOf (bk ((s.data.toList.map lowU).take (k + 1)))).map (Value.int .u8))) := Lib.hid (by
          rw [HLT.out, bytesBk_snoc, HW.out]
          exact ho9)
        have HB9 := Lib.hid (HB2.out.grown hg9 HB2.out.size (fun j hj => (HO2.out.lt j hj).1))
        clear ho9 hg9 hw9
        go_roundw
        case rel => exact ⟨k + 1, _, rfl, rfl, by omega, HO9.out, HB9.out⟩
        case measure => simp [intOf]; omega
    · obtain rfl : k = s.size := by omega
      have d0 : decide ((s.size : Int) < (s.size : Int)) = false := decide_eq_false (by omega)
      have d0' : decide (s.size < s.size) = false := decide_eq_false (by omega)
      have hln : (s.data.toList.map lowU).length = s.size := by rw [List.length_map, ← Lib.size_eq]
      have hta : (s.data.toList.map lowU).take s.size = s.data.toList.map lowU := List.take_of_length_le (by omega)
      rw [hta] at ho
      have hcv := run_strU Av s.size cv (s.data.toList.map lowU) wr ho.ints hln
      rw [HR.out] at hcv
      have HB := Lib.hid hb
      clear ho hb hta hln
      go_wp2
      go_ret
      exact ⟨rfl, HB.out⟩
theorem mode_tl (s : ByteArray) : s.toList = s.data.toList := Lib.toList_data s
set_option maxRecDepth 100000 in
theorem mode_any (s : ByteArray) (w : World) : Calls Tryz.prog 83 #[.string s] w fun e w' => e = .returned (.bool (modeB s.data.toList)) ∧ w' = w := by
  unfold modeB
  have HT := Lib.hid (mode_tl s)
  generalize hl : s.data.toList = l at *
  rw [← HT.out]
  clear hl HT
  cases h1 : (s.toList == [49, 48, 48, 54, 52, 52])
  · cases h2 : (s.toList == [49, 48, 48, 55, 53, 53])
    · cases h3 : (s.toList == [49, 50, 48, 48, 48, 48])
      · cases h4 : (s.toList == [52, 48, 48, 48, 48])
        · go_enter Tryz.func83, Tryz.ntmps83
          go_wp2
          go_ret
          exact ⟨rfl, rfl⟩
        · go_enter Tryz.func83, Tryz.ntmps83
          go_wp2
          go_ret
          exact ⟨rfl, rfl⟩
      · go_enter Tryz.func83, Tryz.ntmps83
        go_wp2
        go_ret
        exact ⟨rfl, rfl⟩
    · go_enter Tryz.func83, Tryz.ntmps83
      go_wp2
      go_ret
      exact ⟨rfl, rfl⟩
  · go_enter Tryz.func83, Tryz.ntmps83
    go_wp2
    go_ret
    exact ⟨rfl, rfl⟩
/-- The document's way to say whether a name may be. -/
theorem partU_doc (l : List UInt8) : partU l = (!(l == []) && (!(l == [46]) && (!(l == [46, 46]) && (!(l.map lowU == [46, 103, 105, 116]) && withoutB l [47, 0])))) := by
  unfold partU withoutB
  rw [containsAny_any']
  have : (l.any fun b => slashQ b.toNat) = l.any fun x => [(47 : UInt8), 0].contains x := by
    congr 1
    funext b
    unfold slashQ
    simp only [List.contains_cons, List.contains_nil, Bool.or_false]
    rw [Bool.eq_iff_iff]
    simp only [Bool.or_eq_true, beq_iff_eq]
    constructor
    · rintro (h | h)
      · left; exact UInt8.toNat_inj.1 h
      · right; exact UInt8.toNat_inj.1 h
    · rintro (h | h)
      · left; rw [h]; rfl
      · right; rw [h]; rfl
  rw [this]
  cases (l.any fun x => [(47 : UInt8), 0].contains x) <;> cases (Lib.validD l) <;> cases (l == []) <;> cases (l == [46]) <;> cases (l == [46, 46]) <;> cases (l.map lowU == [46, 103, 105, 116]) <;> rfl
set_option maxRecDepth 100000 in
theorem part_any (s : ByteArray) (w : World) (hs : s.size ≤ 140737488351300) : Calls Tryz.prog 84 #[.string s] w fun e w' => e = .returned (.bool (partU s.data.toList)) ∧ Below w.heap.size w w' := by
  have HS := Lib.hid (fun w => small_any s w hs)
  have HW := Lib.hid (fun w => without_any s ⟨#[47, 0]⟩ w (by omega) (by decide))
  change Hid (∀ w, Calls Tryz.prog 90 #[.string s, .string ⟨#[47, 0]⟩] w fun e w' => e = .returned (.bool (withoutB s.data.toList [47, 0])) ∧ Below w.heap.size w w') at HW
  rw [partU_doc]
  have HT := Lib.hid (mode_tl s)
  have hsl : (bk (s.data.toList.map lowU)).toList = s.data.toList.map lowU := by rw [Lib.toList_data, bk_list]
  rw [← hsl]
  generalize bk (s.data.toList.map lowU) = SM at *
  generalize withoutB s.data.toList [47, 0] = WB at *
  rw [← HT.out]
  clear hsl HT
  cases h1 : (s.toList == [])
  · cases h2 : (s.toList == [46])
    · cases h3 : (s.toList == [46, 46])
      · cases h4 : (SM.toList == [46, 103, 105, 116])
        · go_enter Tryz.func84, Tryz.ntmps84
          go_wp2_with (first
            | (have hx := hb1; go_at_call 90; refine (HW.out w1).mono ?_; rintro e w2 ⟨rfl, hb2⟩)
            | (go_at_call 111; refine (HS.out w).mono ?_; rintro e w1 ⟨rfl, hb1⟩))
          go_ret
          exact ⟨by simp, hb1.trans (hb2.mono hb1.size)⟩
        · go_enter Tryz.func84, Tryz.ntmps84
          go_wp2_with (go_at_call 111; refine (HS.out w).mono ?_; rintro e w1 ⟨rfl, hb1⟩)
          go_ret
          exact ⟨rfl, hb1⟩
      · go_enter Tryz.func84, Tryz.ntmps84
        go_wp2
        go_ret
        exact ⟨rfl, Below.refl _ _⟩
    · go_enter Tryz.func84, Tryz.ntmps84
      go_wp2
      go_ret
      exact ⟨rfl, Below.refl _ _⟩
  · go_enter Tryz.func84, Tryz.ntmps84
    go_wp2
    go_ret
    exact ⟨rfl, Below.refl _ _⟩
end Go.Proofs.YtdlabapfcghfmaaGreatDoor
namespace Go.Proofs.YtdlabapfcghfmaaGreatDoor
open Go.RowKit
set_option linter.unusedVariables false
set_option linter.unusedSimpArgs false

theorem getD_some {vs : Array Value} {j : Nat} (hj : j < vs.size) : vs[j]? = some (vs.getD j undef) := by
  simp [hj]
/-- Cells of the document's object. -/
def zeroV : Array Value := #[.int .i64 0, .string ⟨#[]⟩, .slice none 0 0, .string ⟨#[]⟩, .slice none 0 0, .string ⟨#[]⟩, .string ⟨#[]⟩, .string ⟨#[]⟩, .string ⟨#[]⟩, .int .i64 0, .string ⟨#[]⟩, .string ⟨#[]⟩]
def comV (t : ByteArray) (vP : Value) (a c m : ByteArray) : Array Value := #[.int .i64 1, .string ⟨#[]⟩, .slice none 0 0, .string t, vP, .string a, .string c, .string ⟨#[]⟩, .string ⟨#[]⟩, .int .i64 0, .string ⟨#[]⟩, .string m]
def tagV (o n : ByteArray) (ty : Int) (g m : ByteArray) : Array Value := #[.int .i64 4, .string ⟨#[]⟩, .slice none 0 0, .string ⟨#[]⟩, .slice none 0 0, .string ⟨#[]⟩, .string ⟨#[]⟩, .string o, .string n, .int .i64 ty, .string g, .string m]
def treV (k : Int) (d : ByteArray) (vL : Value) : Array Value := #[.int .i64 k, .string d, vL, .string ⟨#[]⟩, .slice none 0 0, .string ⟨#[]⟩, .string ⟨#[]⟩, .string ⟨#[]⟩, .string ⟨#[]⟩, .int .i64 0, .string ⟨#[]⟩, .string ⟨#[]⟩]
theorem info_o8 : (Tryz.prog.info? 50).map (·.size) = some 12 := by kernel_rfl
def CelV (w : World) (g : Nat) (V : Array Value) : Prop := Cel w g 50 12 (fun j => V.getD j undef)
theorem CelV.new (w : World) (V : Array Value) (hV : V.size = 12) : CelV (w.alloc (.cells V 50)) w.heap.size V := by
  have h := Cel.new w 50 V (fun j => V.getD j undef) (fun i hi => getD_some hi)
  rw [hV] at h
  exact h
theorem CelV.stored {w : World} {g : Nat} {V : Array Value} {f : Nat → Value} (hs : V.size = 12) (h : Cel w g 50 12 (fun j => if 0 ≤ j ∧ j < 0 + V.size then V.getD (j - 0) undef else f j)) : CelV w g V :=
  h.congr fun i hi => by rw [if_pos ⟨by omega, by omega⟩, Nat.sub_zero]
/-- What the reading holds: the answer's cells, the object's. -/
structure RSt (w0 w : World) (g1 g2 : Nat) (V : Array Value) : Prop where
  low : Below w0.heap.size w0 w
  e1 : w0.heap.size ≤ g1
  lt : g1 < g2
  res : CelV w g1 zeroV
  obj : CelV w g2 V
section
variable {w0 w w' : World} {g1 g2 : Nat} {V V' : Array Value}
theorem RSt.below (h : RSt w0 w g1 g2 V) (hb : Below w.heap.size w w') : RSt w0 w' g1 g2 V :=
  ⟨h.low.trans (hb.mono h.low.size), h.e1, h.lt, h.res.below hb h.res.blk, h.obj.below hb h.obj.blk⟩
theorem RSt.drew (h : RSt w0 w g1 g2 V) : RSt w0 w.drew g1 g2 V := ⟨h.low.drew, h.e1, h.lt, h.res.drew, h.obj.drew⟩
theorem RSt.chgHi (h : RSt w0 w g1 g2 V) (hc : Chg (fun k => g2 + 1 ≤ k) w w') : RSt w0 w' g1 g2 V := by
  have h1 := h.e1
  have h2 := h.lt
  exact ⟨h.low.trans (hc.below h.low.size (fun i hi e => by omega)), h.e1, h.lt, h.res.chg hc (by omega), h.obj.chg hc (by omega)⟩
theorem RSt.set (h : RSt w0 w g1 g2 V) {i : Nat} {v : Value} (hf : ∀ j, j < 12 → (if j = i then v else V.getD j undef) = V'.getD j undef) : RSt w0 (w.setCell ⟨g2, i, none⟩ v) g1 g2 V' :=
  ⟨h.low.setCell (p := ⟨g2, i, none⟩) (by have := h.e1; have := h.lt; show _ ≤ g2; omega) v, h.e1, h.lt, h.res.setFar (Nat.ne_of_lt h.lt) v, (h.obj.set i v).congr hf⟩
theorem RSt.begin (w : World) (V : Array Value) (hV : V.size = 12) : RSt w ((w.alloc (.cells zeroV 50)).alloc (.cells V 50)) w.heap.size (w.heap.size + 1) V := by
  refine ⟨((Below.refl _ _).alloc (Nat.le_refl _) _).alloc (by simp) _, Nat.le_refl _, by omega, (CelV.new w zeroV rfl).alloc _, ?_⟩
  have h := CelV.new (w.alloc (.cells zeroV 50)) V hV
  simpa using h
end
theorem zeroV_one : ∀ v ∈ zeroV.toList, v.oneCell' = true := by simp [zeroV, Value.oneCell']
theorem comV_one (t : ByteArray) (A : Option Addr) (n k : Nat) (a c m : ByteArray) : ∀ v ∈ (comV t (.slice A n k) a c m).toList, v.oneCell' = true := by simp [comV, Value.oneCell']
theorem tagV_one (o n : ByteArray) (ty : Int) (g m : ByteArray) : ∀ v ∈ (tagV o n ty g m).toList, v.oneCell' = true := by simp [tagV, Value.oneCell']
theorem treV_one (k : Int) (d : ByteArray) (A : Option Addr) (n c : Nat) : ∀ v ∈ (treV k d (.slice A n c)).toList, v.oneCell' = true := by simp [treV, Value.oneCell']
/-- What the document's reading of a commit, of a tag, of a tree answers. -/
def RCommit (l : List UInt8) (w : World) (e : Ending) (w' : World) : Prop :=
  Below w.heap.size w w' ∧ ((commitF l = none ∧ e = .returned (.tuple #[.agg zeroV, .bool false])) ∨
    ∃ r A c, commitF l = some r ∧ e = .returned (.tuple #[.agg (comV (bk r.t) (.slice A r.P.length c) (bk r.a) (bk r.c) (bk r.m)), .bool true]) ∧ OwnS w' w.heap.size 9 1 (.slice A r.P.length c) r.P.length (strVs r.P))
def RTag (l : List UInt8) (w : World) (e : Ending) (w' : World) : Prop :=
  Below w.heap.size w w' ∧ ((tagF l = none ∧ e = .returned (.tuple #[.agg zeroV, .bool false])) ∨
    ∃ r, tagF l = some r ∧ e = .returned (.tuple #[.agg (tagV (bk r.o) (bk r.n) (r.k : Int) (bk r.g) (bk r.m)), .bool true]))
def RTree (l : List UInt8) (w : World) (e : Ending) (w' : World) : Prop :=
  Below w.heap.size w w' ∧ ((treeF l = none ∧ e = .returned (.tuple #[.slice none 0 0, .bool false])) ∨
    ∃ L A c, treeF l = some L ∧ e = .returned (.tuple #[.slice A L.length c, .bool true]) ∧ OwnS w' w.heap.size 28 3 (.slice A L.length c) L.length (entVs L))
end Go.Proofs.YtdlabapfcghfmaaGreatDoor
namespace Go.Proofs.YtdlabapfcghfmaaGreatDoor
open Go.RowKit
set_option linter.unusedVariables false
set_option linter.unusedSimpArgs false

theorem tagF_0 {s x s1 : ByteArray} (h : FieldR objectN s x false s1) : tagF s.data.toList = none := by unfold tagF; rw [h.no]
theorem tagF_1 {s x s1 : ByteArray} (h : FieldR objectN s x true s1) (hx : hashB (bytesOf x) = false) : tagF s.data.toList = none := by
  unfold tagF; rw [h.yes]
  show (if hashU x.data.toList = false then none else _) = none
  unfold hashU
  rw [bk_of, if_pos hx]
theorem tagF_2 {s x s1 xk s2 : ByteArray} (h : FieldR objectN s x true s1) (h2 : FieldR typeN s1 xk false s2) : tagF s.data.toList = none := by
  unfold tagF; rw [h.yes]
  show (if hashU x.data.toList = false then none else _) = none
  split
  · rfl
  · simp only [h2.no]
theorem tagF_3 {s x s1 xk s2 : ByteArray} (h : FieldR objectN s x true s1) (h2 : FieldR typeN s1 xk true s2) (hk : ¬ 0 < kindN xk) : tagF s.data.toList = none := by
  unfold tagF; rw [h.yes]
  show (if hashU x.data.toList = false then none else _) = none
  split
  · rfl
  · simp only [h2.yes]
    rw [bk_of, if_pos (by omega)]
theorem tagF_4 {s x s1 xk s2 x2 s3 : ByteArray} (h : FieldR objectN s x true s1) (h2 : FieldR typeN s1 xk true s2) (h3 : FieldR tagN s2 x2 false s3) : tagF s.data.toList = none := by
  unfold tagF; rw [h.yes]
  show (if hashU x.data.toList = false then none else _) = none
  split
  · rfl
  · simp only [h2.yes]
    split
    · rfl
    · simp only [h3.no]
theorem tagF_5 {s x s1 xk s2 x2 s3 : ByteArray} (h : FieldR objectN s x true s1) (h2 : FieldR typeN s1 xk true s2) (h3 : FieldR tagN s2 x2 true s3) (hl : labelB x2 = false) : tagF s.data.toList = none := by
  unfold tagF; rw [h.yes]
  show (if hashU x.data.toList = false then none else _) = none
  split
  · rfl
  · simp only [h2.yes]
    split
    · rfl
    · simp only [h3.yes]
      rw [bk_of, if_pos hl]
theorem tagF_6 {s x s1 xk s2 x2 s3 x3 s4 : ByteArray} (h : FieldR objectN s x true s1) (h2 : FieldR typeN s1 xk true s2) (h3 : FieldR tagN s2 x2 true s3) (h4 : FieldR taggerN s3 x3 false s4) : tagF s.data.toList = none := by
  unfold tagF; rw [h.yes]
  show (if hashU x.data.toList = false then none else _) = none
  split
  · rfl
  · simp only [h2.yes]
    split
    · rfl
    · simp only [h3.yes]
      split
      · rfl
      · simp only [h4.no]
theorem msgF_nil {s : ByteArray} (h : s.size = 0) : msgF s.data.toList = none := by
  rw [Lib.size_eq] at h
  rw [List.eq_nil_of_length_eq_zero h]; rfl
theorem msgF_10 {s : ByteArray} (hs : 0 < s.size) (h : s[0]'hs ≠ 10) : msgF s.data.toList = none := by
  have hx := Lib.data_getElem? s 0 hs
  cases hl : s.data.toList with
  | nil => rfl
  | cons b m =>
    rw [hl] at hx
    simp at hx
    show (if b = 10 ∧ withoutB m [0] = true then some m else none) = none
    rw [if_neg (fun hc => h (by rw [← hx]; exact hc.1))]
theorem msgF_go {s : ByteArray} (hs : 0 < s.size) (h : s[0]'hs = 10) : msgF s.data.toList = if withoutB (s.extract 1 s.size).data.toList [0] = true then some (s.extract 1 s.size).data.toList else none := by
  have hx := Lib.data_getElem? s 0 hs
  have he : (s.extract 1 s.size).data.toList = s.data.toList.drop 1 := by rw [bk_extE, bk_list]
  rw [he]
  cases hl : s.data.toList with
  | nil => rw [hl] at hx; simp at hx
  | cons b m =>
    rw [hl] at hx
    simp at hx
    rw [hx, h]
    unfold msgF
    simp
set_option maxRecDepth 100000 in
set_option maxHeartbeats 4000000 in
theorem rtag_any (s : ByteArray) (w : World) (hs : s.size ≤ 140737488351200) : Calls Tryz.prog 50 #[.string s] w (RTag s.data.toList w) := by
  have HS := Lib.hid hs
  have HPO : Hid (∀ e w', RTag s.data.toList w e w' = (Below w.heap.size w w' ∧ ((tagF s.data.toList = none ∧ e = .returned (.tuple #[.agg zeroV, .bool false])) ∨ ∃ r, tagF s.data.toList = some r ∧ e = .returned (.tuple #[.agg (tagV (bk r.o) (bk r.n) (r.k : Int) (bk r.g) (bk r.m)), .bool true])))) := Lib.hid (fun _ _ => rfl)
  generalize RTag s.data.toList w = POST at *
  have HST0 := Lib.hid (RSt.begin w (tagV ⟨#[]⟩ ⟨#[]⟩ 0 ⟨#[]⟩ ⟨#[]⟩) rfl)
  clear hs
  go_enter Tryz.func50, Tryz.ntmps50
  go_upto_region 4 with (fail)
  change Hid (RSt w ((w.alloc (.cells #[.int .i64 0, .string ⟨#[]⟩, .slice none 0 0, .string ⟨#[]⟩, .slice none 0 0, .string ⟨#[]⟩, .string ⟨#[]⟩, .string ⟨#[]⟩, .string ⟨#[]⟩, .int .i64 0, .string ⟨#[]⟩, .string ⟨#[]⟩] 50)).alloc (.cells #[.int .i64 4, .string ⟨#[]⟩, .slice none 0 0, .string ⟨#[]⟩, .slice none 0 0, .string ⟨#[]⟩, .string ⟨#[]⟩, .string ⟨#[]⟩, .string ⟨#[]⟩, .int .i64 0, .string ⟨#[]⟩, .string ⟨#[]⟩] 50)) w.heap.size (w.heap.size + 1) (tagV ⟨#[]⟩ ⟨#[]⟩ 0 ⟨#[]⟩ ⟨#[]⟩)) at HST0
  generalize hw1 : (w.alloc (.cells #[.int .i64 0, .string ⟨#[]⟩, .slice none 0 0, .string ⟨#[]⟩, .slice none 0 0, .string ⟨#[]⟩, .string ⟨#[]⟩, .string ⟨#[]⟩, .string ⟨#[]⟩, .int .i64 0, .string ⟨#[]⟩, .string ⟨#[]⟩] 50)).alloc (.cells #[.int .i64 4, .string ⟨#[]⟩, .slice none 0 0, .string ⟨#[]⟩, .slice none 0 0, .string ⟨#[]⟩, .string ⟨#[]⟩, .string ⟨#[]⟩, .string ⟨#[]⟩, .int .i64 0, .string ⟨#[]⟩, .string ⟨#[]⟩] 50) = w1 at *
  generalize hg2 : w.heap.size + 1 = g2 at HST0 ⊢
  generalize hg1 : w.heap.size = g1 at HST0 ⊢
  have HG1 := Lib.hid hg1
  clear hg1 hg2 hw1
  go_wp2_with fail
  refine (line_any s objectN w1 (by have := HS.out; omega) (by decide) (by decide)).mono ?_
  rintro e w2 ⟨x0, b0, s1, rfl, hf0, hb0⟩
  have HF0 := Lib.hid hf0
  have HST1 := Lib.hid (HST0.out.below hb0)
  have HZ1 : Hid (s1.size ≤ s.size) := Lib.hid hf0.size
  have k7 : w2.cell? ⟨g2, 7, none⟩ = some (.string ⟨#[]⟩) := HST1.out.obj.cell 7 (by decide)
  have f7 : w2.frozen? ⟨g2, 7, none⟩ = false := HST1.out.obj.frozen 7
  clear hf0 hb0 HST0
  go_upto_region 5 with (fail)
  have HST2 := Lib.hid (HST1.out.set (i := 7) (v := .string x0) (V' := tagV x0 ⟨#[]⟩ 0 ⟨#[]⟩ ⟨#[]⟩) (fun j hj => by rcases j with _ | _ | _ | _ | _ | _ | _ | _ | _ | _ | _ | _ | j <;> first | rfl | omega))
  clear k7 f7 HST1
  generalize w2.setCell ⟨g2, 7, none⟩ (.string x0) = w3 at *
  cases b0
  case false =>
    have HNO : Hid (tagF s.data.toList = none) := Lib.hid (tagF_0 HF0.out)
    have hC5 := HST2.out.res
    have HLB := Lib.hid (HST2.out.low)
    have hge1 := HST2.out.e1
    go_wp2_with (refine wpList_store_part (vs := zeroV) (off := 0) rfl (.tmp 2) (.tmp 25) rfl rfl rfl hC5 info_o8 (Nat.le_refl 12) zeroV_one ?_; intro w88 hC8 hg8 hs8; have hC9 := CelV.stored rfl hC8)
    exact bodyPost_ret (v := .tuple #[.agg zeroV, .bool false]) (results_cel2 rfl _ _ rfl rfl hC9 Tryz.underlying50 rfl info_o8 (Nat.le_refl 12) (fun j hj => getD_some hj)) rfl (by rw [HPO.out]; exact ⟨HLB.out.grown hg8 HLB.out.size (fun k h => by injection h with h; rw [← h]; exact hge1), .inl ⟨HNO.out, rfl⟩⟩)
  case true =>
  have HXZ0 : Hid (x0.size ≤ s.size) := Lib.hid HF0.out.xsize.1
  have k7 : w3.cell? ⟨g2, 7, none⟩ = some (.string x0) := HST2.out.obj.cell 7 (by decide)
  have HH0 := Lib.hid (hashR_any x0 w3 (by have := HXZ0.out; have := HS.out; omega))
  go_wp2_with fail
  refine HH0.out.mono ?_
  rintro e w4 ⟨rfl, hb4⟩
  have HST3 := Lib.hid (HST2.out.below hb4)
  clear hb4 k7 HST2 HH0
  cases hx0 : hashB (bytesOf x0)
  case false =>
    have HNO : Hid (tagF s.data.toList = none) := Lib.hid (tagF_1 HF0.out hx0)
    have hC5 := HST3.out.res
    have HLB := Lib.hid (HST3.out.low)
    have hge1 := HST3.out.e1
    go_wp2_with (refine wpList_store_part (vs := zeroV) (off := 0) rfl (.tmp 2) (.tmp 25) rfl rfl rfl hC5 info_o8 (Nat.le_refl 12) zeroV_one ?_; intro w88 hC8 hg8 hs8; have hC9 := CelV.stored rfl hC8)
    exact bodyPost_ret (v := .tuple #[.agg zeroV, .bool false]) (results_cel2 rfl _ _ rfl rfl hC9 Tryz.underlying50 rfl info_o8 (Nat.le_refl 12) (fun j hj => getD_some hj)) rfl (by rw [HPO.out]; exact ⟨HLB.out.grown hg8 HLB.out.size (fun k h => by injection h with h; rw [← h]; exact hge1), .inl ⟨HNO.out, rfl⟩⟩)
  case true =>
  have HX0 := Lib.hid hx0
  clear hx0
  go_wp2_with fail
  refine (line_any s1 typeN w4 (by have := HZ1.out; have := HS.out; omega) (by decide) (by decide)).mono ?_
  rintro e w5 ⟨xk, b1, s2, rfl, hf1, hb5⟩
  have HF1 := Lib.hid hf1
  have HST4 := Lib.hid (HST3.out.below hb5)
  have HZ2 : Hid (s2.size ≤ s.size) := Lib.hid (Nat.le_trans hf1.size HZ1.out)
  clear hf1 hb5 HST3
  go_wp2_with fail
  refine (kindR_any xk w5).mono ?_
  rintro e w6 ⟨rfl, hb6⟩
  have HST5 := Lib.hid (HST4.out.below hb6)
  clear hb6 HST4
  cases b1
  case false =>
    have HNO : Hid (tagF s.data.toList = none) := Lib.hid (tagF_2 HF0.out HF1.out)
    have hC5 := HST5.out.res
    have HLB := Lib.hid (HST5.out.low)
    have hge1 := HST5.out.e1
    go_wp2_with (refine wpList_store_part (vs := zeroV) (off := 0) rfl (.tmp 2) (.tmp 43) rfl rfl rfl hC5 info_o8 (Nat.le_refl 12) zeroV_one ?_; intro w88 hC8 hg8 hs8; have hC9 := CelV.stored rfl hC8)
    exact bodyPost_ret (v := .tuple #[.agg zeroV, .bool false]) (results_cel2 rfl _ _ rfl rfl hC9 Tryz.underlying50 rfl info_o8 (Nat.le_refl 12) (fun j hj => getD_some hj)) rfl (by rw [HPO.out]; exact ⟨HLB.out.grown hg8 HLB.out.size (fun k h => by injection h with h; rw [← h]; exact hge1), .inl ⟨HNO.out, rfl⟩⟩)
  case true =>
  by_cases hk : 0 < kindN xk
  case neg =>
    have dk : decide (0 < kindN xk) = false := decide_eq_false hk
    have HK := Lib.hid hk
    clear hk
    have HNO : Hid (tagF s.data.toList = none) := Lib.hid (tagF_3 HF0.out HF1.out HK.out)
    have hC5 := HST5.out.res
    have HLB := Lib.hid (HST5.out.low)
    have hge1 := HST5.out.e1
    go_wp2_with (refine wpList_store_part (vs := zeroV) (off := 0) rfl (.tmp 2) (.tmp 43) rfl rfl rfl hC5 info_o8 (Nat.le_refl 12) zeroV_one ?_; intro w88 hC8 hg8 hs8; have hC9 := CelV.stored rfl hC8)
    exact bodyPost_ret (v := .tuple #[.agg zeroV, .bool false]) (results_cel2 rfl _ _ rfl rfl hC9 Tryz.underlying50 rfl info_o8 (Nat.le_refl 12) (fun j hj => getD_some hj)) rfl (by rw [HPO.out]; exact ⟨HLB.out.grown hg8 HLB.out.size (fun k h => by injection h with h; rw [← h]; exact hge1), .inl ⟨HNO.out, rfl⟩⟩)
  case pos =>
  have dk : decide (0 < kindN xk) = true := decide_eq_true hk
  have HK := Lib.hid hk
  have k9 : w6.cell? ⟨g2, 9, none⟩ = some (.int .i64 0) := HST5.out.obj.cell 9 (by decide)
  have f9 : w6.frozen? ⟨g2, 9, none⟩ = false := HST5.out.obj.frozen 9
  clear hk
  go_upto_region 12 with (fail)
  have HST6 := Lib.hid (HST5.out.set (i := 9) (v := .int .i64 (kindN xk : Int)) (V' := tagV x0 ⟨#[]⟩ (kindN xk : Int) ⟨#[]⟩ ⟨#[]⟩) (fun j hj => by rcases j with _ | _ | _ | _ | _ | _ | _ | _ | _ | _ | _ | _ | j <;> first | rfl | omega))
  clear k9 f9 HST5 dk
  generalize w6.setCell ⟨g2, 9, none⟩ (.int .i64 (kindN xk : Int)) = w7 at *
  generalize hKN : kindN xk = KN at *
  have HKN := Lib.hid hKN
  clear hKN
  go_wp2_with fail
  refine (line_any s2 tagN w7 (by have := HZ2.out; have := HS.out; omega) (by decide) (by decide)).mono ?_
  rintro e w8 ⟨x2, b2, s3, rfl, hf2, hb8⟩
  have HF2 := Lib.hid hf2
  have HST7 := Lib.hid (HST6.out.below hb8)
  have HZ3 : Hid (s3.size ≤ s.size) := Lib.hid (Nat.le_trans hf2.size HZ2.out)
  have k8 : w8.cell? ⟨g2, 8, none⟩ = some (.string ⟨#[]⟩) := HST7.out.obj.cell 8 (by decide)
  have f8 : w8.frozen? ⟨g2, 8, none⟩ = false := HST7.out.obj.frozen 8
  clear hf2 hb8 HST6
  go_upto_region 13 with (fail)
  have HST8 := Lib.hid (HST7.out.set (i := 8) (v := .string x2) (V' := tagV x0 x2 (KN : Int) ⟨#[]⟩ ⟨#[]⟩) (fun j hj => by rcases j with _ | _ | _ | _ | _ | _ | _ | _ | _ | _ | _ | _ | j <;> first | rfl | omega))
  clear k8 f8 HST7
  generalize w8.setCell ⟨g2, 8, none⟩ (.string x2) = w9 at *
  cases b2
  case false =>
    have HNO : Hid (tagF s.data.toList = none) := Lib.hid (tagF_4 HF0.out HF1.out HF2.out)
    have hC5 := HST8.out.res
    have HLB := Lib.hid (HST8.out.low)
    have hge1 := HST8.out.e1
    go_wp2_with (refine wpList_store_part (vs := zeroV) (off := 0) rfl (.tmp 2) (.tmp 61) rfl rfl rfl hC5 info_o8 (Nat.le_refl 12) zeroV_one ?_; intro w88 hC8 hg8 hs8; have hC9 := CelV.stored rfl hC8)
    exact bodyPost_ret (v := .tuple #[.agg zeroV, .bool false]) (results_cel2 rfl _ _ rfl rfl hC9 Tryz.underlying50 rfl info_o8 (Nat.le_refl 12) (fun j hj => getD_some hj)) rfl (by rw [HPO.out]; exact ⟨HLB.out.grown hg8 HLB.out.size (fun k h => by injection h with h; rw [← h]; exact hge1), .inl ⟨HNO.out, rfl⟩⟩)
  case true =>
  have HXZ2 : Hid (x2.size ≤ s.size) := Lib.hid (by have := HF2.out.xsize.1; have := HZ2.out; omega)
  have k8 : w9.cell? ⟨g2, 8, none⟩ = some (.string x2) := HST8.out.obj.cell 8 (by decide)
  have HH2 := Lib.hid (tagName_any x2 w9 (by have := HXZ2.out; have := HS.out; omega))
  go_wp2_with fail
  refine HH2.out.mono ?_
  rintro e w10 ⟨rfl, hb10⟩
  have HST9 := Lib.hid (HST8.out.below hb10)
  clear hb10 k8 HST8 HH2
  cases hx2 : labelB x2
  case false =>
    have HNO : Hid (tagF s.data.toList = none) := Lib.hid (tagF_5 HF0.out HF1.out HF2.out hx2)
    have hC5 := HST9.out.res
    have HLB := Lib.hid (HST9.out.low)
    have hge1 := HST9.out.e1
    go_wp2_with (refine wpList_store_part (vs := zeroV) (off := 0) rfl (.tmp 2) (.tmp 61) rfl rfl rfl hC5 info_o8 (Nat.le_refl 12) zeroV_one ?_; intro w88 hC8 hg8 hs8; have hC9 := CelV.stored rfl hC8)
    exact bodyPost_ret (v := .tuple #[.agg zeroV, .bool false]) (results_cel2 rfl _ _ rfl rfl hC9 Tryz.underlying50 rfl info_o8 (Nat.le_refl 12) (fun j hj => getD_some hj)) rfl (by rw [HPO.out]; exact ⟨HLB.out.grown hg8 HLB.out.size (fun k h => by injection h with h; rw [← h]; exact hge1), .inl ⟨HNO.out, rfl⟩⟩)
  case true =>
  have HX2 := Lib.hid hx2
  clear hx2
  go_wp2_with fail
  refine (line_any s3 taggerN w10 (by have := HZ3.out; have := HS.out; omega) (by decide) (by decide)).mono ?_
  rintro e w11 ⟨x3, b3, s4, rfl, hf3, hb11⟩
  have HF3 := Lib.hid hf3
  have HST10 := Lib.hid (HST9.out.below hb11)
  have HZ4 : Hid (s4.size ≤ s.size) := Lib.hid (Nat.le_trans hf3.size HZ3.out)
  have k10 : w11.cell? ⟨g2, 10, none⟩ = some (.string ⟨#[]⟩) := HST10.out.obj.cell 10 (by decide)
  have f10 : w11.frozen? ⟨g2, 10, none⟩ = false := HST10.out.obj.frozen 10
  clear hf3 hb11 HST9
  go_upto_region 16 with (fail)
  have HST11 := Lib.hid (HST10.out.set (i := 10) (v := .string x3) (V' := tagV x0 x2 (KN : Int) x3 ⟨#[]⟩) (fun j hj => by rcases j with _ | _ | _ | _ | _ | _ | _ | _ | _ | _ | _ | _ | j <;> first | rfl | omega))
  clear k10 f10 HST10
  generalize w11.setCell ⟨g2, 10, none⟩ (.string x3) = w12 at *
  cases b3
  case false =>
    have HNO : Hid (tagF s.data.toList = none) := Lib.hid (tagF_6 HF0.out HF1.out HF2.out HF3.out)
    have hC5 := HST11.out.res
    have HLB := Lib.hid (HST11.out.low)
    have hge1 := HST11.out.e1
    go_wp2_with (refine wpList_store_part (vs := zeroV) (off := 0) rfl (.tmp 2) (.tmp 93) rfl rfl rfl hC5 info_o8 (Nat.le_refl 12) zeroV_one ?_; intro w88 hC8 hg8 hs8; have hC9 := CelV.stored rfl hC8)
    exact bodyPost_ret (v := .tuple #[.agg zeroV, .bool false]) (results_cel2 rfl _ _ rfl rfl hC9 Tryz.underlying50 rfl info_o8 (Nat.le_refl 12) (fun j hj => getD_some hj)) rfl (by rw [HPO.out]; exact ⟨HLB.out.grown hg8 HLB.out.size (fun k h => by injection h with h; rw [← h]; exact hge1), .inl ⟨HNO.out, rfl⟩⟩)
  case true =>
  have HXZ3 : Hid (x3.size ≤ s.size) := Lib.hid (by have := HF3.out.xsize.1; have := HZ3.out; omega)
  have HALL := Lib.hid (tagF_all HF0.out HF1.out HF2.out HF3.out (by rw [HKN.out]; exact HK.out))
  have k10 : w12.cell? ⟨g2, 10, none⟩ = some (.string x3) := HST11.out.obj.cell 10 (by decide)
  have HH3 := Lib.hid (personR_any x3 w12 (by have := HXZ3.out; have := HS.out; omega))
  unfold PersPost at HH3
  go_wp2_with fail
  refine HH3.out.mono ?_
  rintro e w13 ⟨rfl, hb13⟩
  have HST12 := Lib.hid (HST11.out.below hb13)
  clear hb13 k10 HST11 HH3
  cases hx3 : persB x3
  case false =>
    have HNO : Hid (tagF s.data.toList = none) := Lib.hid (by rw [HALL.out, if_pos (.inr (.inr hx3))])
    have hC5 := HST12.out.res
    have HLB := Lib.hid (HST12.out.low)
    have hge1 := HST12.out.e1
    go_wp2_with (refine wpList_store_part (vs := zeroV) (off := 0) rfl (.tmp 2) (.tmp 93) rfl rfl rfl hC5 info_o8 (Nat.le_refl 12) zeroV_one ?_; intro w88 hC8 hg8 hs8; have hC9 := CelV.stored rfl hC8)
    exact bodyPost_ret (v := .tuple #[.agg zeroV, .bool false]) (results_cel2 rfl _ _ rfl rfl hC9 Tryz.underlying50 rfl info_o8 (Nat.le_refl 12) (fun j hj => getD_some hj)) rfl (by rw [HPO.out]; exact ⟨HLB.out.grown hg8 HLB.out.size (fun k h => by injection h with h; rw [← h]; exact hge1), .inl ⟨HNO.out, rfl⟩⟩)
  case true =>
  have HX3 := Lib.hid hx3
  clear hx3
  by_cases hz : s4.size = 0
  case pos =>
    have HZ := Lib.hid hz
    have d0 : ((s4.size : Int) == 0) = true := by rw [beq_iff_eq]; omega
    clear hz
    have HNO : Hid (tagF s.data.toList = none) := Lib.hid (by rw [HALL.out, msgF_nil HZ.out]; split <;> rfl)
    have hC5 := HST12.out.res
    have HLB := Lib.hid (HST12.out.low)
    have hge1 := HST12.out.e1
    go_wp2_with (refine wpList_store_part (vs := zeroV) (off := 0) rfl (.tmp 2) (.tmp 93) rfl rfl rfl hC5 info_o8 (Nat.le_refl 12) zeroV_one ?_; intro w88 hC8 hg8 hs8; have hC9 := CelV.stored rfl hC8)
    exact bodyPost_ret (v := .tuple #[.agg zeroV, .bool false]) (results_cel2 rfl _ _ rfl rfl hC9 Tryz.underlying50 rfl info_o8 (Nat.le_refl 12) (fun j hj => getD_some hj)) rfl (by rw [HPO.out]; exact ⟨HLB.out.grown hg8 HLB.out.size (fun k h => by injection h with h; rw [← h]; exact hge1), .inl ⟨HNO.out, rfl⟩⟩)
  case neg =>
  have hpos : 0 < s4.size := by omega
  have d0 : ((s4.size : Int) == 0) = false := by rw [beq_eq_false_iff_ne]; omega
  clear hz
  by_cases h10 : s4[0]'hpos = 10
  case neg =>
    have HNM := Lib.hid (msgF_10 hpos h10)
    have q : ((((s4[0]'hpos).toNat : Nat) : Int) == 10) = false := by
      rw [beq_eq_false_iff_ne]
      intro h
      exact h10 (UInt8.toNat_inj.1 (by show _ = 10; omega))
    have q' : ((((s4[0]'hpos).toNat : Nat) : Int) != 10) = true := by unfold bne; rw [q]; rfl
    clear h10
    have HNO : Hid (tagF s.data.toList = none) := Lib.hid (by rw [HALL.out, HNM.out]; split <;> rfl)
    have hC5 := HST12.out.res
    have HLB := Lib.hid (HST12.out.low)
    have hge1 := HST12.out.e1
    go_wp2_with (refine wpList_store_part (vs := zeroV) (off := 0) rfl (.tmp 2) (.tmp 93) rfl rfl rfl hC5 info_o8 (Nat.le_refl 12) zeroV_one ?_; intro w88 hC8 hg8 hs8; have hC9 := CelV.stored rfl hC8)
    exact bodyPost_ret (v := .tuple #[.agg zeroV, .bool false]) (results_cel2 rfl _ _ rfl rfl hC9 Tryz.underlying50 rfl info_o8 (Nat.le_refl 12) (fun j hj => getD_some hj)) rfl (by rw [HPO.out]; exact ⟨HLB.out.grown hg8 HLB.out.size (fun k h => by injection h with h; rw [← h]; exact hge1), .inl ⟨HNO.out, rfl⟩⟩)
  case pos =>
  have HNM := Lib.hid (msgF_go hpos h10)
  have q : ((((s4[0]'hpos).toNat : Nat) : Int) == 10) = true := by rw [h10]; rfl
  have q' : ((((s4[0]'hpos).toNat : Nat) : Int) != 10) = false := by unfold bne; rw [q]; rfl
  have h1 : (1 : Int) ≤ (s4.size : Int) := by omega
  have hez : (s4.extract 1 s4.size).size ≤ s.size := by rw [ByteArray.size_extract]; have := HZ4.out; omega
  have HWO := Lib.hid (without_any (s4.extract 1 s4.size) ⟨#[0]⟩ w13 (by have := HS.out; omega) (by decide))
  change Hid (Calls Tryz.prog 90 #[.string (s4.extract 1 s4.size), .string ⟨#[0]⟩] w13 fun e w' => e = .returned (.bool (withoutB (s4.extract 1 s4.size).data.toList [0])) ∧ Below w13.heap.size w13 w') at HWO
  clear h10 hez
  go_wp2_with fail
  refine HWO.out.mono ?_
  rintro e w14 ⟨rfl, hb14⟩
  have HST13 := Lib.hid (HST12.out.below hb14)
  clear hb14 HST12 HWO
  cases hm : withoutB (s4.extract 1 s4.size).data.toList [0]
  case false =>
    have HNO : Hid (tagF s.data.toList = none) := Lib.hid (by rw [HALL.out, HNM.out, hm]; split <;> rfl)
    have hC5 := HST13.out.res
    have HLB := Lib.hid (HST13.out.low)
    have hge1 := HST13.out.e1
    go_wp2_with (refine wpList_store_part (vs := zeroV) (off := 0) rfl (.tmp 2) (.tmp 93) rfl rfl rfl hC5 info_o8 (Nat.le_refl 12) zeroV_one ?_; intro w88 hC8 hg8 hs8; have hC9 := CelV.stored rfl hC8)
    exact bodyPost_ret (v := .tuple #[.agg zeroV, .bool false]) (results_cel2 rfl _ _ rfl rfl hC9 Tryz.underlying50 rfl info_o8 (Nat.le_refl 12) (fun j hj => getD_some hj)) rfl (by rw [HPO.out]; exact ⟨HLB.out.grown hg8 HLB.out.size (fun k h => by injection h with h; rw [← h]; exact hge1), .inl ⟨HNO.out, rfl⟩⟩)
  case true =>
  have HYES : Hid (tagF s.data.toList = some ⟨x0.data.toList, KN, x2.data.toList, x3.data.toList, (s4.extract 1 s4.size).data.toList⟩) := Lib.hid (by
    rw [HALL.out, HNM.out, hm, HKN.out, if_neg (by rintro (h | h | h); exact absurd (HX0.out.symm.trans h) (by decide); exact absurd (HX2.out.symm.trans h) (by decide); exact absurd (HX3.out.symm.trans h) (by decide))]; rfl)
  have k11 : w14.cell? ⟨g2, 11, none⟩ = some (.string ⟨#[]⟩) := HST13.out.obj.cell 11 (by decide)
  have f11 : w14.frozen? ⟨g2, 11, none⟩ = false := HST13.out.obj.frozen 11
  clear hm
  go_upto_region 19 with (fail)
  have HST14 := Lib.hid (HST13.out.set (i := 11) (v := .string (s4.extract 1 s4.size)) (V' := tagV x0 x2 (KN : Int) x3 (s4.extract 1 s4.size)) (fun j hj => by rcases j with _ | _ | _ | _ | _ | _ | _ | _ | _ | _ | _ | _ | j <;> first | rfl | omega))
  clear k11 f11 HST13
  generalize hM : s4.extract 1 s4.size = M at *
  clear hM q q' d0 h1
  generalize w14.setCell ⟨g2, 11, none⟩ (.string M) = w15 at *
  have hCo := HST14.out.obj
  have hC5 := HST14.out.res
  have HLB := Lib.hid HST14.out.low
  have hge1 := HST14.out.e1
  go_wp2_with (first
    | (refine wpList_load_part (vs := tagV x0 x2 (KN : Int) x3 M) (off := 0) rfl (.tmp 4) rfl rfl hCo Tryz.underlying50 rfl info_o8 (Nat.le_refl 12) (fun j hj => by rw [Nat.zero_add]; exact getD_some hj) ?_)
    | (refine wpList_store_part (vs := tagV x0 x2 (KN : Int) x3 M) (off := 0) rfl (.tmp 2) (.tmp 97) rfl rfl rfl hC5 info_o8 (Nat.le_refl 12) (tagV_one _ _ _ _ _) ?_; intro w88 hC8 hg8 hs8; have hC9 := CelV.stored rfl hC8))
  exact bodyPost_ret (v := .tuple #[.agg (tagV x0 x2 (KN : Int) x3 M), .bool true]) (results_cel2 rfl _ _ rfl rfl hC9 Tryz.underlying50 rfl info_o8 (Nat.le_refl 12) (fun j hj => getD_some hj)) rfl (by rw [HPO.out]; exact ⟨HLB.out.grown hg8 HLB.out.size (fun k h => by injection h with h; rw [← h]; exact hge1), .inr ⟨_, HYES.out, by simp only [bk_of]⟩⟩)
end Go.Proofs.YtdlabapfcghfmaaGreatDoor
namespace Go.Proofs.YtdlabapfcghfmaaGreatDoor
open Go.RowKit
set_option linter.unusedVariables false
set_option linter.unusedSimpArgs false

theorem commitF_0 {s x s1 : ByteArray} (h : FieldR treeN s x false s1) : commitF s.data.toList = none := by unfold commitF; rw [h.no]
theorem commitF_1 {s x s1 : ByteArray} (h : FieldR treeN s x true s1) (hx : hashB (bytesOf x) = false) : commitF s.data.toList = none := by
  unfold commitF; rw [h.yes]
  show (if hashU x.data.toList = false then none else _) = none
  unfold hashU
  rw [bk_of, if_pos hx]
theorem commitF_2 {s x s1 s2 x1 s3 : ByteArray} {P : List (List UInt8)} (h : FieldR treeN s x true s1) (hp : parsF (s1.size + 1) s1.data.toList [] = some (P, s2.data.toList)) (h2 : FieldR authorN s2 x1 false s3) : commitF s.data.toList = none := by
  unfold commitF; rw [h.yes]
  show (if hashU x.data.toList = false then none else _) = none
  split
  · rfl
  · rw [← Lib.size_eq, hp]
    simp only [h2.no]
theorem commitF_3 {s x s1 s2 x1 s3 : ByteArray} {P : List (List UInt8)} (h : FieldR treeN s x true s1) (hp : parsF (s1.size + 1) s1.data.toList [] = some (P, s2.data.toList)) (h2 : FieldR authorN s2 x1 true s3) (hx : persB x1 = false) : commitF s.data.toList = none := by
  unfold commitF; rw [h.yes]
  show (if hashU x.data.toList = false then none else _) = none
  split
  · rfl
  · rw [← Lib.size_eq, hp]
    simp only [h2.yes]
    rw [bk_of, if_pos hx]
theorem commitF_4 {s x s1 s2 x1 s3 x2 s4 : ByteArray} {P : List (List UInt8)} (h : FieldR treeN s x true s1) (hp : parsF (s1.size + 1) s1.data.toList [] = some (P, s2.data.toList)) (h2 : FieldR authorN s2 x1 true s3) (h3 : FieldR committerN s3 x2 false s4) : commitF s.data.toList = none := by
  unfold commitF; rw [h.yes]
  show (if hashU x.data.toList = false then none else _) = none
  split
  · rfl
  · rw [← Lib.size_eq, hp]
    simp only [h2.yes]
    split
    · rfl
    · simp only [h3.no]
def sLen : Value → Nat
  | .string s => s.size
  | _ => 0
set_option maxRecDepth 100000 in
set_option maxHeartbeats 8000000 in
theorem rcommit_any (s : ByteArray) (w : World) (hs : s.size ≤ 8796093022000) : Calls Tryz.prog 49 #[.string s] w (RCommit s.data.toList w) := by
  have HS := Lib.hid hs
  have HPO : Hid (∀ e w', RCommit s.data.toList w e w' = (Below w.heap.size w w' ∧ ((commitF s.data.toList = none ∧ e = .returned (.tuple #[.agg zeroV, .bool false])) ∨ ∃ r A c, commitF s.data.toList = some r ∧ e = .returned (.tuple #[.agg (comV (bk r.t) (.slice A r.P.length c) (bk r.a) (bk r.c) (bk r.m)), .bool true]) ∧ OwnS w' w.heap.size 9 1 (.slice A r.P.length c) r.P.length (strVs r.P)))) := Lib.hid (fun _ _ => rfl)
  generalize RCommit s.data.toList w = POST at *
  have HST0 := Lib.hid (RSt.begin w (comV ⟨#[]⟩ (.slice none 0 0) ⟨#[]⟩ ⟨#[]⟩ ⟨#[]⟩) rfl)
  obtain ⟨i0, hi, hz0, hz1, hz2⟩ := info_parts info_str
  clear hs
  go_enter Tryz.func49, Tryz.ntmps49
  go_upto_region 3 with (fail)
  change Hid (RSt w ((w.alloc (.cells #[.int .i64 0, .string ⟨#[]⟩, .slice none 0 0, .string ⟨#[]⟩, .slice none 0 0, .string ⟨#[]⟩, .string ⟨#[]⟩, .string ⟨#[]⟩, .string ⟨#[]⟩, .int .i64 0, .string ⟨#[]⟩, .string ⟨#[]⟩] 50)).alloc (.cells #[.int .i64 1, .string ⟨#[]⟩, .slice none 0 0, .string ⟨#[]⟩, .slice none 0 0, .string ⟨#[]⟩, .string ⟨#[]⟩, .string ⟨#[]⟩, .string ⟨#[]⟩, .int .i64 0, .string ⟨#[]⟩, .string ⟨#[]⟩] 50)) w.heap.size (w.heap.size + 1) (comV ⟨#[]⟩ (.slice none 0 0) ⟨#[]⟩ ⟨#[]⟩ ⟨#[]⟩)) at HST0
  generalize hw1 : (w.alloc (.cells #[.int .i64 0, .string ⟨#[]⟩, .slice none 0 0, .string ⟨#[]⟩, .slice none 0 0, .string ⟨#[]⟩, .string ⟨#[]⟩, .string ⟨#[]⟩, .string ⟨#[]⟩, .int .i64 0, .string ⟨#[]⟩, .string ⟨#[]⟩] 50)).alloc (.cells #[.int .i64 1, .string ⟨#[]⟩, .slice none 0 0, .string ⟨#[]⟩, .slice none 0 0, .string ⟨#[]⟩, .string ⟨#[]⟩, .string ⟨#[]⟩, .string ⟨#[]⟩, .int .i64 0, .string ⟨#[]⟩, .string ⟨#[]⟩] 50) = w1 at *
  generalize hg2 : w.heap.size + 1 = g2 at HST0 ⊢
  generalize hg1 : w.heap.size = g1 at HST0 ⊢
  have HG1 := Lib.hid hg1
  clear hg1 hg2 hw1
  go_wp2_with fail
  refine (line_any s treeN w1 (by have := HS.out; omega) (by decide) (by decide)).mono ?_
  rintro e w2 ⟨x0, b0, s1, rfl, hf0, hb0⟩
  have HF0 := Lib.hid hf0
  have HST1 := Lib.hid (HST0.out.below hb0)
  have HZ1 : Hid (s1.size ≤ s.size) := Lib.hid hf0.size
  have k3 : w2.cell? ⟨g2, 3, none⟩ = some (.string ⟨#[]⟩) := HST1.out.obj.cell 3 (by decide)
  have f3 : w2.frozen? ⟨g2, 3, none⟩ = false := HST1.out.obj.frozen 3
  clear hf0 hb0 HST0
  go_upto_region 4 with (fail)
  have HST2 := Lib.hid (HST1.out.set (i := 3) (v := .string x0) (V' := comV x0 (.slice none 0 0) ⟨#[]⟩ ⟨#[]⟩ ⟨#[]⟩) (fun j hj => by rcases j with _ | _ | _ | _ | _ | _ | _ | _ | _ | _ | _ | _ | j <;> first | rfl | omega))
  clear k3 f3 HST1
  generalize w2.setCell ⟨g2, 3, none⟩ (.string x0) = w3 at *
  cases b0
  case false =>
    have HNO : Hid (commitF s.data.toList = none) := Lib.hid (commitF_0 HF0.out)
    have hC5 := HST2.out.res
    have HLB := Lib.hid (HST2.out.low)
    have hge1 := HST2.out.e1
    go_wp2_with (refine wpList_store_part (vs := zeroV) (off := 0) rfl (.tmp 2) (.tmp 26) rfl rfl rfl hC5 info_o8 (Nat.le_refl 12) zeroV_one ?_; intro w88 hC8 hg8 hs8; have hC9 := CelV.stored rfl hC8)
    exact bodyPost_ret (v := .tuple #[.agg zeroV, .bool false]) (results_cel2 rfl _ _ rfl rfl hC9 Tryz.underlying50 rfl info_o8 (Nat.le_refl 12) (fun j hj => getD_some hj)) rfl (by rw [HPO.out]; exact ⟨HLB.out.grown hg8 HLB.out.size (fun k h => by injection h with h; rw [← h]; exact hge1), .inl ⟨HNO.out, rfl⟩⟩)
  case true =>
  have HXZ0 : Hid (x0.size ≤ s.size) := Lib.hid HF0.out.xsize.1
  have k3 : w3.cell? ⟨g2, 3, none⟩ = some (.string x0) := HST2.out.obj.cell 3 (by decide)
  have HH0 := Lib.hid (hashR_any x0 w3 (by have := HXZ0.out; have := HS.out; omega))
  go_wp2_with fail
  refine HH0.out.mono ?_
  rintro e w4 ⟨rfl, hb4⟩
  have HST3 := Lib.hid (HST2.out.below hb4)
  clear hb4 k3 HST2 HH0
  cases hx0 : hashB (bytesOf x0)
  case false =>
    have HNO : Hid (commitF s.data.toList = none) := Lib.hid (commitF_1 HF0.out hx0)
    have hC5 := HST3.out.res
    have HLB := Lib.hid (HST3.out.low)
    have hge1 := HST3.out.e1
    go_wp2_with (refine wpList_store_part (vs := zeroV) (off := 0) rfl (.tmp 2) (.tmp 26) rfl rfl rfl hC5 info_o8 (Nat.le_refl 12) zeroV_one ?_; intro w88 hC8 hg8 hs8; have hC9 := CelV.stored rfl hC8)
    exact bodyPost_ret (v := .tuple #[.agg zeroV, .bool false]) (results_cel2 rfl _ _ rfl rfl hC9 Tryz.underlying50 rfl info_o8 (Nat.le_refl 12) (fun j hj => getD_some hj)) rfl (by rw [HPO.out]; exact ⟨HLB.out.grown hg8 HLB.out.size (fun k h => by injection h with h; rw [← h]; exact hge1), .inl ⟨HNO.out, rfl⟩⟩)
  case true =>
  have HX0 := Lib.hid hx0
  clear hx0
  go_wp2
  go_loopw [0] (fun v0 wr => ∃ (s2 : ByteArray) (P : List (List UInt8)) (f : Nat) (v : Value), v0 = .string s2 ∧ RSt w wr g1 g2 (comV x0 v ⟨#[]⟩ ⟨#[]⟩ ⟨#[]⟩) ∧ OwnS wr (g2 + 1) 9 1 v P.length (strVs P) ∧ s2.size < f ∧ s2.size ≤ s1.size ∧ P.length + s2.size ≤ s1.size ∧ parsF (s1.size + 1) s1.data.toList [] = parsF f s2.data.toList P) (fun v0 _ => sLen v0)
  case atStart => exact ⟨s1, [], s1.size + 1, .slice none 0 0, rfl, HST3.out, OwnS.nil _ _ _ _, by omega, Nat.le_refl _, by simp, rfl⟩
  case round =>
    clear HST3
    obtain ⟨s2, P, f, v, rfl, hst, ho, hf, h21, hPs, hpf⟩ := hrel
    obtain ⟨A, cA, rfl⟩ := ho.shape
    have HST := Lib.hid hst
    have HO := Lib.hid ho
    have HPF := Lib.hid hpf
    have HN2 : Hid (s2.size < f ∧ s2.size ≤ s1.size ∧ P.length + s2.size ≤ s1.size) := Lib.hid ⟨hf, h21, hPs⟩
    clear hst ho hpf hf h21 hPs
    go_wp2_with fail
    refine (line_any s2 parentN wr (by have := HN2.out; have := HZ1.out; have := HS.out; omega) (by decide) (by decide)).mono ?_
    rintro e w6 ⟨x, b, s3, rfl, hf6, hb6⟩
    have HF6 := Lib.hid hf6
    have HST6 := Lib.hid (HST.out.below hb6)
    have HO6 := Lib.hid (HO.out.lowB hb6)
    clear hf6 hb6 HST HO
    cases b
    case true =>
      have hxs := HF6.out.xsize
      have HPN : Hid (parsF f s2.data.toList P = if hashB (bytesOf x) = false ∨ x.data.toList ∈ P then none else parsF (f - 1) s3.data.toList (P ++ [x.data.toList])) := Lib.hid (by
        obtain ⟨f', rfl⟩ : ∃ f', f = f' + 1 := ⟨f - 1, by have := HN2.out; omega⟩
        rw [parsF, HF6.out.yes]
        show (if hashU x.data.toList = false ∨ _ then none else _) = _
        unfold hashU
        rw [bk_of]; rfl)
      have HX3 : Hid (s3.size < s2.size ∧ x.size ≤ s.size) := Lib.hid ⟨hxs.2, by have := hxs.1; have := HN2.out; have := HZ1.out; omega⟩
      clear hxs
      go_wp2
      go_loopw [9] (fun v9 wx => ∃ k : Nat, v9 = .int .i64 (k : Int) ∧ k ≤ P.length ∧ wx = w6 ∧ ∀ j, j < k → P[j]? ≠ some x.data.toList) (fun v9 _ => P.length - (intOf v9).toNat)
      case atStart => exact ⟨0, rfl, Nat.zero_le _, rfl, fun j hj => by omega⟩
      case round =>
        obtain ⟨k, rfl, hk, rfl, hno⟩ := hrel
        have HNO2 := Lib.hid hno
        have k4 : wr.cell? ⟨g2, 4, none⟩ = some (.slice A P.length cA) := HST6.out.obj.cell 4 (by decide)
        clear hno
        by_cases hlt : k < P.length
        · obtain ⟨p, hp⟩ : ∃ p, P[k]? = some p := ⟨_, List.getElem?_eq_getElem hlt⟩
          obtain ⟨ga, oa, rfl, hga, ca⟩ := HO6.out.strsAt (by rw [List.length_map]; omega)
          have r0 := ca k (bk p) (by rw [List.getElem?_map, hp]; rfl)
          have d2 : decide ((k : Int) < (P.length : Int)) = true := decide_eq_true (by omega)
          have d2' : decide (k < P.length) = true := decide_eq_true hlt
          have hpl : P.length ≤ 8796093022000 := by have := HN2.out; have := HZ1.out; have := HS.out; omega
          clear ca hga
          by_cases hpx : p = x.data.toList
          · have HNO : Hid (commitF s.data.toList = none) := Lib.hid (commitF_pars HF0.out (by rw [HPF.out, HPN.out, if_pos (.inr (by rw [← hpx]; exact List.mem_of_getElem? hp))]))
            have q1 : ((bk p).toList == x.toList) = true := by rw [beq_iff_eq, Lib.toList_data, Lib.toList_data, bk_list]; exact hpx
            clear hp hpx
            have HNO : Hid (commitF s.data.toList = none) := Lib.hid (HNO.out)
            have hC5 := HST6.out.res
            have HLB := Lib.hid (HST6.out.low)
            have hge1 := HST6.out.e1
            go_wp2_with (refine wpList_store_part (vs := zeroV) (off := 0) rfl (.tmp 2) (.tmp 49) rfl rfl rfl hC5 info_o8 (Nat.le_refl 12) zeroV_one ?_; intro w88 hC8 hg8 hs8; have hC9 := CelV.stored rfl hC8)
            exact bodyPost_ret (v := .tuple #[.agg zeroV, .bool false]) (results_cel2 rfl _ _ rfl rfl hC9 Tryz.underlying50 rfl info_o8 (Nat.le_refl 12) (fun j hj => getD_some hj)) rfl (by rw [HPO.out]; exact ⟨HLB.out.grown hg8 HLB.out.size (fun k h => by injection h with h; rw [← h]; exact hge1), .inl ⟨HNO.out, rfl⟩⟩)
          · have HNN : Hid (∀ j, j < k + 1 → P[j]? ≠ some x.data.toList) := Lib.hid (fun j hj => by
              by_cases e : j = k
              · rw [e, hp]; intro h; exact hpx (Option.some.inj h)
              · exact HNO2.out j (by omega))
            have q1 : ((bk p).toList == x.toList) = false := by rw [beq_eq_false_iff_ne, Lib.toList_data, Lib.toList_data, bk_list]; exact hpx
            clear hp hpx
            go_wp2
            go_roundw
            case rel => exact ⟨k + 1, by go_num, by omega, (by first | rfl | trivial), HNN.out⟩
            case measure => simp [intOf]; omega
        · obtain rfl : k = P.length := by omega
          have d2 : decide ((P.length : Int) < (P.length : Int)) = false := decide_eq_false (by omega)
          have d2' : decide (P.length < P.length) = false := decide_eq_false (by omega)
          have HNI : Hid (x.data.toList ∉ P) := Lib.hid (fun hm => by
            obtain ⟨j, hj, e⟩ := List.mem_iff_getElem.1 hm
            exact HNO2.out j hj (by rw [List.getElem?_eq_getElem hj, e]))
          have HHX := Lib.hid (hashR_any x wr (by have := HX3.out; have := HS.out; omega))
          clear HNO2
          go_wp2_with fail
          refine HHX.out.mono ?_
          rintro e w7 ⟨rfl, hb7⟩
          have HST7 := Lib.hid (HST6.out.below hb7)
          have HO7 := Lib.hid (HO6.out.lowB hb7)
          clear hb7 HST6 HO6 k4 HHX
          cases hhx : hashB (bytesOf x)
          case false =>
            have HNO : Hid (commitF s.data.toList = none) := Lib.hid (commitF_pars HF0.out (by rw [HPF.out, HPN.out, if_pos (.inl hhx)]))
            have HNO : Hid (commitF s.data.toList = none) := Lib.hid (HNO.out)
            have hC5 := HST7.out.res
            have HLB := Lib.hid (HST7.out.low)
            have hge1 := HST7.out.e1
            go_wp2_with (refine wpList_store_part (vs := zeroV) (off := 0) rfl (.tmp 2) (.tmp 53) rfl rfl rfl hC5 info_o8 (Nat.le_refl 12) zeroV_one ?_; intro w88 hC8 hg8 hs8; have hC9 := CelV.stored rfl hC8)
            exact bodyPost_ret (v := .tuple #[.agg zeroV, .bool false]) (results_cel2 rfl _ _ rfl rfl hC9 Tryz.underlying50 rfl info_o8 (Nat.le_refl 12) (fun j hj => getD_some hj)) rfl (by rw [HPO.out]; exact ⟨HLB.out.grown hg8 HLB.out.size (fun k h => by injection h with h; rw [← h]; exact hge1), .inl ⟨HNO.out, rfl⟩⟩)
          case true =>
          rw [hhx, if_neg (by rintro (h | h); exact absurd h (by decide); exact HNI.out h)] at HPN
          have k4 : w7.cell? ⟨g2, 4, none⟩ = some (.slice A P.length cA) := HST7.out.obj.cell 4 (by decide)
          have hl8 : Below w7.heap.size w7 (w7.alloc (.cells #[.string x] 9)) := (Below.refl _ _).alloc (Nat.le_refl _) _
          have HST8 := Lib.hid (HST7.out.below hl8)
          have HO8 := Lib.hid (HO7.out.alloc (.cells #[.string x] 9))
          have hbs : g2 + 1 ≤ (w7.alloc (.cells #[.string x] 9)).heap.size := HST8.out.obj.blk
          have HSRC := Lib.hid (Src.one_new (P := Tryz.prog) (w := w7) (u := .string x) (t := 9) rfl)
          have hbyte : (P.length + 1) * 16 ≤ 140737488355328 := by have := HN2.out; have := HZ1.out; have := HS.out; omega
          have hmax : P.length + 1 ≤ maxLen := by unfold maxLen; omega
          have hpl : P.length ≤ 8796093022000 := by have := HN2.out; have := HZ1.out; have := HS.out; omega
          clear hl8 hhx
          go_wp2_with (at_builtin; go_loud (refine wpList_append_S rfl (.tmp 55) (.tmp 57) 25 25 rfl i0 (.string ⟨#[]⟩) 16 (.slice 9) Tryz.underlying25 Tryz.underlying25 (fun _ h => by cases h) hi hz0 hz1 hz2 rfl rfl rfl HO8.out HSRC.out hmax hbyte hbs ?_; intro A9 c9 w9 ho9 hg9 hw9; have hst9 := HST8.out.chgHi (Chg.of_grown hg9 (fun k hk => (HO8.out.lt k hk).1)); have k9 : w9.cell? ⟨g2, 4, none⟩ = some (.slice A P.length cA) := hst9.obj.cell 4 (by decide); have f9 : w9.frozen? ⟨g2, 4, none⟩ = false := hst9.obj.frozen 4; have HST9 := Lib.hid hst9; clear hst9))
          have HST10 := Lib.hid (HST9.out.set (i := 4) (v := .slice A9 (P.length + 1) c9) (V' := comV x0 (.slice A9 (P.length + 1) c9) ⟨#[]⟩ ⟨#[]⟩ ⟨#[]⟩) (fun j hj => by rcases j with _ | _ | _ | _ | _ | _ | _ | _ | _ | _ | _ | _ | j <;> first | rfl | omega))
          have HO10 : Hid (OwnS (w9.setCell ⟨g2, 4, none⟩ (.slice A9 (P.length + 1) c9)) (g2 + 1) 9 1 (.slice A9 (P.length + 1) c9) (P ++ [x.data.toList]).length (strVs (P ++ [x.data.toList]))) := Lib.hid (by
            have h := ho9.setLow (a := ⟨g2, 4, none⟩) (by show g2 < g2 + 1; omega) (.slice A9 (P.length + 1) c9)
            rw [List.length_append]
            unfold strVs
            rw [List.map_append, List.map_cons, bk_of]
            exact h)
          go_roundw
          case rel =>
            refine ⟨s3, P ++ [x.data.toList], f - 1, _, rfl, HST10.out, HO10.out, ?_, ?_, ?_, ?_⟩
            · have := HN2.out; have := HX3.out; omega
            · have := HN2.out; have := HX3.out; omega
            · rw [List.length_append]; have := HN2.out; have := HX3.out; simp only [List.length_cons, List.length_nil]; omega
            · rw [HPF.out, HPN.out]
          case measure => simp only [sLen]; exact HX3.out.1
    case false =>
      have HPN : Hid (parsF (s1.size + 1) s1.data.toList [] = some (P, s2.data.toList)) := Lib.hid (by
        obtain ⟨f', rfl⟩ : ∃ f', f = f' + 1 := ⟨f - 1, by have := HN2.out; omega⟩
        rw [HPF.out, parsF, HF6.out.no])
      have HZ3 : Hid (s2.size ≤ s.size) := Lib.hid (by have := HN2.out; have := HZ1.out; omega)
      clear HPF HF6
      go_wp2_with fail
      refine (line_any s2 authorN w6 (by have := HZ3.out; have := HS.out; omega) (by decide) (by decide)).mono ?_
      rintro e w7 ⟨x1, b1, s4, rfl, hf7, hb7⟩
      have HF1 := Lib.hid hf7
      have HST7 := Lib.hid (HST6.out.below hb7)
      have HO7 := Lib.hid (HO6.out.lowB hb7)
      have HZ4 : Hid (s4.size ≤ s.size) := Lib.hid (Nat.le_trans hf7.size HZ3.out)
      have k5 : w7.cell? ⟨g2, 5, none⟩ = some (.string ⟨#[]⟩) := HST7.out.obj.cell 5 (by decide)
      have f5 : w7.frozen? ⟨g2, 5, none⟩ = false := HST7.out.obj.frozen 5
      clear hf7 hb7 HST6 HO6
      go_upto_region 18 with (fail)
      have HST8 := Lib.hid (HST7.out.set (i := 5) (v := .string x1) (V' := comV x0 (.slice A P.length cA) x1 ⟨#[]⟩ ⟨#[]⟩) (fun j hj => by rcases j with _ | _ | _ | _ | _ | _ | _ | _ | _ | _ | _ | _ | j <;> first | rfl | omega))
      have HO8 := Lib.hid (HO7.out.setLow (a := ⟨g2, 5, none⟩) (by show g2 < g2 + 1; omega) (.string x1))
      clear k5 f5 HST7 HO7
      generalize w7.setCell ⟨g2, 5, none⟩ (.string x1) = w8 at *
      cases b1
      case false =>
        have HNO : Hid (commitF s.data.toList = none) := Lib.hid (commitF_2 HF0.out HPN.out HF1.out)
        have hC5 := HST8.out.res
        have HLB := Lib.hid (HST8.out.low)
        have hge1 := HST8.out.e1
        go_wp2_with (refine wpList_store_part (vs := zeroV) (off := 0) rfl (.tmp 2) (.tmp 76) rfl rfl rfl hC5 info_o8 (Nat.le_refl 12) zeroV_one ?_; intro w88 hC8 hg8 hs8; have hC9 := CelV.stored rfl hC8)
        exact bodyPost_ret (v := .tuple #[.agg zeroV, .bool false]) (results_cel2 rfl _ _ rfl rfl hC9 Tryz.underlying50 rfl info_o8 (Nat.le_refl 12) (fun j hj => getD_some hj)) rfl (by rw [HPO.out]; exact ⟨HLB.out.grown hg8 HLB.out.size (fun k h => by injection h with h; rw [← h]; exact hge1), .inl ⟨HNO.out, rfl⟩⟩)
      case true =>
      have HXZ1 : Hid (x1.size ≤ s.size) := Lib.hid (by have := HF1.out.xsize.1; have := HZ3.out; omega)
      have k5 : w8.cell? ⟨g2, 5, none⟩ = some (.string x1) := HST8.out.obj.cell 5 (by decide)
      have HP1 := Lib.hid (personR_any x1 w8 (by have := HXZ1.out; have := HS.out; omega))
      unfold PersPost at HP1
      go_wp2_with fail
      refine HP1.out.mono ?_
      rintro e w9 ⟨rfl, hb9⟩
      have HST9 := Lib.hid (HST8.out.below hb9)
      have HO9 := Lib.hid (HO8.out.lowB hb9)
      clear hb9 k5 HST8 HO8 HP1
      cases hx1 : persB x1
      case false =>
        have HNO : Hid (commitF s.data.toList = none) := Lib.hid (commitF_3 HF0.out HPN.out HF1.out hx1)
        have hC5 := HST9.out.res
        have HLB := Lib.hid (HST9.out.low)
        have hge1 := HST9.out.e1
        go_wp2_with (refine wpList_store_part (vs := zeroV) (off := 0) rfl (.tmp 2) (.tmp 76) rfl rfl rfl hC5 info_o8 (Nat.le_refl 12) zeroV_one ?_; intro w88 hC8 hg8 hs8; have hC9 := CelV.stored rfl hC8)
        exact bodyPost_ret (v := .tuple #[.agg zeroV, .bool false]) (results_cel2 rfl _ _ rfl rfl hC9 Tryz.underlying50 rfl info_o8 (Nat.le_refl 12) (fun j hj => getD_some hj)) rfl (by rw [HPO.out]; exact ⟨HLB.out.grown hg8 HLB.out.size (fun k h => by injection h with h; rw [← h]; exact hge1), .inl ⟨HNO.out, rfl⟩⟩)
      case true =>
      have HX1 := Lib.hid hx1
      clear hx1
      go_wp2_with fail
      refine (line_any s4 committerN w9 (by have := HZ4.out; have := HS.out; omega) (by decide) (by decide)).mono ?_
      rintro e w10 ⟨x2, b2, s5, rfl, hf10, hb10⟩
      have HF2 := Lib.hid hf10
      have HST10 := Lib.hid (HST9.out.below hb10)
      have HO10 := Lib.hid (HO9.out.lowB hb10)
      have HZ5 : Hid (s5.size ≤ s.size) := Lib.hid (Nat.le_trans hf10.size HZ4.out)
      have k6 : w10.cell? ⟨g2, 6, none⟩ = some (.string ⟨#[]⟩) := HST10.out.obj.cell 6 (by decide)
      have f6 : w10.frozen? ⟨g2, 6, none⟩ = false := HST10.out.obj.frozen 6
      clear hf10 hb10 HST9 HO9
      go_upto_region 21 with (fail)
      have HST11 := Lib.hid (HST10.out.set (i := 6) (v := .string x2) (V' := comV x0 (.slice A P.length cA) x1 x2 ⟨#[]⟩) (fun j hj => by rcases j with _ | _ | _ | _ | _ | _ | _ | _ | _ | _ | _ | _ | j <;> first | rfl | omega))
      have HO11 := Lib.hid (HO10.out.setLow (a := ⟨g2, 6, none⟩) (by show g2 < g2 + 1; omega) (.string x2))
      clear k6 f6 HST10 HO10
      generalize w10.setCell ⟨g2, 6, none⟩ (.string x2) = w11 at *
      cases b2
      case false =>
        have HNO : Hid (commitF s.data.toList = none) := Lib.hid (commitF_4 HF0.out HPN.out HF1.out HF2.out)
        have hC5 := HST11.out.res
        have HLB := Lib.hid (HST11.out.low)
        have hge1 := HST11.out.e1
        go_wp2_with (refine wpList_store_part (vs := zeroV) (off := 0) rfl (.tmp 2) (.tmp 108) rfl rfl rfl hC5 info_o8 (Nat.le_refl 12) zeroV_one ?_; intro w88 hC8 hg8 hs8; have hC9 := CelV.stored rfl hC8)
        exact bodyPost_ret (v := .tuple #[.agg zeroV, .bool false]) (results_cel2 rfl _ _ rfl rfl hC9 Tryz.underlying50 rfl info_o8 (Nat.le_refl 12) (fun j hj => getD_some hj)) rfl (by rw [HPO.out]; exact ⟨HLB.out.grown hg8 HLB.out.size (fun k h => by injection h with h; rw [← h]; exact hge1), .inl ⟨HNO.out, rfl⟩⟩)
      case true =>
      have HXZ2 : Hid (x2.size ≤ s.size) := Lib.hid (by have := HF2.out.xsize.1; have := HZ4.out; omega)
      have HALL := Lib.hid (commitF_all HF0.out HPN.out HF1.out HF2.out)
      have k6 : w11.cell? ⟨g2, 6, none⟩ = some (.string x2) := HST11.out.obj.cell 6 (by decide)
      have HP2 := Lib.hid (personR_any x2 w11 (by have := HXZ2.out; have := HS.out; omega))
      unfold PersPost at HP2
      go_wp2_with fail
      refine HP2.out.mono ?_
      rintro e w12 ⟨rfl, hb12⟩
      have HST12 := Lib.hid (HST11.out.below hb12)
      have HO12 := Lib.hid (HO11.out.lowB hb12)
      clear hb12 k6 HST11 HO11 HP2
      cases hx2 : persB x2
      case false =>
        have HNO : Hid (commitF s.data.toList = none) := Lib.hid (by rw [HALL.out, if_pos (.inr (.inr hx2))])
        have hC5 := HST12.out.res
        have HLB := Lib.hid (HST12.out.low)
        have hge1 := HST12.out.e1
        go_wp2_with (refine wpList_store_part (vs := zeroV) (off := 0) rfl (.tmp 2) (.tmp 108) rfl rfl rfl hC5 info_o8 (Nat.le_refl 12) zeroV_one ?_; intro w88 hC8 hg8 hs8; have hC9 := CelV.stored rfl hC8)
        exact bodyPost_ret (v := .tuple #[.agg zeroV, .bool false]) (results_cel2 rfl _ _ rfl rfl hC9 Tryz.underlying50 rfl info_o8 (Nat.le_refl 12) (fun j hj => getD_some hj)) rfl (by rw [HPO.out]; exact ⟨HLB.out.grown hg8 HLB.out.size (fun k h => by injection h with h; rw [← h]; exact hge1), .inl ⟨HNO.out, rfl⟩⟩)
      case true =>
      have HX2 := Lib.hid hx2
      clear hx2
      by_cases hz : s5.size = 0
      case pos =>
        have HZ := Lib.hid hz
        have d0 : ((s5.size : Int) == 0) = true := by rw [beq_iff_eq]; omega
        clear hz
        have HNO : Hid (commitF s.data.toList = none) := Lib.hid (by rw [HALL.out, msgF_nil HZ.out]; split <;> rfl)
        have hC5 := HST12.out.res
        have HLB := Lib.hid (HST12.out.low)
        have hge1 := HST12.out.e1
        go_wp2_with (refine wpList_store_part (vs := zeroV) (off := 0) rfl (.tmp 2) (.tmp 108) rfl rfl rfl hC5 info_o8 (Nat.le_refl 12) zeroV_one ?_; intro w88 hC8 hg8 hs8; have hC9 := CelV.stored rfl hC8)
        exact bodyPost_ret (v := .tuple #[.agg zeroV, .bool false]) (results_cel2 rfl _ _ rfl rfl hC9 Tryz.underlying50 rfl info_o8 (Nat.le_refl 12) (fun j hj => getD_some hj)) rfl (by rw [HPO.out]; exact ⟨HLB.out.grown hg8 HLB.out.size (fun k h => by injection h with h; rw [← h]; exact hge1), .inl ⟨HNO.out, rfl⟩⟩)
      case neg =>
      have hpos : 0 < s5.size := by omega
      have d0 : ((s5.size : Int) == 0) = false := by rw [beq_eq_false_iff_ne]; omega
      clear hz
      by_cases h10 : s5[0]'hpos = 10
      case neg =>
        have HNM := Lib.hid (msgF_10 hpos h10)
        have q : ((((s5[0]'hpos).toNat : Nat) : Int) == 10) = false := by
          rw [beq_eq_false_iff_ne]
          intro h
          exact h10 (UInt8.toNat_inj.1 (by show _ = 10; omega))
        have q' : ((((s5[0]'hpos).toNat : Nat) : Int) != 10) = true := by unfold bne; rw [q]; rfl
        clear h10
        have HNO : Hid (commitF s.data.toList = none) := Lib.hid (by rw [HALL.out, HNM.out]; split <;> rfl)
        have hC5 := HST12.out.res
        have HLB := Lib.hid (HST12.out.low)
        have hge1 := HST12.out.e1
        go_wp2_with (refine wpList_store_part (vs := zeroV) (off := 0) rfl (.tmp 2) (.tmp 108) rfl rfl rfl hC5 info_o8 (Nat.le_refl 12) zeroV_one ?_; intro w88 hC8 hg8 hs8; have hC9 := CelV.stored rfl hC8)
        exact bodyPost_ret (v := .tuple #[.agg zeroV, .bool false]) (results_cel2 rfl _ _ rfl rfl hC9 Tryz.underlying50 rfl info_o8 (Nat.le_refl 12) (fun j hj => getD_some hj)) rfl (by rw [HPO.out]; exact ⟨HLB.out.grown hg8 HLB.out.size (fun k h => by injection h with h; rw [← h]; exact hge1), .inl ⟨HNO.out, rfl⟩⟩)
      case pos =>
      have HNM := Lib.hid (msgF_go hpos h10)
      have q : ((((s5[0]'hpos).toNat : Nat) : Int) == 10) = true := by rw [h10]; rfl
      have q' : ((((s5[0]'hpos).toNat : Nat) : Int) != 10) = false := by unfold bne; rw [q]; rfl
      have h1 : (1 : Int) ≤ (s5.size : Int) := by omega
      have hez : (s5.extract 1 s5.size).size ≤ s.size := by rw [ByteArray.size_extract]; have := HZ5.out; omega
      have HWO := Lib.hid (without_any (s5.extract 1 s5.size) ⟨#[0]⟩ w12 (by have := HS.out; omega) (by decide))
      change Hid (Calls Tryz.prog 90 #[.string (s5.extract 1 s5.size), .string ⟨#[0]⟩] w12 fun e w' => e = .returned (.bool (withoutB (s5.extract 1 s5.size).data.toList [0])) ∧ Below w12.heap.size w12 w') at HWO
      clear h10 hez
      go_wp2_with fail
      refine HWO.out.mono ?_
      rintro e w13 ⟨rfl, hb13⟩
      have HST13 := Lib.hid (HST12.out.below hb13)
      have HO13 := Lib.hid (HO12.out.lowB hb13)
      clear hb13 HST12 HO12 HWO
      cases hm : withoutB (s5.extract 1 s5.size).data.toList [0]
      case false =>
        have HNO : Hid (commitF s.data.toList = none) := Lib.hid (by rw [HALL.out, HNM.out, hm]; split <;> rfl)
        have hC5 := HST13.out.res
        have HLB := Lib.hid (HST13.out.low)
        have hge1 := HST13.out.e1
        go_wp2_with (refine wpList_store_part (vs := zeroV) (off := 0) rfl (.tmp 2) (.tmp 108) rfl rfl rfl hC5 info_o8 (Nat.le_refl 12) zeroV_one ?_; intro w88 hC8 hg8 hs8; have hC9 := CelV.stored rfl hC8)
        exact bodyPost_ret (v := .tuple #[.agg zeroV, .bool false]) (results_cel2 rfl _ _ rfl rfl hC9 Tryz.underlying50 rfl info_o8 (Nat.le_refl 12) (fun j hj => getD_some hj)) rfl (by rw [HPO.out]; exact ⟨HLB.out.grown hg8 HLB.out.size (fun k h => by injection h with h; rw [← h]; exact hge1), .inl ⟨HNO.out, rfl⟩⟩)
      case true =>
      have HYES : Hid (commitF s.data.toList = some ⟨x0.data.toList, P, x1.data.toList, x2.data.toList, (s5.extract 1 s5.size).data.toList⟩) := Lib.hid (by
        rw [HALL.out, HNM.out, hm, if_neg (by rintro (h | h | h); exact absurd (HX0.out.symm.trans h) (by decide); exact absurd (HX1.out.symm.trans h) (by decide); exact absurd (HX2.out.symm.trans h) (by decide))]; rfl)
      have k11 : w13.cell? ⟨g2, 11, none⟩ = some (.string ⟨#[]⟩) := HST13.out.obj.cell 11 (by decide)
      have f11 : w13.frozen? ⟨g2, 11, none⟩ = false := HST13.out.obj.frozen 11
      clear hm
      go_upto_region 24 with (fail)
      have HST14 := Lib.hid (HST13.out.set (i := 11) (v := .string (s5.extract 1 s5.size)) (V' := comV x0 (.slice A P.length cA) x1 x2 (s5.extract 1 s5.size)) (fun j hj => by rcases j with _ | _ | _ | _ | _ | _ | _ | _ | _ | _ | _ | _ | j <;> first | rfl | omega))
      have HO14 := Lib.hid (HO13.out.setLow (a := ⟨g2, 11, none⟩) (by show g2 < g2 + 1; omega) (.string (s5.extract 1 s5.size)))
      clear k11 f11 HST13 HO13
      generalize hM : s5.extract 1 s5.size = M at *
      clear hM q q' d0 h1
      generalize w13.setCell ⟨g2, 11, none⟩ (.string M) = w14 at *
      have hCo := HST14.out.obj
      have hC5 := HST14.out.res
      have HLB := Lib.hid HST14.out.low
      have hge1 := HST14.out.e1
      have hlt12 := HST14.out.lt
      go_wp2_with (first
        | (refine wpList_load_part (vs := comV x0 (.slice A P.length cA) x1 x2 M) (off := 0) rfl (.tmp 4) rfl rfl hCo Tryz.underlying50 rfl info_o8 (Nat.le_refl 12) (fun j hj => by rw [Nat.zero_add]; exact getD_some hj) ?_)
        | (refine wpList_store_part (vs := comV x0 (.slice A P.length cA) x1 x2 M) (off := 0) rfl (.tmp 2) (.tmp 112) rfl rfl rfl hC5 info_o8 (Nat.le_refl 12) (comV_one _ _ _ _ _ _ _) ?_; intro w88 hC8 hg8 hs8; have hC9 := CelV.stored rfl hC8))
      have ho9 := HO14.out.kept hg8 (.inr (fun h => by have := (HO14.out.lt _ h).1; omega))
      exact bodyPost_ret (v := .tuple #[.agg (comV x0 (.slice A P.length cA) x1 x2 M), .bool true]) (results_cel2 rfl _ _ rfl rfl hC9 Tryz.underlying50 rfl info_o8 (Nat.le_refl 12) (fun j hj => getD_some hj)) rfl (by rw [HPO.out]; exact ⟨HLB.out.grown hg8 HLB.out.size (fun k h => by injection h with h; rw [← h]; exact hge1), .inr ⟨_, A, cA, HYES.out, by simp only [bk_of], ho9.base_ (by omega)⟩⟩)
end Go.Proofs.YtdlabapfcghfmaaGreatDoor
namespace Go.Proofs.YtdlabapfcghfmaaGreatDoor
open Go.RowKit
set_option linter.unusedVariables false
set_option linter.unusedSimpArgs false

set_option maxRecDepth 100000 in
theorem rzero_any (w : World) : Calls Tryz.prog 85 #[] w fun e w' => e = .returned (.string zeroS) ∧ w = w' := by
  unfold zeroS
  go_enter Tryz.func85, Tryz.ntmps85
  go_wp2
  go_ret
  exact ⟨rfl, rfl⟩
theorem zeroS_list : zeroS.data.toList = List.replicate 40 48 := by kernel_rfl
theorem hexS_zero (id : List UInt8) (h : id.length = 20) : ((hexS id).toList == zeroS.toList) = id.all (· == 0) := by
  rw [← zero_hexS]
  unfold zeroB
  rw [Lib.toList_data, Lib.toList_data, zeroS_list, Bool.eq_iff_iff, beq_iff_eq, List.all_eq_true, List.eq_replicate_iff]
  constructor
  · rintro ⟨_, h2⟩ x hx
    rw [beq_iff_eq]; exact h2 x hx
  · intro h2
    refine ⟨by rw [← Lib.size_eq, hexS_size, h], fun x hx => ?_⟩
    have := h2 x hx
    rwa [beq_iff_eq] at this
/-- An entry read the document's way. -/
theorem entU_doc {l : List UInt8} {i j : Nat} (h1 : l[i]? = some 32) (n1 : ∀ k, k < i → l[k]? ≠ some 32) (h2 : (l.drop (i + 1))[j]? = some 0) (n2 : ∀ k, k < j → (l.drop (i + 1))[k]? ≠ some 0) :
    entU l = if modeB (l.take i) = false ∨ partU ((l.drop (i + 1)).take j) = false ∨ ((l.drop (i + 1)).drop (j + 1)).length < 20 ∨ (((l.drop (i + 1)).drop (j + 1)).take 20).all (· == 0) = true then none
      else some (⟨bk (l.take i), bk ((l.drop (i + 1)).take j), hexS (((l.drop (i + 1)).drop (j + 1)).take 20)⟩, ((l.drop (i + 1)).drop (j + 1)).drop 20) := by
  have e1 := indexByte_at h1 n1
  have e2 := indexByte_at h2 n2
  unfold entU
  rw [e1, if_neg (by omega)]
  simp only [Int.toNat_natCast]
  rw [e2]
  by_cases c1 : modeB (l.take i) = false
  · rw [if_pos c1, if_pos (.inl c1)]
  · rw [if_neg c1, if_neg (by omega)]
    simp only [Int.toNat_natCast]
    by_cases c2 : partU ((l.drop (i + 1)).take j) = false ∨ ((l.drop (i + 1)).drop (j + 1)).length < 20
    · rw [if_pos c2, if_pos (by rcases c2 with h | h; exact .inr (.inl h); exact .inr (.inr (.inl h)))]
    · rw [if_neg c2]
      by_cases c3 : (((l.drop (i + 1)).drop (j + 1)).take 20).all (· == 0) = true
      · rw [if_pos c3, if_pos (.inr (.inr (.inr c3)))]
      · rw [if_neg c3, if_neg (by rintro (h | h | h | h); exact c1 h; exact c2 (.inl h); exact c2 (.inr h); exact c3 h)]
theorem entU_doc1 {l : List UInt8} (h : (32 : UInt8) ∉ l) : entU l = none := by
  unfold entU
  rw [indexByte_not h]; rfl
theorem entU_doc2 {l : List UInt8} {i : Nat} (h1 : l[i]? = some 32) (n1 : ∀ k, k < i → l[k]? ≠ some 32) (h2 : (0 : UInt8) ∉ l.drop (i + 1)) : entU l = none := by
  unfold entU
  rw [indexByte_at h1 n1, if_neg (by omega)]
  simp only [Int.toNat_natCast]
  split
  · rfl
  · rw [indexByte_not h2]; rfl
theorem entU_doc3 {l : List UInt8} {i : Nat} (h1 : l[i]? = some 32) (n1 : ∀ k, k < i → l[k]? ≠ some 32) (h2 : modeB (l.take i) = false) : entU l = none := by
  unfold entU
  rw [indexByte_at h1 n1, if_neg (by omega)]
  simp only [Int.toNat_natCast]
  rw [if_pos h2]
set_option maxRecDepth 100000 in
set_option maxHeartbeats 8000000 in
theorem rtree_any (s : ByteArray) (w : World) (hs : s.size ≤ 8796093022000) : Calls Tryz.prog 48 #[.string s] w (RTree s.data.toList w) := by
  have HS := Lib.hid hs
  have HPO : Hid (∀ e w', RTree s.data.toList w e w' = (Below w.heap.size w w' ∧ ((treeF s.data.toList = none ∧ e = .returned (.tuple #[.slice none 0 0, .bool false])) ∨ ∃ L A c, treeF s.data.toList = some L ∧ e = .returned (.tuple #[.slice A L.length c, .bool true]) ∧ OwnS w' w.heap.size 28 3 (.slice A L.length c) L.length (entVs L)))) := Lib.hid (fun _ _ => rfl)
  have HTF : Hid (treeF s.data.toList = treeU (s.size + 1) s.data.toList []) := Lib.hid (by rw [Lib.size_eq]; rfl)
  generalize RTree s.data.toList w = POST at *
  obtain ⟨i0, hi, hz0, hz1, hz2⟩ := info_parts info_ent
  clear hs
  go_enter Tryz.func48, Tryz.ntmps48
  go_wp2
  go_loopw [0, 4] (fun v0 v4 wr => ∃ (s2 : ByteArray) (L : List Ent) (f : Nat) (v : Value), v0 = .string s2 ∧ v4 = v ∧ OwnS wr w.heap.size 28 3 v L.length (entVs L) ∧ Below w.heap.size w wr ∧ s2.size < f ∧ L.length * 22 + s2.size ≤ s.size ∧ treeF s.data.toList = treeU f s2.data.toList L ∧ ∀ y ∈ L, y.n.size ≤ s.size) (fun v0 _ _ => sLen v0)
  case atStart => exact ⟨s, [], s.size + 1, _, rfl, rfl, OwnS.nil _ _ _ _, Below.refl _ _, Nat.lt_succ_self _, by simp, HTF.out, fun y hy => by cases hy⟩
  case round =>
    clear HTF
    obtain ⟨s2, L, f, v, rfl, rfl, ho, hb, hf, hLl, htf, hysz⟩ := hrel
    obtain ⟨Av, cv, rfl⟩ := ho.shape
    have HYS := Lib.hid hysz
    have HO := Lib.hid ho
    have HB := Lib.hid hb
    have HTF := Lib.hid htf
    have HN : Hid (s2.size < f ∧ L.length * 22 + s2.size ≤ s.size) := Lib.hid ⟨hf, hLl⟩
    clear hysz ho hb htf hf hLl
    by_cases h0 : s2.size = 0
    · have hl : s2.data.toList = [] := List.eq_nil_of_length_eq_zero (by rw [← Lib.size_eq]; exact h0)
      have q0 : (s2.toList == []) = true := by rw [Lib.toList_data, hl]; rfl
      have q0' : s2.toList.isEmpty = true := by rw [Lib.toList_data, hl]; rfl
      have HYES : Hid (treeF s.data.toList = some L) := Lib.hid (by
        obtain ⟨f', rfl⟩ : ∃ f', f = f' + 1 := ⟨f - 1, by have := HN.out; omega⟩
        rw [HTF.out, treeU, if_pos hl])
      clear h0 hl
      go_wp2
      rw [HPO.out]
      exact ⟨HB.out, .inr ⟨L, Av, cv, HYES.out, rfl, HO.out⟩⟩
    · have hne : s2.data.toList ≠ [] := fun hc => h0 (by rw [Lib.size_eq, hc]; rfl)
      have q0 : (s2.toList == []) = false := by rw [beq_eq_false_iff_ne, Lib.toList_data]; exact hne
      have q0' : s2.toList.isEmpty = false := by rw [Lib.toList_data, List.isEmpty_eq_false_iff]; exact hne
      have HNX : Hid (∀ (hx : entU s2.data.toList = none), treeF s.data.toList = none) := Lib.hid (fun hx => by
        obtain ⟨f', rfl⟩ : ∃ f', f = f' + 1 := ⟨f - 1, by have := HN.out; omega⟩
        rw [HTF.out, treeU, if_neg hne, hx])
      have HNE := Lib.hid hne
      clear hne h0
      go_wp2_with fail
      refine (upto_any s2 32 wr (by have := HN.out; have := HS.out; omega)).mono ?_
      rintro e w1 ⟨hb1, ⟨hno, rfl⟩ | ⟨i, hi1, hx1, hno1, rfl⟩⟩
      · have HB1 := Lib.hid (HB.out.trans (hb1.mono HB.out.size))
        have HNO := Lib.hid (HNX.out (entU_doc1 hno))
        clear hb1 hno
        go_wp2
        rw [HPO.out]
        exact ⟨HB1.out, .inl ⟨HNO.out, rfl⟩⟩
      · have HB1 := Lib.hid (HB.out.trans (hb1.mono HB.out.size))
        have HO1 := Lib.hid (HO.out.lowB hb1)
        have HX1 := Lib.hid hx1
        have HN1 := Lib.hid hno1
        have HI1 := Lib.hid hi1
        have e1 : (s2.extract 0 i).data.toList = s2.data.toList.take i := by rw [bk_ext0, bk_list]
        have e2 : (s2.extract (i + 1) s2.size).data.toList = s2.data.toList.drop (i + 1) := by rw [bk_extE, bk_list]
        have z1 : (s2.extract 0 i).size ≤ s2.size := by rw [ByteArray.size_extract]; omega
        have z2 : (s2.extract (i + 1) s2.size).size ≤ s2.size := by rw [ByteArray.size_extract]; omega
        generalize s2.extract 0 i = xm at *
        generalize s2.extract (i + 1) s2.size = s3 at *
        have HE1 := Lib.hid e1
        have HE2 := Lib.hid e2
        have HZ1 : Hid (xm.size ≤ s2.size ∧ s3.size ≤ s2.size) := Lib.hid ⟨z1, z2⟩
        clear hb1 hx1 hno1 hi1 e1 e2 z1 z2 HB HO
        go_wp2_with fail
        refine (mode_any xm w1).mono ?_
        rintro e w2 ⟨rfl, rfl⟩
        cases hm : modeB xm.data.toList
        · have HNO := Lib.hid (HNX.out (entU_doc3 HX1.out HN1.out (by rw [← HE1.out]; exact hm)))
          clear hm
          go_wp2
          rw [HPO.out]
          exact ⟨HB1.out, .inl ⟨HNO.out, rfl⟩⟩
        · have HM := Lib.hid hm
          clear hm
          go_wp2_with fail
          refine (upto_any s3 0 w2 (by have := HZ1.out; have := HN.out; have := HS.out; omega)).mono ?_
          rintro e w3 ⟨hb3, ⟨hno, rfl⟩ | ⟨j, hj1, hx3, hno3, rfl⟩⟩
          · have HB3 := Lib.hid (HB1.out.trans (hb3.mono HB1.out.size))
            have HNO := Lib.hid (HNX.out (entU_doc2 HX1.out HN1.out (by rw [← HE2.out]; exact hno)))
            clear hb3 hno
            go_wp2
            rw [HPO.out]
            exact ⟨HB3.out, .inl ⟨HNO.out, rfl⟩⟩
          · have HB3 := Lib.hid (HB1.out.trans (hb3.mono HB1.out.size))
            have HO3 := Lib.hid (HO1.out.lowB hb3)
            have HENT := Lib.hid (entU_doc HX1.out HN1.out (by rw [← HE2.out]; exact hx3) (by rw [← HE2.out]; exact hno3))
            have e3 : (s3.extract 0 j).data.toList = s3.data.toList.take j := by rw [bk_ext0, bk_list]
            have e4 : (s3.extract (j + 1) s3.size).data.toList = s3.data.toList.drop (j + 1) := by rw [bk_extE, bk_list]
            have z3 : (s3.extract 0 j).size ≤ s3.size := by rw [ByteArray.size_extract]; omega
            have z4 : (s3.extract (j + 1) s3.size).size + i + j + 2 = s2.size := by
              have h1 := (List.getElem?_eq_some_iff.1 HX1.out).1
              have h2 := (List.getElem?_eq_some_iff.1 hx3).1
              rw [Lib.size_eq, e4, HE2.out, List.length_drop, List.length_drop, Lib.size_eq]
              rw [HE2.out, List.length_drop] at h2
              omega
            rw [← HE1.out, ← HE2.out, ← e3, ← e4, bk_of, bk_of] at HENT
            generalize s3.extract 0 j = xn at *
            generalize s3.extract (j + 1) s3.size = q at *
            have HE4 := Lib.hid e4
            have HZ3 : Hid (xn.size ≤ s3.size ∧ q.size + i + j + 2 = s2.size) := Lib.hid ⟨z3, z4⟩
            clear hb3 hx3 hno3 hj1 e3 e4 z3 z4 HB1 HO1
            go_wp2_with fail
            refine (part_any xn w3 (by have := HZ3.out; have := HZ1.out; have := HN.out; have := HS.out; omega)).mono ?_
            rintro e w4 ⟨rfl, hb4⟩
            have HB4 := Lib.hid (HB3.out.trans (hb4.mono HB3.out.size))
            have HO4 := Lib.hid (HO3.out.lowB hb4)
            clear hb4 HB3 HO3
            cases hp : partU xn.data.toList
            · have HNO := Lib.hid (HNX.out (by rw [HENT.out, if_pos (.inr (.inl hp))]))
              clear hp
              go_wp2
              rw [HPO.out]
              exact ⟨HB4.out, .inl ⟨HNO.out, rfl⟩⟩
            · have HP := Lib.hid hp
              clear hp
              by_cases h20 : q.size < 20
              · have HNO := Lib.hid (HNX.out (by rw [HENT.out, if_pos (.inr (.inr (.inl (by rw [← Lib.size_eq]; exact h20))))]))
                have d20 : decide ((q.size : Int) < 20) = true := decide_eq_true (by omega)
                have d20' : decide (q.size < 20) = true := decide_eq_true h20
                clear h20
                go_wp2
                rw [HPO.out]
                exact ⟨HB4.out, .inl ⟨HNO.out, rfl⟩⟩
              · have d20 : decide ((q.size : Int) < 20) = false := decide_eq_false (by omega)
                have d20' : decide (q.size < 20) = false := decide_eq_false h20
                have hq20 : (20 : Int) ≤ (q.size : Int) := by omega
                have hqs : q.size ≤ 8796093022000 := by have := HZ3.out; have := HN.out; have := HS.out; omega
                have HQ : Hid (20 ≤ q.size) := Lib.hid (by omega)
                have z5 : (q.extract 0 20).size = 20 := by rw [ByteArray.size_extract]; omega
                have e5 : (q.extract 0 20).data.toList = q.data.toList.take 20 := by rw [bk_ext0, bk_list]
                obtain ⟨xi, hxi⟩ : ∃ xi, xi = strOfNums (hexL (bytesOf (q.extract 0 20))) := ⟨_, rfl⟩
                have HXI : Hid (xi = hexS (q.data.toList.take 20)) := Lib.hid (by rw [hxi]; unfold hexS; rw [← e5, bk_of])
                have HHEX := Lib.hid (fun A c W (hI : Ints .u8 W A (bytesOf (q.extract 0 20))) => hexR_any A 20 c (bytesOf (q.extract 0 20)) W hI (by rw [bytesOf_len]; exact z5) (bytesOf_ok _) (by decide))
                rw [← hxi] at HHEX
                have HZ5 := Lib.hid z5
                have hqx : (q.extract 0 20).size ≤ 140737488351300 := by omega
                clear h20 e5 hxi z5
                go_upto_region 9 with (fail)
                go_upto_region 10 with (first
                  | (have hx5 := hb5; go_at_call 38; refine (HHEX.out A5 c5 w5 ho5.ints).mono ?_; rintro e w6 ⟨rfl, hb6⟩)
                  | (refine wpList_convO rfl (.tmp 48) rfl (q.extract 0 20) 20 (bytesOf (q.extract 0 20)) rfl HZ5.out rfl hqx ?_; intro A5 c5 w5 ho5 hc5 hm5 hb5))
                have hl7 : Below w6.heap.size w6 (w6.alloc (.cells #[.string xm, .string xn, .string xi] 28)) := (Below.refl _ _).alloc (Nat.le_refl _) _
                have HC7 := Lib.hid (entF_new w6 ⟨xm, xn, xi⟩)
                have HO7 := Lib.hid (((HO4.out.lowB hb5).lowB hb6).lowB hl7)
                have HB7 := Lib.hid (((HB4.out.trans (hb5.mono HB4.out.size)).trans (hb6.mono (HB4.out.trans (hb5.mono HB4.out.size)).size)).trans (hl7.mono ((HB4.out.trans (hb5.mono HB4.out.size)).trans (hb6.mono (HB4.out.trans (hb5.mono HB4.out.size)).size)).size))
                have HG4 : Hid (w.heap.size ≤ w6.heap.size) := Lib.hid (((HB4.out.trans (hb5.mono HB4.out.size)).trans (hb6.mono (HB4.out.trans (hb5.mono HB4.out.size)).size)).size)
                clear hl7 ho5 hc5 hm5 hb5 hb6 HO4 HB4 HHEX hqx d20 d20'
                generalize w6.alloc (.cells #[.string xm, .string xn, .string xi] 28) = w7 at *
                generalize w6.heap.size = g at *
                generalize hzu : (q.data.toList.take 20).all (· == 0) = zu at *
                have hze : (xi.toList == zeroS.toList) = zu := by rw [HXI.out, hexS_zero _ (by rw [List.length_take, ← Lib.size_eq]; have := HQ.out; omega), hzu]
                have HEN : Hid (zu = true → entU s2.data.toList = none) := Lib.hid (fun h => by rw [HENT.out, if_pos (.inr (.inr (.inr h)))])
                have HEY : Hid (zu = false → entU s2.data.toList = some (⟨xm, xn, xi⟩, q.data.toList.drop 20)) := Lib.hid (fun h => by
                  rw [HENT.out, if_neg (by rintro (h1 | h1 | h1 | h1); exact absurd (HM.out.symm.trans h1) (by decide); exact absurd (HP.out.symm.trans h1) (by decide); (have := HQ.out; rw [← Lib.size_eq] at h1; omega); exact absurd (h.symm.trans h1) (by decide)), HXI.out])
                have HZU := Lib.hid hzu
                clear hzu HENT
                have HZN : Hid (xn.size ≤ s.size) := Lib.hid (by have := HZ3.out; have := HZ1.out; have := HN.out; omega)
                go_cut [71] (fun v wx => (∃ bd, v = .bool bd ∧ bd = (zu || !lastOk L ⟨xm, xn, xi⟩)) ∧ Below w7.heap.size w7 wx)
                case first => as_aux_lemma =>
                  cases zu
                  case true =>
                    refine wp_region_ph (by kernel_rfl) [] [.span 0 0, .span 0 0, .span 0 0, .span 0 0, .span 0 0, .span 0 0, .span 0 0, .span 0 0, .span 0 0, .span 0 0, .span 0 0, .span 0 0, .span 0 0, .span 0 0, .span 0 0, .span 0 0, .span 0 0, .span 0 0, .span 0 0, .span 0 0] [fun z9 => z9 = .pointer (some ⟨g, 2, none⟩), fun z9 => z9 = .string xi, fun z9 => z9 = .string zeroS, fun z9 => z9 = .bool true, fun z9 => z9 = .bool true, fun z9 => z9 = undef, fun z9 => z9 = undef, fun z9 => z9 = undef, fun z9 => z9 = undef, fun z9 => z9 = undef, fun z9 => z9 = undef, fun z9 => z9 = undef, fun z9 => z9 = undef, fun z9 => z9 = undef, fun z9 => z9 = undef, fun z9 => z9 = undef, fun z9 => z9 = undef, fun z9 => z9 = undef, fun z9 => z9 = undef, fun z9 => z9 = .bool true] ((fun _ w => Below w7.heap.size w7 w)) (by kernel_rfl) (by kernel_rfl) (by kernel_rfl) (by kernel_rfl) (by kernel_rfl) (by kernel_rfl) rfl rfl ((Below.refl _ _).drew) ?steps ?done
                    case steps =>
                      refine ⟨?_, ?_, ?_, ?_, ?_, ?_, ?_, ?_, ?_, ?_, ?_, ?_, ?_, ?_, ?_, ?_, ?_, ?_, ?_, ?_, trivial⟩
                      · intro us au w1 k0 hlo hhi ha hd hst hI
                        obtain rfl : k0 = 0 := by omega
                        have q10 := slot_far (t := 10) (v := .pointer (some ⟨g, 0, none⟩)) ha (by kernel_rfl) (by kernel_rfl)
                        have p10 := slot_norm q10
                        clear ha hd hst
                        exact StepI.pure (v := .pointer (some ⟨g, 2, none⟩)) rfl rfl (by go_simp) ⟨rfl, hI⟩
                      · intro us au w1 k1 hlo hhi ha hd hst hI
                        obtain rfl : k1 = 0 := by omega
                        have e0 := hd 0 _ (by kernel_rfl) rfl
                        have q52 := slot_at (t := 52) 0 ha (by kernel_rfl) (by kernel_rfl) (by kernel_rfl) e0
                        have p52 := slot_norm q52
                        clear ha hd hst
                        have kk : w1.cell? ⟨g, 2, none⟩ = some (.string xi) := (HC7.out.below hI HC7.out.blk).cell 2 (by decide)
                        exact StepI.pure (v := .string xi) rfl rfl (by go_simp) ⟨rfl, hI⟩
                      · intro us au w1 k2 hlo hhi ha hd hst hI
                        obtain rfl : k2 = 0 := by omega
                        clear ha hd hst
                        refine StepI.call (f := 85) (args := #[]) rfl rfl (by go_simp) ?_
                        refine (rzero_any w1).mono ?_
                        rintro e w5 ⟨rfl, rfl⟩
                        exact ⟨_, rfl, rfl, hI⟩
                      · intro us au w1 k3 hlo hhi ha hd hst hI
                        obtain rfl : k3 = 0 := by omega
                        have e1 := hd 1 _ (by kernel_rfl) rfl
                        have e2 := hd 2 _ (by kernel_rfl) rfl
                        have q53 := slot_at (t := 53) 1 ha (by kernel_rfl) (by kernel_rfl) (by kernel_rfl) e1
                        have p53 := slot_norm q53
                        have q54 := slot_at (t := 54) 2 ha (by kernel_rfl) (by kernel_rfl) (by kernel_rfl) e2
                        have p54 := slot_norm q54
                        clear ha hd hst
                        exact StepI.pure (v := .bool true) rfl rfl (by go_simp) ⟨rfl, hI⟩
                      · intro us au w1 k4 hlo hhi ha hd hst hI
                        obtain rfl : k4 = 0 := by omega
                        have e3 := hd 3 _ (by kernel_rfl) rfl
                        have q55 := slot_at (t := 55) 3 ha (by kernel_rfl) (by kernel_rfl) (by kernel_rfl) e3
                        have p55 := slot_norm q55
                        clear ha hd hst
                        exact StepI.pure (v := .bool true) rfl rfl (by go_simp) ⟨rfl, hI⟩
                      · intro us au w1 k5 hlo hhi ha hd hst hI
                        obtain rfl : k5 = 0 := by omega
                        have e4 := hd 4 _ (by kernel_rfl) rfl
                        have hg := slot_at (t := 56) 4 ha (by kernel_rfl) (by kernel_rfl) (by kernel_rfl) e4
                        exact StepI.skip rfl (unwanted_at rfl rfl hg rfl) ⟨rfl, hI⟩
                      · intro us au w1 k6 hlo hhi ha hd hst hI
                        obtain rfl : k6 = 0 := by omega
                        have e4 := hd 4 _ (by kernel_rfl) rfl
                        have hg := slot_at (t := 56) 4 ha (by kernel_rfl) (by kernel_rfl) (by kernel_rfl) e4
                        exact StepI.skip rfl (unwanted_at rfl rfl hg rfl) ⟨rfl, hI⟩
                      · intro us au w1 k7 hlo hhi ha hd hst hI
                        obtain rfl : k7 = 0 := by omega
                        have e4 := hd 4 _ (by kernel_rfl) rfl
                        have hg := slot_at (t := 56) 4 ha (by kernel_rfl) (by kernel_rfl) (by kernel_rfl) e4
                        exact StepI.skip rfl (unwanted_at rfl rfl hg rfl) ⟨rfl, hI⟩
                      · intro us au w1 k8 hlo hhi ha hd hst hI
                        obtain rfl : k8 = 0 := by omega
                        have e4 := hd 4 _ (by kernel_rfl) rfl
                        have hg := slot_at (t := 56) 4 ha (by kernel_rfl) (by kernel_rfl) (by kernel_rfl) e4
                        exact StepI.skip rfl (unwanted_at rfl rfl hg rfl) ⟨rfl, hI⟩
                      · intro us au w1 k9 hlo hhi ha hd hst hI
                        obtain rfl : k9 = 0 := by omega
                        have e8 := hd 8 _ (by kernel_rfl) rfl
                        have hg := slot_at (t := 60) 8 ha (by kernel_rfl) (by kernel_rfl) (by kernel_rfl) e8
                        exact StepI.skip rfl (unwanted_undef rfl rfl hg) ⟨rfl, hI⟩
                      · intro us au w1 k10 hlo hhi ha hd hst hI
                        obtain rfl : k10 = 0 := by omega
                        have e8 := hd 8 _ (by kernel_rfl) rfl
                        have hg := slot_at (t := 60) 8 ha (by kernel_rfl) (by kernel_rfl) (by kernel_rfl) e8
                        exact StepI.skip rfl (unwanted_undef rfl rfl hg) ⟨rfl, hI⟩
                      · intro us au w1 k11 hlo hhi ha hd hst hI
                        obtain rfl : k11 = 0 := by omega
                        have e8 := hd 8 _ (by kernel_rfl) rfl
                        have hg := slot_at (t := 60) 8 ha (by kernel_rfl) (by kernel_rfl) (by kernel_rfl) e8
                        exact StepI.skip rfl (unwanted_undef rfl rfl hg) ⟨rfl, hI⟩
                      · intro us au w1 k12 hlo hhi ha hd hst hI
                        obtain rfl : k12 = 0 := by omega
                        have e8 := hd 8 _ (by kernel_rfl) rfl
                        have hg := slot_at (t := 60) 8 ha (by kernel_rfl) (by kernel_rfl) (by kernel_rfl) e8
                        exact StepI.skip rfl (unwanted_undef rfl rfl hg) ⟨rfl, hI⟩
                      · intro us au w1 k13 hlo hhi ha hd hst hI
                        obtain rfl : k13 = 0 := by omega
                        have e8 := hd 8 _ (by kernel_rfl) rfl
                        have hg := slot_at (t := 60) 8 ha (by kernel_rfl) (by kernel_rfl) (by kernel_rfl) e8
                        exact StepI.skip rfl (unwanted_undef rfl rfl hg) ⟨rfl, hI⟩
                      · intro us au w1 k14 hlo hhi ha hd hst hI
                        obtain rfl : k14 = 0 := by omega
                        have e8 := hd 8 _ (by kernel_rfl) rfl
                        have hg := slot_at (t := 60) 8 ha (by kernel_rfl) (by kernel_rfl) (by kernel_rfl) e8
                        exact StepI.skip rfl (unwanted_undef rfl rfl hg) ⟨rfl, hI⟩
                      · intro us au w1 k15 hlo hhi ha hd hst hI
                        obtain rfl : k15 = 0 := by omega
                        have e8 := hd 8 _ (by kernel_rfl) rfl
                        have hg := slot_at (t := 60) 8 ha (by kernel_rfl) (by kernel_rfl) (by kernel_rfl) e8
                        exact StepI.skip rfl (unwanted_undef rfl rfl hg) ⟨rfl, hI⟩
                      · intro us au w1 k16 hlo hhi ha hd hst hI
                        obtain rfl : k16 = 0 := by omega
                        have e8 := hd 8 _ (by kernel_rfl) rfl
                        have hg := slot_at (t := 60) 8 ha (by kernel_rfl) (by kernel_rfl) (by kernel_rfl) e8
                        exact StepI.skip rfl (unwanted_undef rfl rfl hg) ⟨rfl, hI⟩
                      · intro us au w1 k17 hlo hhi ha hd hst hI
                        obtain rfl : k17 = 0 := by omega
                        have e8 := hd 8 _ (by kernel_rfl) rfl
                        have hg := slot_at (t := 60) 8 ha (by kernel_rfl) (by kernel_rfl) (by kernel_rfl) e8
                        exact StepI.skip rfl (unwanted_undef rfl rfl hg) ⟨rfl, hI⟩
                      · intro us au w1 k18 hlo hhi ha hd hst hI
                        obtain rfl : k18 = 0 := by omega
                        have e4 := hd 4 _ (by kernel_rfl) rfl
                        have hg := slot_at (t := 56) 4 ha (by kernel_rfl) (by kernel_rfl) (by kernel_rfl) e4
                        exact StepI.skip rfl (unwanted_at rfl rfl hg rfl) ⟨rfl, hI⟩
                      · intro us au w1 k19 hlo hhi ha hd hst hI
                        obtain rfl : k19 = 0 := by omega
                        have e4 := hd 4 _ (by kernel_rfl) rfl
                        have e18 := hd 18 _ (by kernel_rfl) rfl
                        have q56 := slot_at (t := 56) 4 ha (by kernel_rfl) (by kernel_rfl) (by kernel_rfl) e4
                        have p56 := slot_norm q56
                        have q70 := slot_at (t := 70) 18 ha (by kernel_rfl) (by kernel_rfl) (by kernel_rfl) e18
                        have p70 := slot_norm q70
                        clear ha hd hst
                        exact StepI.pure (v := .bool true) rfl rfl (by go_simp) ⟨rfl, hI⟩
                    case done =>
                      intro us w1 hI hd
                      have e19 := hd 19 _ (by decide) rfl
                      have HBQ := Lib.hid hI
                      clear hd hI
                      simp only [putAll]
                      go_simp
                      go_wp2
                      go_meet
                      exact ⟨⟨_, rfl, by simp⟩, HBQ.out⟩
                  case false =>
                    by_cases hL0 : L.length = 0
                    · have HLO : Hid (lastOk L ⟨xm, xn, xi⟩ = true) := Lib.hid (by rw [List.eq_nil_of_length_eq_zero hL0]; rfl)
                      have dl : decide ((0 : Int) < (L.length : Int)) = false := decide_eq_false (by omega)
                      have dl' : decide (0 < L.length) = false := decide_eq_false (by omega)
                      clear hL0
                      refine wp_region_ph (by kernel_rfl) [] [.span 0 0, .span 0 0, .span 0 0, .span 0 0, .span 0 0, .span 0 0, .span 0 0, .span 0 0, .span 0 0, .span 0 0, .span 0 0, .span 0 0, .span 0 0, .span 0 0, .span 0 0, .span 0 0, .span 0 0, .span 0 0, .span 0 0, .span 0 0] [fun z9 => z9 = .pointer (some ⟨g, 2, none⟩), fun z9 => z9 = .string xi, fun z9 => z9 = .string zeroS, fun z9 => z9 = .bool false, fun z9 => z9 = .bool false, fun z9 => z9 = .slice Av L.length cv, fun z9 => z9 = .int .i64 (L.length : Int), fun z9 => z9 = .bool false, fun z9 => z9 = .bool false, fun z9 => z9 = undef, fun z9 => z9 = undef, fun z9 => z9 = undef, fun z9 => z9 = undef, fun z9 => z9 = undef, fun z9 => z9 = undef, fun z9 => z9 = undef, fun z9 => z9 = undef, fun z9 => z9 = undef, fun z9 => z9 = .bool false, fun z9 => z9 = .bool false] ((fun _ w => Below w7.heap.size w7 w)) (by kernel_rfl) (by kernel_rfl) (by kernel_rfl) (by kernel_rfl) (by kernel_rfl) (by kernel_rfl) rfl rfl ((Below.refl _ _).drew) ?steps ?done
                      case steps =>
                        refine ⟨?_, ?_, ?_, ?_, ?_, ?_, ?_, ?_, ?_, ?_, ?_, ?_, ?_, ?_, ?_, ?_, ?_, ?_, ?_, ?_, trivial⟩
                        · intro us au w1 k0 hlo hhi ha hd hst hI
                          obtain rfl : k0 = 0 := by omega
                          have q10 := slot_far (t := 10) (v := .pointer (some ⟨g, 0, none⟩)) ha (by kernel_rfl) (by kernel_rfl)
                          have p10 := slot_norm q10
                          clear ha hd hst
                          exact StepI.pure (v := .pointer (some ⟨g, 2, none⟩)) rfl rfl (by go_simp) ⟨rfl, hI⟩
                        · intro us au w1 k1 hlo hhi ha hd hst hI
                          obtain rfl : k1 = 0 := by omega
                          have e0 := hd 0 _ (by kernel_rfl) rfl
                          have q52 := slot_at (t := 52) 0 ha (by kernel_rfl) (by kernel_rfl) (by kernel_rfl) e0
                          have p52 := slot_norm q52
                          clear ha hd hst
                          have kk : w1.cell? ⟨g, 2, none⟩ = some (.string xi) := (HC7.out.below hI HC7.out.blk).cell 2 (by decide)
                          exact StepI.pure (v := .string xi) rfl rfl (by go_simp) ⟨rfl, hI⟩
                        · intro us au w1 k2 hlo hhi ha hd hst hI
                          obtain rfl : k2 = 0 := by omega
                          clear ha hd hst
                          refine StepI.call (f := 85) (args := #[]) rfl rfl (by go_simp) ?_
                          refine (rzero_any w1).mono ?_
                          rintro e w5 ⟨rfl, rfl⟩
                          exact ⟨_, rfl, rfl, hI⟩
                        · intro us au w1 k3 hlo hhi ha hd hst hI
                          obtain rfl : k3 = 0 := by omega
                          have e1 := hd 1 _ (by kernel_rfl) rfl
                          have e2 := hd 2 _ (by kernel_rfl) rfl
                          have q53 := slot_at (t := 53) 1 ha (by kernel_rfl) (by kernel_rfl) (by kernel_rfl) e1
                          have p53 := slot_norm q53
                          have q54 := slot_at (t := 54) 2 ha (by kernel_rfl) (by kernel_rfl) (by kernel_rfl) e2
                          have p54 := slot_norm q54
                          clear ha hd hst
                          exact StepI.pure (v := .bool false) rfl rfl (by go_simp) ⟨rfl, hI⟩
                        · intro us au w1 k4 hlo hhi ha hd hst hI
                          obtain rfl : k4 = 0 := by omega
                          have e3 := hd 3 _ (by kernel_rfl) rfl
                          have q55 := slot_at (t := 55) 3 ha (by kernel_rfl) (by kernel_rfl) (by kernel_rfl) e3
                          have p55 := slot_norm q55
                          clear ha hd hst
                          exact StepI.pure (v := .bool false) rfl rfl (by go_simp) ⟨rfl, hI⟩
                        · intro us au w1 k5 hlo hhi ha hd hst hI
                          obtain rfl : k5 = 0 := by omega
                          have e4 := hd 4 _ (by kernel_rfl) rfl
                          have q4 := slot_far (t := 4) (v := .slice Av L.length cv) ha (by kernel_rfl) (by kernel_rfl)
                          have p4 := slot_norm q4
                          have hg := slot_at (t := 56) 4 ha (by kernel_rfl) (by kernel_rfl) (by kernel_rfl) e4
                          clear ha hd hst
                          exact StepI.pure (v := .slice Av L.length cv) rfl (wanted_at rfl rfl hg) (by go_simp) ⟨rfl, hI⟩
                        · intro us au w1 k6 hlo hhi ha hd hst hI
                          obtain rfl : k6 = 0 := by omega
                          have e5 := hd 5 _ (by kernel_rfl) rfl
                          have e4 := hd 4 _ (by kernel_rfl) rfl
                          have q57 := slot_at (t := 57) 5 ha (by kernel_rfl) (by kernel_rfl) (by kernel_rfl) e5
                          have p57 := slot_norm q57
                          have hg := slot_at (t := 56) 4 ha (by kernel_rfl) (by kernel_rfl) (by kernel_rfl) e4
                          clear ha hd hst
                          exact StepI.pure (v := .int .i64 (L.length : Int)) rfl (wanted_at rfl rfl hg) (by go_simp) ⟨rfl, hI⟩
                        · intro us au w1 k7 hlo hhi ha hd hst hI
                          obtain rfl : k7 = 0 := by omega
                          have e6 := hd 6 _ (by kernel_rfl) rfl
                          have e4 := hd 4 _ (by kernel_rfl) rfl
                          have q58 := slot_at (t := 58) 6 ha (by kernel_rfl) (by kernel_rfl) (by kernel_rfl) e6
                          have p58 := slot_norm q58
                          have hg := slot_at (t := 56) 4 ha (by kernel_rfl) (by kernel_rfl) (by kernel_rfl) e4
                          clear ha hd hst
                          exact StepI.pure (v := .bool false) rfl (wanted_at rfl rfl hg) (by go_simp) ⟨rfl, hI⟩
                        · intro us au w1 k8 hlo hhi ha hd hst hI
                          obtain rfl : k8 = 0 := by omega
                          have e7 := hd 7 _ (by kernel_rfl) rfl
                          have e4 := hd 4 _ (by kernel_rfl) rfl
                          have q59 := slot_at (t := 59) 7 ha (by kernel_rfl) (by kernel_rfl) (by kernel_rfl) e7
                          have p59 := slot_norm q59
                          have hg := slot_at (t := 56) 4 ha (by kernel_rfl) (by kernel_rfl) (by kernel_rfl) e4
                          clear ha hd hst
                          exact StepI.pure (v := .bool false) rfl (wanted_at rfl rfl hg) (by go_simp) ⟨rfl, hI⟩
                        · intro us au w1 k9 hlo hhi ha hd hst hI
                          obtain rfl : k9 = 0 := by omega
                          have e8 := hd 8 _ (by kernel_rfl) rfl
                          have hg := slot_at (t := 60) 8 ha (by kernel_rfl) (by kernel_rfl) (by kernel_rfl) e8
                          exact StepI.skip rfl (unwanted_at rfl rfl hg rfl) ⟨rfl, hI⟩
                        · intro us au w1 k10 hlo hhi ha hd hst hI
                          obtain rfl : k10 = 0 := by omega
                          have e8 := hd 8 _ (by kernel_rfl) rfl
                          have hg := slot_at (t := 60) 8 ha (by kernel_rfl) (by kernel_rfl) (by kernel_rfl) e8
                          exact StepI.skip rfl (unwanted_at rfl rfl hg rfl) ⟨rfl, hI⟩
                        · intro us au w1 k11 hlo hhi ha hd hst hI
                          obtain rfl : k11 = 0 := by omega
                          have e8 := hd 8 _ (by kernel_rfl) rfl
                          have hg := slot_at (t := 60) 8 ha (by kernel_rfl) (by kernel_rfl) (by kernel_rfl) e8
                          exact StepI.skip rfl (unwanted_at rfl rfl hg rfl) ⟨rfl, hI⟩
                        · intro us au w1 k12 hlo hhi ha hd hst hI
                          obtain rfl : k12 = 0 := by omega
                          have e8 := hd 8 _ (by kernel_rfl) rfl
                          have hg := slot_at (t := 60) 8 ha (by kernel_rfl) (by kernel_rfl) (by kernel_rfl) e8
                          exact StepI.skip rfl (unwanted_at rfl rfl hg rfl) ⟨rfl, hI⟩
                        · intro us au w1 k13 hlo hhi ha hd hst hI
                          obtain rfl : k13 = 0 := by omega
                          have e8 := hd 8 _ (by kernel_rfl) rfl
                          have hg := slot_at (t := 60) 8 ha (by kernel_rfl) (by kernel_rfl) (by kernel_rfl) e8
                          exact StepI.skip rfl (unwanted_at rfl rfl hg rfl) ⟨rfl, hI⟩
                        · intro us au w1 k14 hlo hhi ha hd hst hI
                          obtain rfl : k14 = 0 := by omega
                          have e8 := hd 8 _ (by kernel_rfl) rfl
                          have hg := slot_at (t := 60) 8 ha (by kernel_rfl) (by kernel_rfl) (by kernel_rfl) e8
                          exact StepI.skip rfl (unwanted_at rfl rfl hg rfl) ⟨rfl, hI⟩
                        · intro us au w1 k15 hlo hhi ha hd hst hI
                          obtain rfl : k15 = 0 := by omega
                          have e8 := hd 8 _ (by kernel_rfl) rfl
                          have hg := slot_at (t := 60) 8 ha (by kernel_rfl) (by kernel_rfl) (by kernel_rfl) e8
                          exact StepI.skip rfl (unwanted_at rfl rfl hg rfl) ⟨rfl, hI⟩
                        · intro us au w1 k16 hlo hhi ha hd hst hI
                          obtain rfl : k16 = 0 := by omega
                          have e8 := hd 8 _ (by kernel_rfl) rfl
                          have hg := slot_at (t := 60) 8 ha (by kernel_rfl) (by kernel_rfl) (by kernel_rfl) e8
                          exact StepI.skip rfl (unwanted_at rfl rfl hg rfl) ⟨rfl, hI⟩
                        · intro us au w1 k17 hlo hhi ha hd hst hI
                          obtain rfl : k17 = 0 := by omega
                          have e8 := hd 8 _ (by kernel_rfl) rfl
                          have hg := slot_at (t := 60) 8 ha (by kernel_rfl) (by kernel_rfl) (by kernel_rfl) e8
                          exact StepI.skip rfl (unwanted_at rfl rfl hg rfl) ⟨rfl, hI⟩
                        · intro us au w1 k18 hlo hhi ha hd hst hI
                          obtain rfl : k18 = 0 := by omega
                          have e8 := hd 8 _ (by kernel_rfl) rfl
                          have e17 := hd 17 _ (by kernel_rfl) rfl
                          have e4 := hd 4 _ (by kernel_rfl) rfl
                          have q60 := slot_at (t := 60) 8 ha (by kernel_rfl) (by kernel_rfl) (by kernel_rfl) e8
                          have p60 := slot_norm q60
                          have q69 := slot_at (t := 69) 17 ha (by kernel_rfl) (by kernel_rfl) (by kernel_rfl) e17
                          have p69 := slot_norm q69
                          have hg := slot_at (t := 56) 4 ha (by kernel_rfl) (by kernel_rfl) (by kernel_rfl) e4
                          clear ha hd hst
                          exact StepI.pure (v := .bool false) rfl (wanted_at rfl rfl hg) (by go_simp) ⟨rfl, hI⟩
                        · intro us au w1 k19 hlo hhi ha hd hst hI
                          obtain rfl : k19 = 0 := by omega
                          have e4 := hd 4 _ (by kernel_rfl) rfl
                          have e18 := hd 18 _ (by kernel_rfl) rfl
                          have q56 := slot_at (t := 56) 4 ha (by kernel_rfl) (by kernel_rfl) (by kernel_rfl) e4
                          have p56 := slot_norm q56
                          have q70 := slot_at (t := 70) 18 ha (by kernel_rfl) (by kernel_rfl) (by kernel_rfl) e18
                          have p70 := slot_norm q70
                          clear ha hd hst
                          exact StepI.pure (v := .bool false) rfl rfl (by go_simp) ⟨rfl, hI⟩
                      case done =>
                        intro us w1 hI hd
                        have e19 := hd 19 _ (by decide) rfl
                        have HBQ := Lib.hid hI
                        clear hd hI
                        simp only [putAll]
                        go_simp
                        go_wp2
                        go_meet
                        exact ⟨⟨_, rfl, by rw [HLO.out]; simp⟩, HBQ.out⟩
                    · have dl : decide ((0 : Int) < (L.length : Int)) = true := decide_eq_true (by omega)
                      have dl' : decide (0 < L.length) = true := decide_eq_true (by omega)
                      obtain ⟨lq, hlq⟩ : ∃ lq : Nat, lq = L.length - 1 := ⟨_, rfl⟩
                      obtain ⟨y, hy⟩ : ∃ y, L[lq]? = some y := ⟨_, List.getElem?_eq_getElem (by omega)⟩
                      have HLO : Hid (lastOk L ⟨xm, xn, xi⟩ = lessB y.m y.n xm xn) := Lib.hid (by
                        unfold lastOk
                        rw [List.getLast?_eq_getElem?, ← hlq, hy])
                      have hysz := HYS.out y (List.mem_of_getElem? hy)
                      obtain ⟨eb, eo, rfl, hebl, hecell⟩ := HO7.out.entsAt (by omega)
                      have HY0 := Lib.hid (fun w1 (hb : Below w7.heap.size w7 w1) => (hb.cell (p := ⟨eb, eo + lq * 3, none⟩) hebl).trans (hecell lq y hy).1)
                      have HY1 := Lib.hid (fun w1 (hb : Below w7.heap.size w7 w1) => (hb.cell (p := ⟨eb, eo + lq * 3 + 1, none⟩) hebl).trans (hecell lq y hy).2.1)
                      have HY2 := Lib.hid (fun w1 (hb : Below w7.heap.size w7 w1) => (hb.cell (p := ⟨eb, eo + lq * 3 + 2, none⟩) hebl).trans (hecell lq y hy).2.2)
                      have HLS := Lib.hid (fun w1 => lessR_any y.m y.n y.i xm xn xi w1 (by have := HS.out; omega) (by have := HZN.out; have := HS.out; omega))
                      have ql : IntKind.i64.wrap ((L.length : Int) - 1) = (lq : Int) := by rw [IntWalk.i64_in _ (by have := HN.out; have := HS.out; omega)]; omega
                      have qlt : lq < L.length := by omega
                      generalize lessB y.m y.n xm xn = lb at *
                      clear hy hysz hecell hebl hlq
                      refine wp_region_ph (by kernel_rfl) [] [.span 0 0, .span 0 0, .span 0 0, .span 0 0, .span 0 0, .span 0 0, .span 0 0, .span 0 0, .span 0 0, .span 0 0, .span 0 0, .span 0 0, .span 0 0, .span 0 0, .span 0 0, .span 0 0, .span 0 0, .span 0 0, .span 0 0, .span 0 0] [fun z9 => z9 = .pointer (some ⟨g, 2, none⟩), fun z9 => z9 = .string xi, fun z9 => z9 = .string zeroS, fun z9 => z9 = .bool false, fun z9 => z9 = .bool false, fun z9 => z9 = .slice (some ⟨eb, eo, none⟩) L.length cv, fun z9 => z9 = .int .i64 (L.length : Int), fun z9 => z9 = .bool true, fun z9 => z9 = .bool true, fun z9 => z9 = .slice (some ⟨eb, eo, none⟩) L.length cv, fun z9 => z9 = .slice (some ⟨eb, eo, none⟩) L.length cv, fun z9 => z9 = .int .i64 (L.length : Int), fun z9 => z9 = .int .i64 (lq : Int), fun z9 => z9 = .pointer (some ⟨eb, eo + lq * 3, none⟩), fun z9 => z9 = .agg #[.string y.m, .string y.n, .string y.i], fun z9 => z9 = .agg #[.string xm, .string xn, .string xi], fun z9 => z9 = .bool lb, fun z9 => z9 = .bool (!lb), fun z9 => z9 = .bool (!lb), fun z9 => z9 = .bool (!lb)] ((fun _ w => Below w7.heap.size w7 w)) (by kernel_rfl) (by kernel_rfl) (by kernel_rfl) (by kernel_rfl) (by kernel_rfl) (by kernel_rfl) rfl rfl ((Below.refl _ _).drew) ?steps ?done
                      case steps =>
                        refine ⟨?_, ?_, ?_, ?_, ?_, ?_, ?_, ?_, ?_, ?_, ?_, ?_, ?_, ?_, ?_, ?_, ?_, ?_, ?_, ?_, trivial⟩
                        · intro us au w1 k0 hlo hhi ha hd hst hI
                          obtain rfl : k0 = 0 := by omega
                          have q10 := slot_far (t := 10) (v := .pointer (some ⟨g, 0, none⟩)) ha (by kernel_rfl) (by kernel_rfl)
                          have p10 := slot_norm q10
                          clear ha hd hst
                          exact StepI.pure (v := .pointer (some ⟨g, 2, none⟩)) rfl rfl (by go_simp) ⟨rfl, hI⟩
                        · intro us au w1 k1 hlo hhi ha hd hst hI
                          obtain rfl : k1 = 0 := by omega
                          have e0 := hd 0 _ (by kernel_rfl) rfl
                          have q52 := slot_at (t := 52) 0 ha (by kernel_rfl) (by kernel_rfl) (by kernel_rfl) e0
                          have p52 := slot_norm q52
                          clear ha hd hst
                          have kk : w1.cell? ⟨g, 2, none⟩ = some (.string xi) := (HC7.out.below hI HC7.out.blk).cell 2 (by decide)
                          exact StepI.pure (v := .string xi) rfl rfl (by go_simp) ⟨rfl, hI⟩
                        · intro us au w1 k2 hlo hhi ha hd hst hI
                          obtain rfl : k2 = 0 := by omega
                          clear ha hd hst
                          refine StepI.call (f := 85) (args := #[]) rfl rfl (by go_simp) ?_
                          refine (rzero_any w1).mono ?_
                          rintro e w5 ⟨rfl, rfl⟩
                          exact ⟨_, rfl, rfl, hI⟩
                        · intro us au w1 k3 hlo hhi ha hd hst hI
                          obtain rfl : k3 = 0 := by omega
                          have e1 := hd 1 _ (by kernel_rfl) rfl
                          have e2 := hd 2 _ (by kernel_rfl) rfl
                          have q53 := slot_at (t := 53) 1 ha (by kernel_rfl) (by kernel_rfl) (by kernel_rfl) e1
                          have p53 := slot_norm q53
                          have q54 := slot_at (t := 54) 2 ha (by kernel_rfl) (by kernel_rfl) (by kernel_rfl) e2
                          have p54 := slot_norm q54
                          clear ha hd hst
                          exact StepI.pure (v := .bool false) rfl rfl (by go_simp) ⟨rfl, hI⟩
                        · intro us au w1 k4 hlo hhi ha hd hst hI
                          obtain rfl : k4 = 0 := by omega
                          have e3 := hd 3 _ (by kernel_rfl) rfl
                          have q55 := slot_at (t := 55) 3 ha (by kernel_rfl) (by kernel_rfl) (by kernel_rfl) e3
                          have p55 := slot_norm q55
                          clear ha hd hst
                          exact StepI.pure (v := .bool false) rfl rfl (by go_simp) ⟨rfl, hI⟩
                        · intro us au w1 k5 hlo hhi ha hd hst hI
                          obtain rfl : k5 = 0 := by omega
                          have e4 := hd 4 _ (by kernel_rfl) rfl
                          have q4 := slot_far (t := 4) (v := .slice (some ⟨eb, eo, none⟩) L.length cv) ha (by kernel_rfl) (by kernel_rfl)
                          have p4 := slot_norm q4
                          have hg := slot_at (t := 56) 4 ha (by kernel_rfl) (by kernel_rfl) (by kernel_rfl) e4
                          clear ha hd hst
                          exact StepI.pure (v := .slice (some ⟨eb, eo, none⟩) L.length cv) rfl (wanted_at rfl rfl hg) (by go_simp) ⟨rfl, hI⟩
                        · intro us au w1 k6 hlo hhi ha hd hst hI
                          obtain rfl : k6 = 0 := by omega
                          have e5 := hd 5 _ (by kernel_rfl) rfl
                          have e4 := hd 4 _ (by kernel_rfl) rfl
                          have q57 := slot_at (t := 57) 5 ha (by kernel_rfl) (by kernel_rfl) (by kernel_rfl) e5
                          have p57 := slot_norm q57
                          have hg := slot_at (t := 56) 4 ha (by kernel_rfl) (by kernel_rfl) (by kernel_rfl) e4
                          clear ha hd hst
                          exact StepI.pure (v := .int .i64 (L.length : Int)) rfl (wanted_at rfl rfl hg) (by go_simp) ⟨rfl, hI⟩
                        · intro us au w1 k7 hlo hhi ha hd hst hI
                          obtain rfl : k7 = 0 := by omega
                          have e6 := hd 6 _ (by kernel_rfl) rfl
                          have e4 := hd 4 _ (by kernel_rfl) rfl
                          have q58 := slot_at (t := 58) 6 ha (by kernel_rfl) (by kernel_rfl) (by kernel_rfl) e6
                          have p58 := slot_norm q58
                          have hg := slot_at (t := 56) 4 ha (by kernel_rfl) (by kernel_rfl) (by kernel_rfl) e4
                          clear ha hd hst
                          exact StepI.pure (v := .bool true) rfl (wanted_at rfl rfl hg) (by go_simp) ⟨rfl, hI⟩
                        · intro us au w1 k8 hlo hhi ha hd hst hI
                          obtain rfl : k8 = 0 := by omega
                          have e7 := hd 7 _ (by kernel_rfl) rfl
                          have e4 := hd 4 _ (by kernel_rfl) rfl
                          have q59 := slot_at (t := 59) 7 ha (by kernel_rfl) (by kernel_rfl) (by kernel_rfl) e7
                          have p59 := slot_norm q59
                          have hg := slot_at (t := 56) 4 ha (by kernel_rfl) (by kernel_rfl) (by kernel_rfl) e4
                          clear ha hd hst
                          exact StepI.pure (v := .bool true) rfl (wanted_at rfl rfl hg) (by go_simp) ⟨rfl, hI⟩
                        · intro us au w1 k9 hlo hhi ha hd hst hI
                          obtain rfl : k9 = 0 := by omega
                          have e8 := hd 8 _ (by kernel_rfl) rfl
                          have q4 := slot_far (t := 4) (v := .slice (some ⟨eb, eo, none⟩) L.length cv) ha (by kernel_rfl) (by kernel_rfl)
                          have p4 := slot_norm q4
                          have hg := slot_at (t := 60) 8 ha (by kernel_rfl) (by kernel_rfl) (by kernel_rfl) e8
                          clear ha hd hst
                          exact StepI.pure (v := .slice (some ⟨eb, eo, none⟩) L.length cv) rfl (wanted_at rfl rfl hg) (by go_simp) ⟨rfl, hI⟩
                        · intro us au w1 k10 hlo hhi ha hd hst hI
                          obtain rfl : k10 = 0 := by omega
                          have e8 := hd 8 _ (by kernel_rfl) rfl
                          have q4 := slot_far (t := 4) (v := .slice (some ⟨eb, eo, none⟩) L.length cv) ha (by kernel_rfl) (by kernel_rfl)
                          have p4 := slot_norm q4
                          have hg := slot_at (t := 60) 8 ha (by kernel_rfl) (by kernel_rfl) (by kernel_rfl) e8
                          clear ha hd hst
                          exact StepI.pure (v := .slice (some ⟨eb, eo, none⟩) L.length cv) rfl (wanted_at rfl rfl hg) (by go_simp) ⟨rfl, hI⟩
                        · intro us au w1 k11 hlo hhi ha hd hst hI
                          obtain rfl : k11 = 0 := by omega
                          have e10 := hd 10 _ (by kernel_rfl) rfl
                          have e8 := hd 8 _ (by kernel_rfl) rfl
                          have q62 := slot_at (t := 62) 10 ha (by kernel_rfl) (by kernel_rfl) (by kernel_rfl) e10
                          have p62 := slot_norm q62
                          have hg := slot_at (t := 60) 8 ha (by kernel_rfl) (by kernel_rfl) (by kernel_rfl) e8
                          clear ha hd hst
                          exact StepI.pure (v := .int .i64 (L.length : Int)) rfl (wanted_at rfl rfl hg) (by go_simp) ⟨rfl, hI⟩
                        · intro us au w1 k12 hlo hhi ha hd hst hI
                          obtain rfl : k12 = 0 := by omega
                          have e11 := hd 11 _ (by kernel_rfl) rfl
                          have e8 := hd 8 _ (by kernel_rfl) rfl
                          have q63 := slot_at (t := 63) 11 ha (by kernel_rfl) (by kernel_rfl) (by kernel_rfl) e11
                          have p63 := slot_norm q63
                          have hg := slot_at (t := 60) 8 ha (by kernel_rfl) (by kernel_rfl) (by kernel_rfl) e8
                          clear ha hd hst
                          exact StepI.pure (v := .int .i64 (lq : Int)) rfl (wanted_at rfl rfl hg) (by go_simp) ⟨rfl, hI⟩
                        · intro us au w1 k13 hlo hhi ha hd hst hI
                          obtain rfl : k13 = 0 := by omega
                          have e9 := hd 9 _ (by kernel_rfl) rfl
                          have e12 := hd 12 _ (by kernel_rfl) rfl
                          have e8 := hd 8 _ (by kernel_rfl) rfl
                          have q61 := slot_at (t := 61) 9 ha (by kernel_rfl) (by kernel_rfl) (by kernel_rfl) e9
                          have p61 := slot_norm q61
                          have q64 := slot_at (t := 64) 12 ha (by kernel_rfl) (by kernel_rfl) (by kernel_rfl) e12
                          have p64 := slot_norm q64
                          have hg := slot_at (t := 60) 8 ha (by kernel_rfl) (by kernel_rfl) (by kernel_rfl) e8
                          clear ha hd hst
                          exact StepI.pure (v := .pointer (some ⟨eb, eo + lq * 3, none⟩)) rfl (wanted_at rfl rfl hg) (by go_simp) ⟨rfl, hI⟩
                        · intro us au w1 k14 hlo hhi ha hd hst hI
                          obtain rfl : k14 = 0 := by omega
                          have e13 := hd 13 _ (by kernel_rfl) rfl
                          have e8 := hd 8 _ (by kernel_rfl) rfl
                          have q65 := slot_at (t := 65) 13 ha (by kernel_rfl) (by kernel_rfl) (by kernel_rfl) e13
                          have p65 := slot_norm q65
                          have hg := slot_at (t := 60) 8 ha (by kernel_rfl) (by kernel_rfl) (by kernel_rfl) e8
                          clear ha hd hst
                          have ky0 := HY0.out w1 hI
                          have ky1 := HY1.out w1 hI
                          have ky2 := HY2.out w1 hI
                          exact StepI.pure (v := .agg #[.string y.m, .string y.n, .string y.i]) rfl (wanted_at rfl rfl hg) (by go_simp) ⟨rfl, hI⟩
                        · intro us au w1 k15 hlo hhi ha hd hst hI
                          obtain rfl : k15 = 0 := by omega
                          have e8 := hd 8 _ (by kernel_rfl) rfl
                          have q10 := slot_far (t := 10) (v := .pointer (some ⟨g, 0, none⟩)) ha (by kernel_rfl) (by kernel_rfl)
                          have p10 := slot_norm q10
                          have hg := slot_at (t := 60) 8 ha (by kernel_rfl) (by kernel_rfl) (by kernel_rfl) e8
                          clear ha hd hst
                          have hcx := HC7.out.below hI HC7.out.blk
                          have kx0 : w1.cell? ⟨g, 0, none⟩ = some (.string xm) := hcx.cell 0 (by decide)
                          have kx1 : w1.cell? ⟨g, 1, none⟩ = some (.string xn) := hcx.cell 1 (by decide)
                          have kx2 : w1.cell? ⟨g, 2, none⟩ = some (.string xi) := hcx.cell 2 (by decide)
                          exact StepI.pure (v := .agg #[.string xm, .string xn, .string xi]) rfl (wanted_at rfl rfl hg) (by go_simp) ⟨rfl, hI⟩
                        · intro us au w1 k16 hlo hhi ha hd hst hI
                          obtain rfl : k16 = 0 := by omega
                          have e14 := hd 14 _ (by kernel_rfl) rfl
                          have e15 := hd 15 _ (by kernel_rfl) rfl
                          have e8 := hd 8 _ (by kernel_rfl) rfl
                          have q66 := slot_at (t := 66) 14 ha (by kernel_rfl) (by kernel_rfl) (by kernel_rfl) e14
                          have p66 := slot_norm q66
                          have q67 := slot_at (t := 67) 15 ha (by kernel_rfl) (by kernel_rfl) (by kernel_rfl) e15
                          have p67 := slot_norm q67
                          have hg := slot_at (t := 60) 8 ha (by kernel_rfl) (by kernel_rfl) (by kernel_rfl) e8
                          clear ha hd hst
                          refine StepI.call (f := 86) (args := #[.agg #[.string y.m, .string y.n, .string y.i], .agg #[.string xm, .string xn, .string xi]]) rfl (wanted_at rfl rfl hg) (by go_simp) ?_
                          refine (HLS.out w1).mono ?_
                          rintro e w5 ⟨rfl, hb⟩
                          exact ⟨_, rfl, rfl, Below.trans hI (hb.mono (Below.size hI))⟩
                        · intro us au w1 k17 hlo hhi ha hd hst hI
                          obtain rfl : k17 = 0 := by omega
                          have e16 := hd 16 _ (by kernel_rfl) rfl
                          have e8 := hd 8 _ (by kernel_rfl) rfl
                          have q68 := slot_at (t := 68) 16 ha (by kernel_rfl) (by kernel_rfl) (by kernel_rfl) e16
                          have p68 := slot_norm q68
                          have hg := slot_at (t := 60) 8 ha (by kernel_rfl) (by kernel_rfl) (by kernel_rfl) e8
                          clear ha hd hst
                          exact StepI.pure (v := .bool (!lb)) rfl (wanted_at rfl rfl hg) (by go_simp) ⟨rfl, hI⟩
                        · intro us au w1 k18 hlo hhi ha hd hst hI
                          obtain rfl : k18 = 0 := by omega
                          have e8 := hd 8 _ (by kernel_rfl) rfl
                          have e17 := hd 17 _ (by kernel_rfl) rfl
                          have e4 := hd 4 _ (by kernel_rfl) rfl
                          have q60 := slot_at (t := 60) 8 ha (by kernel_rfl) (by kernel_rfl) (by kernel_rfl) e8
                          have p60 := slot_norm q60
                          have q69 := slot_at (t := 69) 17 ha (by kernel_rfl) (by kernel_rfl) (by kernel_rfl) e17
                          have p69 := slot_norm q69
                          have hg := slot_at (t := 56) 4 ha (by kernel_rfl) (by kernel_rfl) (by kernel_rfl) e4
                          clear ha hd hst
                          exact StepI.pure (v := .bool (!lb)) rfl (wanted_at rfl rfl hg) (by go_simp) ⟨rfl, hI⟩
                        · intro us au w1 k19 hlo hhi ha hd hst hI
                          obtain rfl : k19 = 0 := by omega
                          have e4 := hd 4 _ (by kernel_rfl) rfl
                          have e18 := hd 18 _ (by kernel_rfl) rfl
                          have q56 := slot_at (t := 56) 4 ha (by kernel_rfl) (by kernel_rfl) (by kernel_rfl) e4
                          have p56 := slot_norm q56
                          have q70 := slot_at (t := 70) 18 ha (by kernel_rfl) (by kernel_rfl) (by kernel_rfl) e18
                          have p70 := slot_norm q70
                          clear ha hd hst
                          exact StepI.pure (v := .bool (!lb)) rfl rfl (by go_simp) ⟨rfl, hI⟩
                      case done =>
                        intro us w1 hI hd
                        have e19 := hd 19 _ (by decide) rfl
                        have HBQ := Lib.hid hI
                        clear hd hI
                        simp only [putAll]
                        go_simp
                        go_wp2
                        go_meet
                        exact ⟨⟨_, rfl, by rw [HLO.out]; simp⟩, HBQ.out⟩
                case rest =>
                  obtain ⟨⟨bd, rfl, hbd⟩, hbw⟩ := hcut
                  have HBC := Lib.hid (HB7.out.trans (hbw.mono HB7.out.size))
                  have HOC := Lib.hid (HO7.out.lowB hbw)
                  have HCC := Lib.hid (HC7.out.below hbw HC7.out.blk)
                  have HSTEP : Hid (treeF s.data.toList = if bd = true ∨ xn.data.toList ∈ L.map (fun y => y.n.data.toList) then none else treeU (f - 1) (q.data.toList.drop 20) (L ++ [⟨xm, xn, xi⟩])) := Lib.hid (by
                    obtain ⟨f', rfl⟩ : ∃ f', f = f' + 1 := ⟨f - 1, by have := HN.out; omega⟩
                    rw [HTF.out, treeU, if_neg HNE.out, hbd]
                    cases zu
                    · rw [HEY.out rfl]
                      show (if xn.data.toList ∈ L.map (fun y => y.n.data.toList) ∨ lastOk L ⟨xm, xn, xi⟩ = false then none else treeU f' (q.data.toList.drop 20) (L ++ [⟨xm, xn, xi⟩])) = _
                      by_cases hm : xn.data.toList ∈ L.map (fun y => y.n.data.toList)
                      · rw [if_pos (.inl hm), if_pos (.inr hm)]
                      · cases hlo : lastOk L ⟨xm, xn, xi⟩
                        · rw [if_pos (.inr rfl), if_pos (.inl (by simp))]
                        · rw [if_neg (by rintro (h | h); exact hm h; exact absurd h (by decide)), if_neg (by rintro (h | h); exact absurd h (by simp); exact hm h)]
                          rfl
                    · rw [HEN.out rfl, if_pos (.inl (by simp))])
                  clear hbd hbw hze HO7 HB7 HC7 HEN HEY
                  cases bd
                  case true =>
                    have HNO : Hid (treeF s.data.toList = none) := Lib.hid (by rw [HSTEP.out, if_pos (.inl rfl)])
                    go_wp2
                    rw [HPO.out]
                    exact ⟨HBC.out, .inl ⟨HNO.out, rfl⟩⟩
                  case false =>
                    go_wp2
                    go_loopw [11] (fun v9 wx => ∃ k : Nat, v9 = .int .i64 (k : Int) ∧ k ≤ L.length ∧ wx = wc ∧ ∀ (j : Nat) (y : Ent), j < k → L[j]? = some y → y.n.data.toList ≠ xn.data.toList) (fun v9 _ => L.length - (intOf v9).toNat)
                    case atStart => exact ⟨0, rfl, Nat.zero_le _, rfl, fun j y hj => by omega⟩
                    case round =>
                      obtain ⟨k, rfl, hk, rfl, hno⟩ := hrel
                      have HNO2 := Lib.hid hno
                      have hLs : L.length ≤ 8796093022000 := by have := HN.out; have := HS.out; omega
                      clear hno
                      by_cases hlt : k < L.length
                      · obtain ⟨y, hy⟩ : ∃ y, L[k]? = some y := ⟨_, List.getElem?_eq_getElem hlt⟩
                        obtain ⟨eb, eo, rfl, hebl, hecell⟩ := HOC.out.entsAt (by omega)
                        have r1 := (hecell k y hy).2.1
                        have d2 : decide ((k : Int) < (L.length : Int)) = true := decide_eq_true (by omega)
                        have d2' : decide (k < L.length) = true := decide_eq_true hlt
                        clear hecell hebl
                        by_cases hyx : y.n.data.toList = xn.data.toList
                        · have HNO : Hid (treeF s.data.toList = none) := Lib.hid (by rw [HSTEP.out, if_pos (.inr (List.mem_map.2 ⟨y, List.mem_of_getElem? hy, hyx⟩))])
                          have q1 : (y.n.toList == xn.toList) = true := by rw [beq_iff_eq, Lib.toList_data, Lib.toList_data]; exact hyx
                          clear hy hyx
                          go_wp2
                          rw [HPO.out]
                          exact ⟨HBC.out, .inl ⟨HNO.out, rfl⟩⟩
                        · have q1 : (y.n.toList == xn.toList) = false := by rw [beq_eq_false_iff_ne, Lib.toList_data, Lib.toList_data]; exact hyx
                          have HNN : Hid (∀ (j : Nat) (y : Ent), j < k + 1 → L[j]? = some y → y.n.data.toList ≠ xn.data.toList) := Lib.hid (fun j y' hj hy' => by
                            by_cases e : j = k
                            · subst e; rw [hy] at hy'; injection hy' with hy'; rw [← hy']; exact hyx
                            · exact HNO2.out j y' (by omega) hy')
                          clear hy hyx
                          go_wp2
                          go_roundw
                          case rel => exact ⟨k + 1, by go_num, by omega, (by first | rfl | trivial), HNN.out⟩
                          case measure => simp [intOf]; omega
                      · obtain rfl : k = L.length := by omega
                        have d2 : decide ((L.length : Int) < (L.length : Int)) = false := decide_eq_false (by omega)
                        have d2' : decide (L.length < L.length) = false := decide_eq_false (by omega)
                        have HNXT : Hid (treeF s.data.toList = treeU (f - 1) (q.data.toList.drop 20) (L ++ [⟨xm, xn, xi⟩])) := Lib.hid (by
                          rw [HSTEP.out, if_neg]
                          rintro (h | h)
                          · exact absurd h (by decide)
                          · obtain ⟨y, hy, e⟩ := List.mem_map.1 h
                            obtain ⟨j, hj, ej⟩ := List.mem_iff_getElem.1 hy
                            exact HNO2.out j y hj (by rw [List.getElem?_eq_getElem hj, ej]) e)
                        have kx0 : wr.cell? ⟨g, 0, none⟩ = some (.string xm) := HCC.out.cell 0 (by decide)
                        have kx1 : wr.cell? ⟨g, 1, none⟩ = some (.string xn) := HCC.out.cell 1 (by decide)
                        have kx2 : wr.cell? ⟨g, 2, none⟩ = some (.string xi) := HCC.out.cell 2 (by decide)
                        have hl8 : Below wr.heap.size wr (wr.alloc (.cells #[.string xm, .string xn, .string xi] 28)) := (Below.refl _ _).alloc (Nat.le_refl _) _
                        have HO8 := Lib.hid (HOC.out.alloc (.cells #[.string xm, .string xn, .string xi] 28))
                        have HB8 := Lib.hid (HBC.out.trans (hl8.mono HBC.out.size))
                        have HSRC := Lib.hid (Src.ent (P := Tryz.prog) wr ⟨xm, xn, xi⟩ 28)
                        have hbs : w.heap.size ≤ (wr.alloc (.cells #[.string xm, .string xn, .string xi] 28)).heap.size := HB8.out.size
                        have hbyte : (L.length + 1) * 48 ≤ 140737488355328 := by have := HN.out; have := HS.out; omega
                        have hmax : L.length + 1 ≤ maxLen := by unfold maxLen; omega
                        have e20 : (q.extract 20 q.size).data.toList = q.data.toList.drop 20 := by rw [bk_extE, bk_list]
                        have z20 : (q.extract 20 q.size).size + 20 = q.size := by rw [ByteArray.size_extract]; have := HQ.out; omega
                        have HE20 := Lib.hid e20
                        have HZ20 := Lib.hid z20
                        clear hl8 e20 z20 HNO2
                        go_wp2_with (at_builtin; go_loud (refine wpList_append_S rfl (.tmp 85) (.tmp 87) 23 23 rfl i0 (.agg #[.string ⟨#[]⟩, .string ⟨#[]⟩, .string ⟨#[]⟩]) 48 (.slice 28) Tryz.underlying23 Tryz.underlying23 (fun _ h => by cases h) hi hz0 hz1 hz2 rfl rfl rfl HO8.out HSRC.out hmax hbyte hbs ?_; intro A9 c9 w9 ho9 hg9 hw9))
                        have HB9 := Lib.hid (HB8.out.grown hg9 hbs (fun j hj => (HO8.out.lt j hj).1))
                        have HO9 : Hid (OwnS w9 w.heap.size 28 3 (.slice A9 (L.length + 1) c9) (L ++ [(⟨xm, xn, xi⟩ : Ent)]).length (entVs (L ++ [⟨xm, xn, xi⟩]))) := Lib.hid (by
                          rw [List.length_append, entVs_snoc]
                          exact ho9)
                        have hlen1 : (L ++ [(⟨xm, xn, xi⟩ : Ent)]).length = L.length + 1 := by simp
                        have HLN := Lib.hid hlen1
                        clear ho9 hg9 hw9 hlen1
                        go_roundw
                        case rel =>
                          refine ⟨q.extract 20 q.size, L ++ [⟨xm, xn, xi⟩], f - 1, _, rfl, rfl, HO9.out, HB9.out, ?_, ?_, ?_, ?_⟩
                          · have := HZ20.out; have := HZ3.out; have := HN.out; omega
                          · rw [HLN.out]; have := HZ20.out; have := HZ3.out; have := HN.out; omega
                          · rw [HNXT.out, HE20.out]
                          · intro y hy
                            rcases List.mem_append.1 hy with hy | hy
                            · exact HYS.out y hy
                            · rw [List.mem_singleton.1 hy]; exact HZN.out
                        case measure => simp only [sLen]; have := HZ20.out; have := HZ3.out; omega
end Go.Proofs.YtdlabapfcghfmaaGreatDoor
namespace Go.Proofs.YtdlabapfcghfmaaGreatDoor
open Go.RowKit
set_option linter.unusedVariables false
set_option linter.unusedSimpArgs false

theorem RSt.put {w0 w w' : World} {g1 g2 : Nat} {V V' : Array Value} (h : RSt w0 w g1 g2 V) (hc : CelV w' g2 V') (hg : w.grownBy w' (some g2)) : RSt w0 w' g1 g2 V' :=
  ⟨h.low.grown hg h.low.size (fun k hk => by injection hk with hk; have := h.e1; have := h.lt; omega), h.e1, h.lt, h.res.grown hg (by intro hx; injection hx with hx; have := h.lt; omega), hc⟩
def RPCommit (l : List UInt8) (w : World) (e : Ending) (w' : World) : Prop :=
  Below w.heap.size w w' ∧ ((commitF l = none ∧ e = .returned (.tuple #[.agg zeroV, .int .i64 3])) ∨
    ∃ r A c, commitF l = some r ∧ e = .returned (.tuple #[.agg (comV (bk r.t) (.slice A r.P.length c) (bk r.a) (bk r.c) (bk r.m)), .int .i64 0]) ∧ OwnS w' w.heap.size 9 1 (.slice A r.P.length c) r.P.length (strVs r.P))
def RPTag (l : List UInt8) (w : World) (e : Ending) (w' : World) : Prop :=
  Below w.heap.size w w' ∧ ((tagF l = none ∧ e = .returned (.tuple #[.agg zeroV, .int .i64 3])) ∨
    ∃ r, tagF l = some r ∧ e = .returned (.tuple #[.agg (tagV (bk r.o) (bk r.n) (r.k : Int) (bk r.g) (bk r.m)), .int .i64 0]))
def RPTree (l : List UInt8) (w : World) (e : Ending) (w' : World) : Prop :=
  Below w.heap.size w w' ∧ ((treeF l = none ∧ e = .returned (.tuple #[.agg zeroV, .int .i64 3])) ∨
    ∃ L A c, treeF l = some L ∧ e = .returned (.tuple #[.agg (treV 2 ⟨#[]⟩ (.slice A L.length c)), .int .i64 0]) ∧ OwnS w' w.heap.size 28 3 (.slice A L.length c) L.length (entVs L))
set_option maxRecDepth 100000 in
set_option maxHeartbeats 4000000 in
theorem rpcommit_any (s : ByteArray) (w : World) (hs : s.size ≤ 8796093022000) : Calls Tryz.prog 22 #[.int .i64 1, .string s] w (RPCommit s.data.toList w) := by
  have HS := Lib.hid hs
  have HPO := Lib.hid (rfl : RPCommit s.data.toList w = RPCommit s.data.toList w)
  generalize hPOST : RPCommit s.data.toList w = POST at *
  clear HPO
  have HPO := Lib.hid hPOST
  have HST0 := Lib.hid (RSt.begin w (treV 1 s (.slice none 0 0)) rfl)
  clear hs hPOST
  go_enter Tryz.func22, Tryz.ntmps22
  go_upto_region 2 with (fail)
  change Hid (RSt w ((w.alloc (.cells #[.int .i64 0, .string ⟨#[]⟩, .slice none 0 0, .string ⟨#[]⟩, .slice none 0 0, .string ⟨#[]⟩, .string ⟨#[]⟩, .string ⟨#[]⟩, .string ⟨#[]⟩, .int .i64 0, .string ⟨#[]⟩, .string ⟨#[]⟩] 50)).alloc (.cells #[.int .i64 1, .string s, .slice none 0 0, .string ⟨#[]⟩, .slice none 0 0, .string ⟨#[]⟩, .string ⟨#[]⟩, .string ⟨#[]⟩, .string ⟨#[]⟩, .int .i64 0, .string ⟨#[]⟩, .string ⟨#[]⟩] 50)) w.heap.size (w.heap.size + 1) (treV 1 s (.slice none 0 0))) at HST0
  generalize hw1 : (w.alloc (.cells #[.int .i64 0, .string ⟨#[]⟩, .slice none 0 0, .string ⟨#[]⟩, .slice none 0 0, .string ⟨#[]⟩, .string ⟨#[]⟩, .string ⟨#[]⟩, .string ⟨#[]⟩, .int .i64 0, .string ⟨#[]⟩, .string ⟨#[]⟩] 50)).alloc (.cells #[.int .i64 1, .string s, .slice none 0 0, .string ⟨#[]⟩, .slice none 0 0, .string ⟨#[]⟩, .string ⟨#[]⟩, .string ⟨#[]⟩, .string ⟨#[]⟩, .int .i64 0, .string ⟨#[]⟩, .string ⟨#[]⟩] 50) = w1 at *
  generalize hg2 : w.heap.size + 1 = g2 at HST0 ⊢
  generalize hg1 : w.heap.size = g1 at HST0 ⊢
  have HG1 := Lib.hid hg1
  clear hg1 hg2 hw1
  go_wp2_with fail
  refine (rcommit_any s w1 HS.out).mono ?_
  rintro e w2 ⟨hb2, ⟨hno, rfl⟩ | ⟨r, A, c, hyes, rfl, ho2⟩⟩
  · have HNO := Lib.hid hno
    have HST1 := Lib.hid (HST0.out.below hb2)
    have hC6 := HST1.out.obj
    clear hb2 hno HST0
    go_upto_region 14 with (refine wpList_store_part (vs := zeroV) (off := 0) rfl (.tmp 6) (.tmp 33) rfl rfl rfl hC6 info_o8 (Nat.le_refl 12) zeroV_one ?_; intro w7 hC7 hg7 hs7; have hC7b := CelV.stored rfl hC7)
    have HST2 := Lib.hid (HST1.out.put hC7b hg7)
    clear hC7 hC7b hs7 hC6 HST1
    have hC5 := HST2.out.res
    have HLB := Lib.hid (HST2.out.low)
    have hge1 := HST2.out.e1
    go_wp2_with (refine wpList_store_part (vs := zeroV) (off := 0) rfl (.tmp 4) (.tmp 44) rfl rfl rfl hC5 info_o8 (Nat.le_refl 12) zeroV_one ?_; intro w88 hC8 hg8 hs8; have hC9 := CelV.stored rfl hC8)
    exact bodyPost_ret (v := .tuple #[.agg zeroV, .int .i64 3]) (results_cel2 rfl _ _ rfl rfl hC9 Tryz.underlying50 rfl info_o8 (Nat.le_refl 12) (fun j hj => getD_some hj)) rfl (by rw [← HPO.out]; exact ⟨by exact HLB.out.grown hg8 HLB.out.size (fun k h => by injection h with h; rw [← h]; exact hge1), .inl ⟨HNO.out, rfl⟩⟩)
  · have HY := Lib.hid hyes
    have HST1 := Lib.hid (HST0.out.below hb2)
    have HO1 := Lib.hid ho2
    have hC6 := HST1.out.obj
    have HGG : Hid (g2 + 1 ≤ w1.heap.size) := Lib.hid HST0.out.obj.blk
    clear hb2 hyes ho2 HST0
    go_upto_region 14 with (refine wpList_store_part (vs := (comV (bk r.t) (.slice A r.P.length c) (bk r.a) (bk r.c) (bk r.m))) (off := 0) rfl (.tmp 6) (.tmp 33) rfl rfl rfl hC6 info_o8 (Nat.le_refl 12) (comV_one _ _ _ _ _ _ _) ?_; intro w7 hC7 hg7 hs7; have hC7b := CelV.stored rfl hC7)
    have HST2 := Lib.hid (HST1.out.put hC7b hg7)
    clear hC7 hC7b hs7 hC6 HST1
    have HO2 := Lib.hid (HO1.out.kept hg7 (.inr (fun h => by have := (HO1.out.lt _ h).1; have := HGG.out; omega)))
    clear HO1
    have hCo := HST2.out.obj
    have hC5 := HST2.out.res
    have HLB := Lib.hid (HST2.out.low)
    have hge1 := HST2.out.e1
    go_wp2_with (first
      | (refine wpList_load_part (vs := (comV (bk r.t) (.slice A r.P.length c) (bk r.a) (bk r.c) (bk r.m))) (off := 0) rfl (.tmp 6) rfl rfl hCo Tryz.underlying50 rfl info_o8 (Nat.le_refl 12) (fun j hj => by rw [Nat.zero_add]; exact getD_some hj) ?_)
      | (refine wpList_store_part (vs := (comV (bk r.t) (.slice A r.P.length c) (bk r.a) (bk r.c) (bk r.m))) (off := 0) rfl (.tmp 4) (.tmp 45) rfl rfl rfl hC5 info_o8 (Nat.le_refl 12) (comV_one _ _ _ _ _ _ _) ?_; intro w88 hC8 hg8 hs8; have hC9 := CelV.stored rfl hC8))
    have ho9 := HO2.out.kept hg8 (.inr (fun h => by have := (HO2.out.lt _ h).1; have := HGG.out; have := HST2.out.lt; omega))
    exact bodyPost_ret (v := .tuple #[.agg (comV (bk r.t) (.slice A r.P.length c) (bk r.a) (bk r.c) (bk r.m)), .int .i64 0]) (results_cel2 rfl _ _ rfl rfl hC9 Tryz.underlying50 rfl info_o8 (Nat.le_refl 12) (fun j hj => getD_some hj)) rfl (by rw [← HPO.out]; exact ⟨by exact HLB.out.grown hg8 HLB.out.size (fun k h => by injection h with h; rw [← h]; exact hge1), .inr ⟨r, A, c, HY.out, rfl, ho9.base_ (by have := HGG.out; have := HST2.out.lt; have := HST2.out.e1; omega)⟩⟩)
set_option maxRecDepth 100000 in
set_option maxHeartbeats 4000000 in
theorem rptag_any (s : ByteArray) (w : World) (hs : s.size ≤ 8796093022000) : Calls Tryz.prog 22 #[.int .i64 4, .string s] w (RPTag s.data.toList w) := by
  have HS := Lib.hid hs
  have HPO := Lib.hid (rfl : RPTag s.data.toList w = RPTag s.data.toList w)
  generalize hPOST : RPTag s.data.toList w = POST at *
  clear HPO
  have HPO := Lib.hid hPOST
  have HST0 := Lib.hid (RSt.begin w (treV 4 s (.slice none 0 0)) rfl)
  clear hs hPOST
  go_enter Tryz.func22, Tryz.ntmps22
  go_upto_region 2 with (fail)
  change Hid (RSt w ((w.alloc (.cells #[.int .i64 0, .string ⟨#[]⟩, .slice none 0 0, .string ⟨#[]⟩, .slice none 0 0, .string ⟨#[]⟩, .string ⟨#[]⟩, .string ⟨#[]⟩, .string ⟨#[]⟩, .int .i64 0, .string ⟨#[]⟩, .string ⟨#[]⟩] 50)).alloc (.cells #[.int .i64 4, .string s, .slice none 0 0, .string ⟨#[]⟩, .slice none 0 0, .string ⟨#[]⟩, .string ⟨#[]⟩, .string ⟨#[]⟩, .string ⟨#[]⟩, .int .i64 0, .string ⟨#[]⟩, .string ⟨#[]⟩] 50)) w.heap.size (w.heap.size + 1) (treV 4 s (.slice none 0 0))) at HST0
  generalize hw1 : (w.alloc (.cells #[.int .i64 0, .string ⟨#[]⟩, .slice none 0 0, .string ⟨#[]⟩, .slice none 0 0, .string ⟨#[]⟩, .string ⟨#[]⟩, .string ⟨#[]⟩, .string ⟨#[]⟩, .int .i64 0, .string ⟨#[]⟩, .string ⟨#[]⟩] 50)).alloc (.cells #[.int .i64 4, .string s, .slice none 0 0, .string ⟨#[]⟩, .slice none 0 0, .string ⟨#[]⟩, .string ⟨#[]⟩, .string ⟨#[]⟩, .string ⟨#[]⟩, .int .i64 0, .string ⟨#[]⟩, .string ⟨#[]⟩] 50) = w1 at *
  generalize hg2 : w.heap.size + 1 = g2 at HST0 ⊢
  generalize hg1 : w.heap.size = g1 at HST0 ⊢
  have HG1 := Lib.hid hg1
  clear hg1 hg2 hw1
  go_wp2_with fail
  refine (rtag_any s w1 (by have := HS.out; omega)).mono ?_
  rintro e w2 ⟨hb2, ⟨hno, rfl⟩ | ⟨r, hyes, rfl⟩⟩
  · have HNO := Lib.hid hno
    have HST1 := Lib.hid (HST0.out.below hb2)
    have hC6 := HST1.out.obj
    clear hb2 hno HST0
    go_upto_region 14 with (refine wpList_store_part (vs := zeroV) (off := 0) rfl (.tmp 6) (.tmp 40) rfl rfl rfl hC6 info_o8 (Nat.le_refl 12) zeroV_one ?_; intro w7 hC7 hg7 hs7; have hC7b := CelV.stored rfl hC7)
    have HST2 := Lib.hid (HST1.out.put hC7b hg7)
    clear hC7 hC7b hs7 hC6 HST1
    have hC5 := HST2.out.res
    have HLB := Lib.hid (HST2.out.low)
    have hge1 := HST2.out.e1
    go_wp2_with (refine wpList_store_part (vs := zeroV) (off := 0) rfl (.tmp 4) (.tmp 44) rfl rfl rfl hC5 info_o8 (Nat.le_refl 12) zeroV_one ?_; intro w88 hC8 hg8 hs8; have hC9 := CelV.stored rfl hC8)
    exact bodyPost_ret (v := .tuple #[.agg zeroV, .int .i64 3]) (results_cel2 rfl _ _ rfl rfl hC9 Tryz.underlying50 rfl info_o8 (Nat.le_refl 12) (fun j hj => getD_some hj)) rfl (by rw [← HPO.out]; exact ⟨by exact HLB.out.grown hg8 HLB.out.size (fun k h => by injection h with h; rw [← h]; exact hge1), .inl ⟨HNO.out, rfl⟩⟩)
  · have HY := Lib.hid hyes
    have HST1 := Lib.hid (HST0.out.below hb2)
    have hC6 := HST1.out.obj
    clear hb2 hyes HST0
    go_upto_region 14 with (refine wpList_store_part (vs := (tagV (bk r.o) (bk r.n) (r.k : Int) (bk r.g) (bk r.m))) (off := 0) rfl (.tmp 6) (.tmp 40) rfl rfl rfl hC6 info_o8 (Nat.le_refl 12) (tagV_one _ _ _ _ _) ?_; intro w7 hC7 hg7 hs7; have hC7b := CelV.stored rfl hC7)
    have HST2 := Lib.hid (HST1.out.put hC7b hg7)
    clear hC7 hC7b hs7 hC6 HST1
    have hCo := HST2.out.obj
    have hC5 := HST2.out.res
    have HLB := Lib.hid (HST2.out.low)
    have hge1 := HST2.out.e1
    go_wp2_with (first
      | (refine wpList_load_part (vs := (tagV (bk r.o) (bk r.n) (r.k : Int) (bk r.g) (bk r.m))) (off := 0) rfl (.tmp 6) rfl rfl hCo Tryz.underlying50 rfl info_o8 (Nat.le_refl 12) (fun j hj => by rw [Nat.zero_add]; exact getD_some hj) ?_)
      | (refine wpList_store_part (vs := (tagV (bk r.o) (bk r.n) (r.k : Int) (bk r.g) (bk r.m))) (off := 0) rfl (.tmp 4) (.tmp 45) rfl rfl rfl hC5 info_o8 (Nat.le_refl 12) (tagV_one _ _ _ _ _) ?_; intro w88 hC8 hg8 hs8; have hC9 := CelV.stored rfl hC8))
    exact bodyPost_ret (v := .tuple #[.agg (tagV (bk r.o) (bk r.n) (r.k : Int) (bk r.g) (bk r.m)), .int .i64 0]) (results_cel2 rfl _ _ rfl rfl hC9 Tryz.underlying50 rfl info_o8 (Nat.le_refl 12) (fun j hj => getD_some hj)) rfl (by rw [← HPO.out]; exact ⟨by exact HLB.out.grown hg8 HLB.out.size (fun k h => by injection h with h; rw [← h]; exact hge1), .inr ⟨r, HY.out, rfl⟩⟩)
set_option maxRecDepth 100000 in
set_option maxHeartbeats 4000000 in
theorem rptree_any (s : ByteArray) (w : World) (hs : s.size ≤ 8796093022000) : Calls Tryz.prog 22 #[.int .i64 2, .string s] w (RPTree s.data.toList w) := by
  have HS := Lib.hid hs
  have HPO := Lib.hid (rfl : RPTree s.data.toList w = RPTree s.data.toList w)
  generalize hPOST : RPTree s.data.toList w = POST at *
  clear HPO
  have HPO := Lib.hid hPOST
  have HST0 := Lib.hid (RSt.begin w (treV 2 s (.slice none 0 0)) rfl)
  clear hs hPOST
  go_enter Tryz.func22, Tryz.ntmps22
  go_upto_region 2 with (fail)
  change Hid (RSt w ((w.alloc (.cells #[.int .i64 0, .string ⟨#[]⟩, .slice none 0 0, .string ⟨#[]⟩, .slice none 0 0, .string ⟨#[]⟩, .string ⟨#[]⟩, .string ⟨#[]⟩, .string ⟨#[]⟩, .int .i64 0, .string ⟨#[]⟩, .string ⟨#[]⟩] 50)).alloc (.cells #[.int .i64 2, .string s, .slice none 0 0, .string ⟨#[]⟩, .slice none 0 0, .string ⟨#[]⟩, .string ⟨#[]⟩, .string ⟨#[]⟩, .string ⟨#[]⟩, .int .i64 0, .string ⟨#[]⟩, .string ⟨#[]⟩] 50)) w.heap.size (w.heap.size + 1) (treV 2 s (.slice none 0 0))) at HST0
  generalize hw1 : (w.alloc (.cells #[.int .i64 0, .string ⟨#[]⟩, .slice none 0 0, .string ⟨#[]⟩, .slice none 0 0, .string ⟨#[]⟩, .string ⟨#[]⟩, .string ⟨#[]⟩, .string ⟨#[]⟩, .int .i64 0, .string ⟨#[]⟩, .string ⟨#[]⟩] 50)).alloc (.cells #[.int .i64 2, .string s, .slice none 0 0, .string ⟨#[]⟩, .slice none 0 0, .string ⟨#[]⟩, .string ⟨#[]⟩, .string ⟨#[]⟩, .string ⟨#[]⟩, .int .i64 0, .string ⟨#[]⟩, .string ⟨#[]⟩] 50) = w1 at *
  generalize hg2 : w.heap.size + 1 = g2 at HST0 ⊢
  generalize hg1 : w.heap.size = g1 at HST0 ⊢
  have HG1 := Lib.hid hg1
  clear hg1 hg2 hw1
  go_wp2_with fail
  refine (rtree_any s w1 HS.out).mono ?_
  rintro e w2 ⟨hb2, ⟨hno, rfl⟩ | ⟨L, A, c, hyes, rfl, ho2⟩⟩
  · have HNO := Lib.hid hno
    have HST1 := Lib.hid (HST0.out.below hb2)
    have hC6 := HST1.out.obj
    clear hb2 hno HST0
    go_upto_region 14 with (refine wpList_store_part (vs := (treV 2 ⟨#[]⟩ (.slice none 0 0))) (off := 0) rfl (.tmp 6) (.tmp 26) rfl rfl rfl hC6 info_o8 (Nat.le_refl 12) (treV_one _ _ _ _ _) ?_; intro w7 hC7 hg7 hs7; have hC7b := CelV.stored rfl hC7)
    have HST2 := Lib.hid (HST1.out.put hC7b hg7)
    clear hC7 hC7b hs7 hC6 HST1
    have hC5 := HST2.out.res
    have HLB := Lib.hid (HST2.out.low)
    have hge1 := HST2.out.e1
    go_wp2_with (refine wpList_store_part (vs := zeroV) (off := 0) rfl (.tmp 4) (.tmp 44) rfl rfl rfl hC5 info_o8 (Nat.le_refl 12) zeroV_one ?_; intro w88 hC8 hg8 hs8; have hC9 := CelV.stored rfl hC8)
    exact bodyPost_ret (v := .tuple #[.agg zeroV, .int .i64 3]) (results_cel2 rfl _ _ rfl rfl hC9 Tryz.underlying50 rfl info_o8 (Nat.le_refl 12) (fun j hj => getD_some hj)) rfl (by rw [← HPO.out]; exact ⟨by exact HLB.out.grown hg8 HLB.out.size (fun k h => by injection h with h; rw [← h]; exact hge1), .inl ⟨HNO.out, rfl⟩⟩)
  · have HY := Lib.hid hyes
    have HST1 := Lib.hid (HST0.out.below hb2)
    have HO1 := Lib.hid ho2
    have hC6 := HST1.out.obj
    have HGG : Hid (g2 + 1 ≤ w1.heap.size) := Lib.hid HST0.out.obj.blk
    clear hb2 hyes ho2 HST0
    go_upto_region 14 with (refine wpList_store_part (vs := (treV 2 ⟨#[]⟩ (.slice A L.length c))) (off := 0) rfl (.tmp 6) (.tmp 26) rfl rfl rfl hC6 info_o8 (Nat.le_refl 12) (treV_one _ _ _ _ _) ?_; intro w7 hC7 hg7 hs7; have hC7b := CelV.stored rfl hC7)
    have HST2 := Lib.hid (HST1.out.put hC7b hg7)
    clear hC7 hC7b hs7 hC6 HST1
    have HO2 := Lib.hid (HO1.out.kept hg7 (.inr (fun h => by have := (HO1.out.lt _ h).1; have := HGG.out; omega)))
    clear HO1
    have hCo := HST2.out.obj
    have hC5 := HST2.out.res
    have HLB := Lib.hid (HST2.out.low)
    have hge1 := HST2.out.e1
    go_wp2_with (first
      | (refine wpList_load_part (vs := (treV 2 ⟨#[]⟩ (.slice A L.length c))) (off := 0) rfl (.tmp 6) rfl rfl hCo Tryz.underlying50 rfl info_o8 (Nat.le_refl 12) (fun j hj => by rw [Nat.zero_add]; exact getD_some hj) ?_)
      | (refine wpList_store_part (vs := (treV 2 ⟨#[]⟩ (.slice A L.length c))) (off := 0) rfl (.tmp 4) (.tmp 45) rfl rfl rfl hC5 info_o8 (Nat.le_refl 12) (treV_one _ _ _ _ _) ?_; intro w88 hC8 hg8 hs8; have hC9 := CelV.stored rfl hC8))
    have ho9 := HO2.out.kept hg8 (.inr (fun h => by have := (HO2.out.lt _ h).1; have := HGG.out; have := HST2.out.lt; omega))
    exact bodyPost_ret (v := .tuple #[.agg (treV 2 ⟨#[]⟩ (.slice A L.length c)), .int .i64 0]) (results_cel2 rfl _ _ rfl rfl hC9 Tryz.underlying50 rfl info_o8 (Nat.le_refl 12) (fun j hj => getD_some hj)) rfl (by rw [← HPO.out]; exact ⟨by exact HLB.out.grown hg8 HLB.out.size (fun k h => by injection h with h; rw [← h]; exact hge1), .inr ⟨L, A, c, HY.out, rfl, ho9.base_ (by have := HGG.out; have := HST2.out.lt; have := HST2.out.e1; omega)⟩⟩)
def RPBlob (s : ByteArray) (w : World) (e : Ending) (w' : World) : Prop := Below w.heap.size w w' ∧ e = .returned (.tuple #[.agg (treV 3 s (.slice none 0 0)), .int .i64 0])
set_option maxRecDepth 100000 in
set_option maxHeartbeats 4000000 in
theorem rpblob_any (s : ByteArray) (w : World) (hs : s.size ≤ 8796093022000) : Calls Tryz.prog 22 #[.int .i64 3, .string s] w (RPBlob s w) := by
  have HS := Lib.hid hs
  have HPO := Lib.hid (rfl : RPBlob s w = RPBlob s w)
  generalize hPOST : RPBlob s w = POST at *
  clear HPO
  have HPO := Lib.hid hPOST
  have HST0 := Lib.hid (RSt.begin w (treV 3 s (.slice none 0 0)) rfl)
  clear hs hPOST
  go_enter Tryz.func22, Tryz.ntmps22
  go_upto_region 2 with (fail)
  change Hid (RSt w ((w.alloc (.cells #[.int .i64 0, .string ⟨#[]⟩, .slice none 0 0, .string ⟨#[]⟩, .slice none 0 0, .string ⟨#[]⟩, .string ⟨#[]⟩, .string ⟨#[]⟩, .string ⟨#[]⟩, .int .i64 0, .string ⟨#[]⟩, .string ⟨#[]⟩] 50)).alloc (.cells #[.int .i64 3, .string s, .slice none 0 0, .string ⟨#[]⟩, .slice none 0 0, .string ⟨#[]⟩, .string ⟨#[]⟩, .string ⟨#[]⟩, .string ⟨#[]⟩, .int .i64 0, .string ⟨#[]⟩, .string ⟨#[]⟩] 50)) w.heap.size (w.heap.size + 1) (treV 3 s (.slice none 0 0))) at HST0
  generalize hw1 : (w.alloc (.cells #[.int .i64 0, .string ⟨#[]⟩, .slice none 0 0, .string ⟨#[]⟩, .slice none 0 0, .string ⟨#[]⟩, .string ⟨#[]⟩, .string ⟨#[]⟩, .string ⟨#[]⟩, .int .i64 0, .string ⟨#[]⟩, .string ⟨#[]⟩] 50)).alloc (.cells #[.int .i64 3, .string s, .slice none 0 0, .string ⟨#[]⟩, .slice none 0 0, .string ⟨#[]⟩, .string ⟨#[]⟩, .string ⟨#[]⟩, .string ⟨#[]⟩, .int .i64 0, .string ⟨#[]⟩, .string ⟨#[]⟩] 50) = w1 at *
  generalize hg2 : w.heap.size + 1 = g2 at HST0 ⊢
  generalize hg1 : w.heap.size = g1 at HST0 ⊢
  have HG1 := Lib.hid hg1
  clear hg1 hg2 hw1
  have HST2 := Lib.hid HST0.out
  have hCo := HST2.out.obj
  have hC5 := HST2.out.res
  have HLB := Lib.hid (HST2.out.low)
  have hge1 := HST2.out.e1
  go_wp2_with (first
    | (refine wpList_load_part (vs := (treV 3 s (.slice none 0 0))) (off := 0) rfl (.tmp 6) rfl rfl hCo Tryz.underlying50 rfl info_o8 (Nat.le_refl 12) (fun j hj => by rw [Nat.zero_add]; exact getD_some hj) ?_)
    | (refine wpList_store_part (vs := (treV 3 s (.slice none 0 0))) (off := 0) rfl (.tmp 4) (.tmp 45) rfl rfl rfl hC5 info_o8 (Nat.le_refl 12) (treV_one _ _ _ _ _) ?_; intro w88 hC8 hg8 hs8; have hC9 := CelV.stored rfl hC8))
  exact bodyPost_ret (v := .tuple #[.agg (treV 3 s (.slice none 0 0)), .int .i64 0]) (results_cel2 rfl _ _ rfl rfl hC9 Tryz.underlying50 rfl info_o8 (Nat.le_refl 12) (fun j hj => getD_some hj)) rfl (by rw [← HPO.out]; exact ⟨by exact HLB.out.grown hg8 HLB.out.size (fun k h => by injection h with h; rw [← h]; exact hge1), rfl⟩)
set_option maxRecDepth 100000 in
set_option maxHeartbeats 2000000 in
theorem rpnone_any (kd : Int) (s : ByteArray) (w : World) (hk : kd < 1 ∨ 4 < kd) : Calls Tryz.prog 22 #[.int .i64 kd, .string s] w fun e w' => e = .returned (.tuple #[.agg zeroV, .int .i64 1]) ∧ Below w.heap.size w w' := by
  have e1 : (kd == 3) = false := by rw [beq_eq_false_iff_ne]; omega
  have e2 : (kd == 2) = false := by rw [beq_eq_false_iff_ne]; omega
  have e3 : (kd == 1) = false := by rw [beq_eq_false_iff_ne]; omega
  have e4 : (kd == 4) = false := by rw [beq_eq_false_iff_ne]; omega
  have HST0 := Lib.hid (RSt.begin w (treV kd s (.slice none 0 0)) rfl)
  clear hk
  go_enter Tryz.func22, Tryz.ntmps22
  go_upto_region 2 with (fail)
  change Hid (RSt w ((w.alloc (.cells #[.int .i64 0, .string ⟨#[]⟩, .slice none 0 0, .string ⟨#[]⟩, .slice none 0 0, .string ⟨#[]⟩, .string ⟨#[]⟩, .string ⟨#[]⟩, .string ⟨#[]⟩, .int .i64 0, .string ⟨#[]⟩, .string ⟨#[]⟩] 50)).alloc (.cells #[.int .i64 kd, .string s, .slice none 0 0, .string ⟨#[]⟩, .slice none 0 0, .string ⟨#[]⟩, .string ⟨#[]⟩, .string ⟨#[]⟩, .string ⟨#[]⟩, .int .i64 0, .string ⟨#[]⟩, .string ⟨#[]⟩] 50)) w.heap.size (w.heap.size + 1) (treV kd s (.slice none 0 0))) at HST0
  generalize hw1 : (w.alloc (.cells #[.int .i64 0, .string ⟨#[]⟩, .slice none 0 0, .string ⟨#[]⟩, .slice none 0 0, .string ⟨#[]⟩, .string ⟨#[]⟩, .string ⟨#[]⟩, .string ⟨#[]⟩, .int .i64 0, .string ⟨#[]⟩, .string ⟨#[]⟩] 50)).alloc (.cells #[.int .i64 kd, .string s, .slice none 0 0, .string ⟨#[]⟩, .slice none 0 0, .string ⟨#[]⟩, .string ⟨#[]⟩, .string ⟨#[]⟩, .string ⟨#[]⟩, .int .i64 0, .string ⟨#[]⟩, .string ⟨#[]⟩] 50) = w1 at *
  generalize hg2 : w.heap.size + 1 = g2 at HST0 ⊢
  generalize hg1 : w.heap.size = g1 at HST0 ⊢
  have HG1 := Lib.hid hg1
  clear hg1 hg2 hw1
  have hC5 := HST0.out.res
  have HLB := Lib.hid HST0.out.low
  have hge1 := HST0.out.e1
  go_wp2_with (refine wpList_store_part (vs := zeroV) (off := 0) rfl (.tmp 4) (.tmp 14) rfl rfl rfl hC5 info_o8 (Nat.le_refl 12) zeroV_one ?_; intro w88 hC8 hg8 hs8; have hC9 := CelV.stored rfl hC8)
  exact bodyPost_ret (v := .tuple #[.agg zeroV, .int .i64 1]) (results_cel2 rfl _ _ rfl rfl hC9 Tryz.underlying50 rfl info_o8 (Nat.le_refl 12) (fun j hj => getD_some hj)) rfl ⟨rfl, HLB.out.grown hg8 HLB.out.size (fun k h => by injection h with h; rw [← h]; exact hge1)⟩
end Go.Proofs.YtdlabapfcghfmaaGreatDoor
namespace Go.Proofs.YtdlabapfcghfmaaGreatDoor
open Go.RowKit
set_option linter.unusedVariables false
set_option linter.unusedSimpArgs false

/-- What the document's Links answers. -/
def RLinks (K : List Lk) (w : World) (e : Ending) (w' : World) : Prop :=
  Below w.heap.size w w' ∧ ∃ A c, e = .returned (.slice A K.length c) ∧ OwnS w' w.heap.size 55 2 (.slice A K.length c) K.length (lkVs K)
set_option maxRecDepth 100000 in
set_option maxHeartbeats 2000000 in
theorem rlinksBlob_any (d : ByteArray) (vL : Value) (t : ByteArray) (vP : Value) (a cm o nm : ByteArray) (ty : Int) (g m : ByteArray) (w : World) :
    Calls Tryz.prog 24 #[.agg #[.int .i64 3, .string d, vL, .string t, vP, .string a, .string cm, .string o, .string nm, .int .i64 ty, .string g, .string m]] w (RLinks [] w) := by
  have hl0 : Below w.heap.size w (w.alloc (.cells #[.int .i64 3, .string d, vL, .string t, vP, .string a, .string cm, .string o, .string nm, .int .i64 ty, .string g, .string m] 50)) := (Below.refl _ _).alloc (Nat.le_refl _) _
  have ho0 := O8At.new w 3 d vL t vP a cm o nm ty g m
  have HL0 := Lib.hid hl0
  go_enter Tryz.func24, Tryz.ntmps24
  go_upto_region 1 with (fail)
  generalize w.alloc (.cells #[.int .i64 3, .string d, vL, .string t, vP, .string a, .string cm, .string o, .string nm, .int .i64 ty, .string g, .string m] 50) = w0 at *
  have k0 := ho0.c0
  clear ho0 hl0
  go_wp2
  go_ret
  exact ⟨HL0.out, none, 0, rfl, OwnS.nil _ _ _ _⟩
set_option maxRecDepth 100000 in
set_option maxHeartbeats 2000000 in
theorem rlinksTag_any (d : ByteArray) (vL : Value) (t : ByteArray) (vP : Value) (a cm o nm : ByteArray) (ty : Int) (g m : ByteArray) (w : World) :
    Calls Tryz.prog 24 #[.agg #[.int .i64 4, .string d, vL, .string t, vP, .string a, .string cm, .string o, .string nm, .int .i64 ty, .string g, .string m]] w (RLinks [⟨o, ty⟩] w) := by
  obtain ⟨i0, hi, hz0, hz1, hz2⟩ := info_parts info_lk
  have hl0 : Below w.heap.size w (w.alloc (.cells #[.int .i64 4, .string d, vL, .string t, vP, .string a, .string cm, .string o, .string nm, .int .i64 ty, .string g, .string m] 50)) := (Below.refl _ _).alloc (Nat.le_refl _) _
  have ho0 := O8At.new w 4 d vL t vP a cm o nm ty g m
  have HL0 := Lib.hid hl0
  go_enter Tryz.func24, Tryz.ntmps24
  go_upto_region 1 with (fail)
  generalize w.alloc (.cells #[.int .i64 4, .string d, vL, .string t, vP, .string a, .string cm, .string o, .string nm, .int .i64 ty, .string g, .string m] 50) = w0 at *
  have k0 := ho0.c0
  have k7 := ho0.c7
  have k9 := ho0.c9
  have hl2 : Below w0.heap.size w0 (w0.alloc (.cells #[.string o, .int .i64 ty] 55)) := (Below.refl _ _).alloc (Nat.le_refl _) _
  have HL2 := Lib.hid (HL0.out.trans (hl2.mono HL0.out.size))
  have HO2 := Lib.hid (OwnS.nil (w0.alloc (.cells #[.string o, .int .i64 ty] 55)) w.heap.size 55 2)
  have HSRC := Lib.hid (Src.lk (P := Tryz.prog) w0 ⟨o, ty⟩ 55)
  have hbs : w.heap.size ≤ (w0.alloc (.cells #[.string o, .int .i64 ty] 55)).heap.size := HL2.out.size
  clear ho0 hl0 hl2
  go_wp2_with (at_builtin; go_loud (refine wpList_append_S rfl (.tmp 73) (.tmp 79) 38 38 rfl i0 (.agg #[.string ⟨#[]⟩, .int .i64 0]) 24 (.slice 55) Tryz.underlying38 Tryz.underlying38 (fun _ h => by cases h) hi hz0 hz1 hz2 rfl rfl rfl HO2.out HSRC.out (by decide) (by decide) hbs ?_; intro A9 c9 w9 ho9 hg9 hw9))
  go_ret
  exact ⟨HL2.out.grown hg9 hbs (fun j hj => (HO2.out.lt j hj).1), A9, c9, rfl, ho9⟩
set_option maxRecDepth 100000 in
set_option maxHeartbeats 4000000 in
theorem rlinksCommit_any (d : ByteArray) (vL : Value) (t : ByteArray) (A : Option Addr) (N cP : Nat) (P : List ByteArray) (a cm o nm : ByteArray) (ty : Int) (g m : ByteArray) (w : World) (hS : StrsAt w A P) (hN : P.length = N) (hNb : N ≤ 1099511627776) :
    Calls Tryz.prog 24 #[.agg #[.int .i64 1, .string d, vL, .string t, .slice A N cP, .string a, .string cm, .string o, .string nm, .int .i64 ty, .string g, .string m]] w (RLinks (comK t P) w) := by
  obtain ⟨i0, hi, hz0, hz1, hz2⟩ := info_parts info_lk
  have HN := Lib.hid hN
  have HSW := Lib.hid hS
  have hl0 : Below w.heap.size w (w.alloc (.cells #[.int .i64 1, .string d, vL, .string t, .slice A N cP, .string a, .string cm, .string o, .string nm, .int .i64 ty, .string g, .string m] 50)) := (Below.refl _ _).alloc (Nat.le_refl _) _
  have ho0 := O8At.new w 1 d vL t (.slice A N cP) a cm o nm ty g m
  have HL0 := Lib.hid hl0
  clear hS hN
  go_enter Tryz.func24, Tryz.ntmps24
  go_upto_region 1 with (fail)
  generalize w.alloc (.cells #[.int .i64 1, .string d, vL, .string t, .slice A N cP, .string a, .string cm, .string o, .string nm, .int .i64 ty, .string g, .string m] 50) = w0 at *
  generalize hog : w.heap.size = og at ho0 ⊢
  have HOG := Lib.hid hog
  have k0 := ho0.c0
  have k3 := ho0.c3
  have HO8 := Lib.hid ho0
  have hl2 : Below w0.heap.size w0 (w0.alloc (.cells #[.string t, .int .i64 2] 55)) := (Below.refl _ _).alloc (Nat.le_refl _) _
  have HL2 := Lib.hid (HL0.out.trans (hl2.mono HL0.out.size))
  have HO8b := Lib.hid (ho0.below hl2)
  have HO2 := Lib.hid (OwnS.nil (w0.alloc (.cells #[.string t, .int .i64 2] 55)) (og + 1) 55 2)
  have HSRC := Lib.hid (Src.lk (P := Tryz.prog) w0 ⟨t, 2⟩ 55)
  have hbs : og + 1 ≤ (w0.alloc (.cells #[.string t, .int .i64 2] 55)).heap.size := HO8b.out.lt
  clear hog ho0 hl0 hl2
  go_upto_region 5 with (at_builtin; go_loud (refine wpList_append_S rfl (.tmp 10) (.tmp 14) 38 38 rfl i0 (.agg #[.string ⟨#[]⟩, .int .i64 0]) 24 (.slice 55) Tryz.underlying38 Tryz.underlying38 (fun _ h => by cases h) hi hz0 hz1 hz2 rfl rfl rfl HO2.out HSRC.out (by decide) (by decide) hbs ?_; intro A9 c9 w9 ho9 hg9 hw9))
  have hch : Chg (fun j => og + 1 ≤ j) (w0.alloc (.cells #[.string t, .int .i64 2] 55)) w9 := Chg.of_grown hg9 (fun j hj => (HO2.out.lt j hj).1)
  have HB9 : Hid (Below w.heap.size w w9) := Lib.hid (HL2.out.trans (hch.below HL2.out.size (fun i hi e => by have := HOG.out; omega)))
  have HO9 : Hid (OwnS w9 (og + 1) 55 2 (.slice A9 1 c9) (comK t (P.take 0)).length (lkVs (comK t (P.take 0)))) := Lib.hid ho9
  have HQ4 : Hid (w9.cell? ⟨og, 4, none⟩ = some (.slice A N cP)) := Lib.hid ((World.cell?_of_block (by rw [hch.block og (by omega) (by omega)])).trans HO8b.out.c4)
  clear hch ho9 hg9 hw9 k3
  go_wp2
  go_loopw [4, 3] (fun vi vo wr => ∃ (k : Nat) (v : Value), vi = .int .i64 k ∧ v = vo ∧ k ≤ N ∧ OwnS wr (og + 1) 55 2 v (comK t (P.take k)).length (lkVs (comK t (P.take k))) ∧ Below w.heap.size w wr ∧ wr.cell? ⟨og, 4, none⟩ = some (.slice A N cP)) (fun vi _ _ => N - (intOf vi).toNat)
  case atStart => exact ⟨0, _, rfl, rfl, Nat.zero_le _, HO9.out, HB9.out, HQ4.out⟩
  case round =>
    clear HO9 HB9 HQ4
    obtain ⟨k, v, rfl, rfl, hk, ho, hb, hq4⟩ := hrel
    obtain ⟨Av, cv, rfl⟩ := ho.shape
    have HB := Lib.hid hb
    have hlen : (comK t (P.take k)).length = k + 1 := by unfold comK; simp; rw [HN.out]; omega
    by_cases hlt : k < N
    · obtain ⟨p, hp⟩ : ∃ p, P[k]? = some p := ⟨_, List.getElem?_eq_getElem (by rw [HN.out]; exact hlt)⟩
      obtain ⟨eb, eo, rfl, heb, hcell⟩ := (HSW.out.below hb) (by rw [HN.out]; omega)
      have r0 := hcell k p hp
      have d2 : decide ((k : Int) < (N : Int)) = true := decide_eq_true (by omega)
      have d2' : decide (k < N) = true := decide_eq_true hlt
      have HKS := Lib.hid (comK_succ (t := t) hp)
      have HO := Lib.hid ho
      have hl2 : Below wr.heap.size wr (wr.alloc (.cells #[.string p, .int .i64 1] 55)) := (Below.refl _ _).alloc (Nat.le_refl _) _
      have HO2 := Lib.hid (ho.alloc (.cells #[.string p, .int .i64 1] 55))
      have HB2 := Lib.hid (hb.trans (hl2.mono hb.size))
      have HSRC := Lib.hid (Src.lk (P := Tryz.prog) wr ⟨p, 1⟩ 55)
      have hogl : og < wr.heap.size := World.block_lt_of_cell? wr _ hq4
      have hbs : og + 1 ≤ (wr.alloc (.cells #[.string p, .int .i64 1] 55)).heap.size := by simp; omega
      have HQ : Hid ((wr.alloc (.cells #[.string p, .int .i64 1] 55)).cell? ⟨og, 4, none⟩ = some (.slice (some ⟨eb, eo, none⟩) N cP)) := Lib.hid ((hl2.cell (p := ⟨og, 4, none⟩) hogl).trans hq4)
      generalize hkl : (comK t (P.take k)).length = kl at *
      have hbyte : (kl + 1) * 24 ≤ 140737488355328 := by omega
      have hmax : kl + 1 ≤ maxLen := by unfold maxLen; omega
      have HKL := Lib.hid hkl
      have HOGL := Lib.hid hogl
      clear hcell hp ho hb hl2 heb hlen hkl hogl
      go_wp2_with (at_builtin; go_loud (refine wpList_append_S rfl (.tmp 23) (.tmp 30) 38 38 rfl i0 (.agg #[.string ⟨#[]⟩, .int .i64 0]) 24 (.slice 55) Tryz.underlying38 Tryz.underlying38 (fun _ h => by cases h) hi hz0 hz1 hz2 rfl rfl rfl HO2.out HSRC.out hmax hbyte hbs ?_; intro A9 c9 w9 ho9 hg9 hw9))
      have HO9 : Hid (OwnS w9 (og + 1) 55 2 (.slice A9 (kl + 1) c9) (comK t (P.take (k + 1))).length (lkVs (comK t (P.take (k + 1))))) := Lib.hid (by
        rw [HKS.out, List.length_append, lkVs_snoc, HKL.out]
        exact ho9)
      have hch : Chg (fun j => og + 1 ≤ j) (wr.alloc (.cells #[.string p, .int .i64 1] 55)) w9 := Chg.of_grown hg9 (fun j hj => (HO2.out.lt j hj).1)
      have HB9 : Hid (Below w.heap.size w w9) := Lib.hid (HB2.out.trans (hch.below HB2.out.size (fun i hi e => by have := HOG.out; omega)))
      have HQ9 : Hid (w9.cell? ⟨og, 4, none⟩ = some (.slice (some ⟨eb, eo, none⟩) N cP)) := Lib.hid ((World.cell?_of_block (by rw [hch.block og (by simp; have := HOGL.out; omega) (by omega)])).trans HQ.out)
      clear ho9 hg9 hw9 hch
      go_roundw
      case rel => exact ⟨k + 1, _, rfl, rfl, by omega, HO9.out, HB9.out, HQ9.out⟩
      case measure => simp [intOf]; omega
    · obtain rfl : k = N := by omega
      have d2 : decide ((k : Int) < (k : Int)) = false := decide_eq_false (by omega)
      have d2' : decide (k < k) = false := decide_eq_false (by omega)
      rw [List.take_of_length_le (by rw [HN.out]; exact Nat.le_refl _)] at ho
      rw [List.take_of_length_le (by rw [HN.out]; exact Nat.le_refl _)]
      have HO := Lib.hid ho
      clear ho hb hlen
      go_wp2
      go_ret
      exact ⟨HB.out, Av, cv, rfl, HO.out.base_ (by have := HOG.out; omega)⟩
set_option maxRecDepth 100000 in
set_option maxHeartbeats 8000000 in
theorem rlinksTree_any (d : ByteArray) (t : ByteArray) (A : Option Addr) (N c : Nat) (L : List Ent) (vP : Value) (a cm o nm : ByteArray) (ty : Int) (g m : ByteArray) (w : World) (hE : EntsAt w A L) (hN : L.length = N) (hNb : N ≤ 1099511627776) :
    Calls Tryz.prog 24 #[.agg #[.int .i64 2, .string d, .slice A N c, .string t, vP, .string a, .string cm, .string o, .string nm, .int .i64 ty, .string g, .string m]] w (RLinks (treeK L) w) := by
  obtain ⟨i0, hi, hz0, hz1, hz2⟩ := info_parts info_lk
  have HN := Lib.hid hN
  have HEW := Lib.hid hE
  have hl0 : Below w.heap.size w (w.alloc (.cells #[.int .i64 2, .string d, .slice A N c, .string t, vP, .string a, .string cm, .string o, .string nm, .int .i64 ty, .string g, .string m] 50)) := (Below.refl _ _).alloc (Nat.le_refl _) _
  have ho0 := O8At.new w 2 d (.slice A N c) t vP a cm o nm ty g m
  have HL0 := Lib.hid hl0
  clear hE hN
  go_enter Tryz.func24, Tryz.ntmps24
  go_upto_region 1 with (fail)
  generalize w.alloc (.cells #[.int .i64 2, .string d, .slice A N c, .string t, vP, .string a, .string cm, .string o, .string nm, .int .i64 ty, .string g, .string m] 50) = w0 at *
  generalize hog : w.heap.size = og at ho0 ⊢
  have HOG := Lib.hid hog
  have k0 := ho0.c0
  have HO8 := Lib.hid ho0
  clear hog ho0 hl0
  go_wp2
  go_loopw [5, 3] (fun vi vo wr => ∃ (k : Nat) (v : Value), vi = .int .i64 k ∧ v = vo ∧ k ≤ N ∧ OwnS wr (og + 1) 55 2 v (treeK (L.take k)).length (lkVs (treeK (L.take k))) ∧ Below w.heap.size w wr ∧ wr.cell? ⟨og, 2, none⟩ = some (.slice A N c)) (fun vi _ _ => N - (intOf vi).toNat)
  case atStart => exact ⟨0, _, rfl, rfl, Nat.zero_le _, by simpa [treeK, lkVs] using OwnS.nil _ _ _ _, HL0.out, HO8.out.c2⟩
  case round =>
    clear HL0 HO8
    obtain ⟨k, v, rfl, rfl, hk, ho, hb, hq2⟩ := hrel
    obtain ⟨Av, cv, rfl⟩ := ho.shape
    have HB := Lib.hid hb
    by_cases hlt : k < N
    · obtain ⟨x, hx⟩ : ∃ x, L[k]? = some x := ⟨_, List.getElem?_eq_getElem (by rw [HN.out]; exact hlt)⟩
      obtain ⟨eb, eo, rfl, heb, hcell⟩ := (HEW.out.below hb) (by rw [HN.out]; omega)
      obtain ⟨r0, r1, r2⟩ := hcell k x hx
      have d2 : decide ((k : Int) < (N : Int)) = true := decide_eq_true (by omega)
      have d2' : decide (k < N) = true := decide_eq_true hlt
      have HKS := Lib.hid (treeK_succ hx)
      have hkl0 : (treeK (L.take k)).length ≤ k := Nat.le_trans (treeK_len _) (by rw [List.length_take]; omega)
      have HO := Lib.hid ho
      have hl2 := fun z : Int => (Below.refl wr.heap.size wr).alloc (Nat.le_refl _) (.cells #[.string x.i, .int .i64 z] 55)
      have HO2 := Lib.hid (fun z : Int => ho.alloc (.cells #[.string x.i, .int .i64 z] 55))
      have HB2 := Lib.hid (fun z : Int => hb.trans ((hl2 z).mono hb.size))
      have HSRC := Lib.hid (fun z : Int => Src.lk (P := Tryz.prog) wr ⟨x.i, z⟩ 55)
      have hogl : og < wr.heap.size := World.block_lt_of_cell? wr _ hq2
      have HBS : Hid (∀ z : Int, og + 1 ≤ (wr.alloc (.cells #[.string x.i, .int .i64 z] 55)).heap.size) := Lib.hid (fun z => by simp; omega)
      have HQ : Hid (∀ z : Int, (wr.alloc (.cells #[.string x.i, .int .i64 z] 55)).cell? ⟨og, 2, none⟩ = some (.slice (some ⟨eb, eo, none⟩) N c)) := Lib.hid (fun z => ((hl2 z).cell (p := ⟨og, 2, none⟩) hogl).trans hq2)
      have hml : x.m.toList = x.m.data.toList := Lib.toList_data _
      generalize hkl : (treeK (L.take k)).length = kl at *
      have hbyte : (kl + 1) * 24 ≤ 140737488355328 := by omega
      have hmax : kl + 1 ≤ maxLen := by unfold maxLen; omega
      have HKL := Lib.hid hkl
      have HOGL := Lib.hid hogl
      clear hcell hx hb hl2 heb hkl hogl ho
      by_cases h2 : x.m.data.toList = [49, 54, 48, 48, 48, 48]
      · have h1 : ¬ x.m.data.toList = [52, 48, 48, 48, 48] := by rw [h2]; decide
        have HEK : Hid (entK x = []) := Lib.hid (by unfold entK; rw [if_neg h1, if_pos h2])
        have e2 : (x.m.toList == [49, 54, 48, 48, 48, 48]) = true := by rw [hml, h2]; rfl
        have HO9 : Hid (OwnS wr (og + 1) 55 2 (.slice Av kl cv) (treeK (L.take (k + 1))).length (lkVs (treeK (L.take (k + 1))))) := Lib.hid (by
          rw [HKS.out, HEK.out, List.append_nil, HKL.out]
          exact HO.out)
        have HQ0 := Lib.hid hq2
        clear h1 h2 hml HO2 HB2 HSRC HBS HQ
        go_wp2
        go_roundw
        case rel => exact ⟨k + 1, _, rfl, rfl, by omega, HO9.out, HB.out, HQ0.out⟩
        case measure => simp [intOf]; omega
      · have e2 : (x.m.toList == [49, 54, 48, 48, 48, 48]) = false := by rw [hml, beq_eq_false_iff_ne]; exact h2
        by_cases h1 : x.m.data.toList = [52, 48, 48, 48, 48]
        · have HEK : Hid (entK x = [⟨x.i, 2⟩]) := Lib.hid (by unfold entK; rw [if_pos h1])
          have e1 : (x.m.toList == [52, 48, 48, 48, 48]) = true := by rw [hml, h1]; rfl
          clear h1 h2 hml
          go_wp2_with (at_builtin; go_loud (refine wpList_append_S rfl (.tmp 61) (.tmp 69) 38 38 rfl i0 (.agg #[.string ⟨#[]⟩, .int .i64 0]) 24 (.slice 55) Tryz.underlying38 Tryz.underlying38 (fun _ h => by cases h) hi hz0 hz1 hz2 rfl rfl rfl (HO2.out 2) (HSRC.out 2) hmax hbyte (HBS.out 2) ?_; intro A9 c9 w9 ho9 hg9 hw9))
          have HO9 : Hid (OwnS w9 (og + 1) 55 2 (.slice A9 (kl + 1) c9) (treeK (L.take (k + 1))).length (lkVs (treeK (L.take (k + 1))))) := Lib.hid (by
            rw [HKS.out, HEK.out, List.length_append, lkVs_snoc, HKL.out]
            exact ho9)
          have hch : Chg (fun j => og + 1 ≤ j) (wr.alloc (.cells #[.string x.i, .int .i64 2] 55)) w9 := Chg.of_grown hg9 (fun j hj => ((HO2.out 2).lt j hj).1)
          have HB9 : Hid (Below w.heap.size w w9) := Lib.hid ((HB2.out 2).trans (hch.below (HB2.out 2).size (fun i hi e => by have := HOG.out; omega)))
          have HQ9 : Hid (w9.cell? ⟨og, 2, none⟩ = some (.slice (some ⟨eb, eo, none⟩) N c)) := Lib.hid ((World.cell?_of_block (by rw [hch.block og (by simp; have := HOGL.out; omega) (by omega)])).trans (HQ.out 2))
          clear ho9 hg9 hw9 hch
          go_roundw
          case rel => exact ⟨k + 1, _, rfl, rfl, by omega, HO9.out, HB9.out, HQ9.out⟩
          case measure => simp [intOf]; omega
        · have HEK : Hid (entK x = [⟨x.i, 3⟩]) := Lib.hid (by unfold entK; rw [if_neg h1, if_neg h2])
          have e1 : (x.m.toList == [52, 48, 48, 48, 48]) = false := by rw [hml, beq_eq_false_iff_ne]; exact h1
          clear h1 h2 hml
          go_wp2_with (at_builtin; go_loud (refine wpList_append_S rfl (.tmp 47) (.tmp 55) 38 38 rfl i0 (.agg #[.string ⟨#[]⟩, .int .i64 0]) 24 (.slice 55) Tryz.underlying38 Tryz.underlying38 (fun _ h => by cases h) hi hz0 hz1 hz2 rfl rfl rfl (HO2.out 3) (HSRC.out 3) hmax hbyte (HBS.out 3) ?_; intro A9 c9 w9 ho9 hg9 hw9))
          have HO9 : Hid (OwnS w9 (og + 1) 55 2 (.slice A9 (kl + 1) c9) (treeK (L.take (k + 1))).length (lkVs (treeK (L.take (k + 1))))) := Lib.hid (by
            rw [HKS.out, HEK.out, List.length_append, lkVs_snoc, HKL.out]
            exact ho9)
          have hch : Chg (fun j => og + 1 ≤ j) (wr.alloc (.cells #[.string x.i, .int .i64 3] 55)) w9 := Chg.of_grown hg9 (fun j hj => ((HO2.out 3).lt j hj).1)
          have HB9 : Hid (Below w.heap.size w w9) := Lib.hid ((HB2.out 3).trans (hch.below (HB2.out 3).size (fun i hi e => by have := HOG.out; omega)))
          have HQ9 : Hid (w9.cell? ⟨og, 2, none⟩ = some (.slice (some ⟨eb, eo, none⟩) N c)) := Lib.hid ((World.cell?_of_block (by rw [hch.block og (by simp; have := HOGL.out; omega) (by omega)])).trans (HQ.out 3))
          clear ho9 hg9 hw9 hch
          go_roundw
          case rel => exact ⟨k + 1, _, rfl, rfl, by omega, HO9.out, HB9.out, HQ9.out⟩
          case measure => simp [intOf]; omega
    · obtain rfl : k = N := by omega
      have d2 : decide ((k : Int) < (k : Int)) = false := decide_eq_false (by omega)
      have d2' : decide (k < k) = false := decide_eq_false (by omega)
      rw [List.take_of_length_le (by rw [HN.out]; exact Nat.le_refl _)] at ho
      rw [List.take_of_length_le (by rw [HN.out]; exact Nat.le_refl _)]
      have HO := Lib.hid ho
      clear ho hb
      go_wp2
      go_ret
      exact ⟨HB.out, Av, cv, rfl, HO.out.base_ (by have := HOG.out; omega)⟩
/-- A row of links read. -/
def LksAt (w : World) (A : Option Addr) (K : List Lk) : Prop := 0 < K.length → ∃ b o, A = some ⟨b, o, none⟩ ∧ b < w.heap.size ∧ ∀ (i : Nat) (x : Lk), K[i]? = some x → w.cell? ⟨b, o + i * 2, none⟩ = some (.string x.id) ∧ w.cell? ⟨b, o + i * 2 + 1, none⟩ = some (.int .i64 x.k)
theorem LksAt.below {w w' : World} {A : Option Addr} {K : List Lk} (h : LksAt w A K) (hb : Below w.heap.size w w') : LksAt w' A K := fun hl => by
  obtain ⟨b, o, h1, h2, h3⟩ := h hl
  exact ⟨b, o, h1, Nat.lt_of_lt_of_le h2 hb.size, fun i x hx => ⟨(hb.cell (p := ⟨b, o + i * 2, none⟩) h2).trans (h3 i x hx).1, (hb.cell (p := ⟨b, o + i * 2 + 1, none⟩) h2).trans (h3 i x hx).2⟩⟩
theorem OwnS.lksAt {w : World} {B n c : Nat} {A : Option Addr} {K : List Lk} (h : OwnS w B 55 2 (.slice A n c) n (lkVs K)) : LksAt w A K := fun hl => by
  obtain ⟨g, off, c', hv, hb, hg, hc⟩ := h.cells (by rw [lkVs_len]; omega)
  injection hv with hA _ _
  refine ⟨g, off, hA, hg, fun i x hx => ?_⟩
  have hi := (List.getElem?_eq_some_iff.1 hx).1
  have hat := lkVs_at K i x hx
  have e := lkVs_len K
  refine ⟨?_, ?_⟩
  · rw [hc (i * 2) (by omega)]; exact hat.1
  · rw [Nat.add_assoc, hc (i * 2 + 1) (by omega)]; exact hat.2
theorem eq_lk (a : ByteArray) (k : Int) (w : World) : (Op.equalIn 10000 55 (.agg #[.string a, .int .i64 k]) (.agg #[.string a, .int .i64 k])).run Tryz.prog w = .ok true w := by
  have u1 := Tryz.underlying9
  have a1 := Tryz.isAgg9
  have z1 := Tryz.sizeOf9
  have u2 := Tryz.underlying3
  have a2 := Tryz.isAgg3
  have z2 := Tryz.sizeOf3
  have hS : Tryz.prog.underlying 55 = some (.struct (Tryz.prog.fieldsOf 55)) := by kernel_rfl
  have hp : Tryz.prog.stoodInHeld 55 = false := by kernel_rfl
  rw [show (10000 : Nat) = 9999 + 1 from rfl, run_equalIn_agg w 9999 55 _ _ hS hp]
  simp only [Program.fieldsOf, Tryz.underlying55]
  go_simp
theorem eq_en (a b c : ByteArray) (w : World) : (Op.equalIn 10000 28 (.agg #[.string a, .string b, .string c]) (.agg #[.string a, .string b, .string c])).run Tryz.prog w = .ok true w := by
  have u1 := Tryz.underlying9
  have a1 := Tryz.isAgg9
  have z1 := Tryz.sizeOf9
  have hS : Tryz.prog.underlying 28 = some (.struct (Tryz.prog.fieldsOf 28)) := by kernel_rfl
  have hp : Tryz.prog.stoodInHeld 28 = false := by kernel_rfl
  rw [show (10000 : Nat) = 9999 + 1 from rfl, run_equalIn_agg w 9999 28 _ _ hS hp]
  simp only [Program.fieldsOf, Tryz.underlying28]
  go_simp
set_option maxRecDepth 100000 in
set_option maxHeartbeats 2000000 in
/-- Two rows of links that are the same. -/
theorem sameLinks_any (A B : Option Addr) (n c d : Nat) (K : List Lk) (w : World) (hA : LksAt w A K) (hB : LksAt w B K) (hn : K.length = n) (hs : n ≤ 1099511627777) :
    Calls Tryz.prog 23 #[.slice A n c, .slice B n d] w fun e w' => e = .returned (.bool true) ∧ Below w.heap.size w w' := by
  have HA := Lib.hid hA
  have HB := Lib.hid hB
  have HN := Lib.hid hn
  clear hA hB hn
  have hnn : (n == n) = true := by rw [beq_iff_eq]
  have hp : Tryz.prog.eqGuardType Tryz.prog.depth 55 = false := by kernel_rfl
  go_enter Tryz.func23, Tryz.ntmps23
  go_wp2
  go_loopw [5] (fun vi wr => ∃ k : Nat, vi = .int .i64 k ∧ k ≤ n ∧ Below w.heap.size w wr) (fun vi _ => n - (intOf vi).toNat)
  case atStart => exact ⟨0, rfl, Nat.zero_le _, Below.refl _ _⟩
  case round =>
    obtain ⟨k, rfl, hk, hb⟩ := hrel
    by_cases hlt : k < n
    · obtain ⟨x, hx⟩ : ∃ x, K[k]? = some x := ⟨_, List.getElem?_eq_getElem (by rw [HN.out]; exact hlt)⟩
      obtain ⟨ga, oa, rfl, hga, ca⟩ := (HA.out.below hb) (by rw [HN.out]; omega)
      obtain ⟨gb, ob, rfl, hgb, cb⟩ := (HB.out.below hb) (by rw [HN.out]; omega)
      obtain ⟨r0, r1⟩ := ca k x hx
      obtain ⟨r2, r3⟩ := cb k x hx
      have d2 : decide ((k : Int) < (n : Int)) = true := decide_eq_true (by omega)
      have d2' : decide (k < n) = true := decide_eq_true hlt
      have HBB := Lib.hid hb
      have heq := fun w => eq_lk x.id x.k w
      clear ca cb hga hgb hb hx
      go_upto_region 6 with (fail)
      refine wp_region_still_lit (by kernel_rfl) (by kernel_rfl) ?_
      repeat still_step
      refine wpStill_nil ?_
      have HBD := Lib.hid (HBB.out.drew)
      go_wp2
      go_roundw
      case rel => exact ⟨k + 1, rfl, by omega, HBD.out⟩
      case measure => simp [intOf]; omega
    · obtain rfl : n = k := by omega
      have d2 : decide ((n : Int) < (n : Int)) = false := decide_eq_false (by omega)
      have d2' : decide (n < n) = false := decide_eq_false (by omega)
      go_wp2
      go_ret
      exact ⟨rfl, hb⟩
set_option maxRecDepth 100000 in
set_option maxHeartbeats 2000000 in
/-- Two rows of entries that are the same. -/
theorem entries_any (A B : Option Addr) (n c d : Nat) (L : List Ent) (w : World) (hA : EntsAt w A L) (hB : EntsAt w B L) (hn : L.length = n) (hs : n ≤ 1099511627777) :
    Calls Tryz.prog 46 #[.slice A n c, .slice B n d] w fun e w' => e = .returned (.bool true) ∧ Below w.heap.size w w' := by
  have HA := Lib.hid hA
  have HB := Lib.hid hB
  have HN := Lib.hid hn
  clear hA hB hn
  have hnn : (n == n) = true := by rw [beq_iff_eq]
  have hp : Tryz.prog.eqGuardType Tryz.prog.depth 28 = false := by kernel_rfl
  go_enter Tryz.func46, Tryz.ntmps46
  go_wp2
  go_loopw [5] (fun vi wr => ∃ k : Nat, vi = .int .i64 k ∧ k ≤ n ∧ Below w.heap.size w wr) (fun vi _ => n - (intOf vi).toNat)
  case atStart => exact ⟨0, rfl, Nat.zero_le _, Below.refl _ _⟩
  case round =>
    obtain ⟨k, rfl, hk, hb⟩ := hrel
    by_cases hlt : k < n
    · obtain ⟨x, hx⟩ : ∃ x, L[k]? = some x := ⟨_, List.getElem?_eq_getElem (by rw [HN.out]; exact hlt)⟩
      obtain ⟨ga, oa, rfl, hga, ca⟩ := (HA.out.below hb) (by rw [HN.out]; omega)
      obtain ⟨gb, ob, rfl, hgb, cb⟩ := (HB.out.below hb) (by rw [HN.out]; omega)
      obtain ⟨r0, r1, r2⟩ := ca k x hx
      obtain ⟨r3, r4, r5⟩ := cb k x hx
      have d2 : decide ((k : Int) < (n : Int)) = true := decide_eq_true (by omega)
      have d2' : decide (k < n) = true := decide_eq_true hlt
      have HBB := Lib.hid hb
      have heq := fun w => eq_en x.m x.n x.i w
      clear ca cb hga hgb hb hx
      go_upto_region 6 with (fail)
      refine wp_region_still_lit (by kernel_rfl) (by kernel_rfl) ?_
      repeat still_step
      refine wpStill_nil ?_
      have HBD := Lib.hid (HBB.out.drew)
      go_wp2
      go_roundw
      case rel => exact ⟨k + 1, rfl, by omega, HBD.out⟩
      case measure => simp [intOf]; omega
    · obtain rfl : n = k := by omega
      have d2 : decide ((n : Int) < (n : Int)) = false := decide_eq_false (by omega)
      have d2' : decide (n < n) = false := decide_eq_false (by omega)
      go_wp2
      go_ret
      exact ⟨rfl, hb⟩
end Go.Proofs.YtdlabapfcghfmaaGreatDoor
namespace Go.Proofs.YtdlabapfcghfmaaGreatDoor
open Go.RowKit
set_option linter.unusedVariables false
set_option linter.unusedSimpArgs false

theorem ta_tb (W : World) (x : Value) : (Instr.typeAssert (.iface 36 x) 31 71 true).run Tryz.prog W = .ok (.tuple #[.agg #[.slice none 0 0], .bool false]) W := by kernel_rfl
theorem ta_tt (W : World) (x : Value) : (Instr.typeAssert (.iface 36 x) 31 36 true).run Tryz.prog W = .ok (.tuple #[x, .bool true]) W := by kernel_rfl
set_option maxRecDepth 100000 in
set_option maxHeartbeats 4000000 in
theorem sameTree_any (B A : Option Addr) (n c e : Nat) (L : List Ent) (d : ByteArray) (t : ByteArray) (vP : Value) (a : ByteArray) (cm : ByteArray) (o : ByteArray) (nm : ByteArray) (ty : Int) (g : ByteArray) (m : ByteArray) (w : World) (hB : EntsAt w B L) (hA : EntsAt w A L) (hn : L.length = n) (hs : n ≤ 1099511627777) :
    Calls Tryz.prog 21 #[.iface 36 (.agg #[.slice B n e]), .agg #[.int .i64 2, .string d, .slice A n c, .string t, vP, .string a, .string cm, .string o, .string nm, .int .i64 ty, .string g, .string m]] w fun e w' => e = .returned (.bool true) ∧ Below w.heap.size w w' := by
  have hl0 : Below w.heap.size w (w.alloc (.cells #[.int .i64 2, .string d, .slice A n c, .string t, vP, .string a, .string cm, .string o, .string nm, .int .i64 ty, .string g, .string m] 50)) := (Below.refl _ _).alloc (Nat.le_refl _) _
  have ho0 := O8At.new w 2 d (.slice A n c) t vP a cm o nm ty g m
  have HB := Lib.hid (hB.below hl0)
  have HA := Lib.hid (hA.below hl0)
  have HN := Lib.hid hn
  clear hB hA hn
  have HL0 := Lib.hid hl0
  have hta1 := fun W x => ta_tb W x
  have hta2 := fun W x => ta_tt W x
  go_enter Tryz.func21, Tryz.ntmps21
  go_upto_region 2 with (fail)
  generalize w.alloc (.cells #[.int .i64 2, .string d, .slice A n c, .string t, vP, .string a, .string cm, .string o, .string nm, .int .i64 ty, .string g, .string m] 50) = w0 at *
  generalize hog : w.heap.size = og at *
  have HOG := Lib.hid hog
  clear hog hl0
  have HO := Lib.hid ho0
  clear ho0
  go_upto_region 7 with (fail)
  have hl1 : Below w0.heap.size w0 (w0.alloc (.cells #[.slice B n e] 36)) := (Below.refl _ _).alloc (Nat.le_refl _) _
  have x0 : (w0.alloc (.cells #[.slice B n e] 36)).cell? ⟨w0.heap.size, 0, none⟩ = some (.slice B n e) := by rw [World.cell?_alloc_at _ _ _ _ (by simp)]; rfl
  have HLL := Lib.hid (HL0.out.trans (hl1.mono (by rw [← HOG.out]; exact HL0.out.size)))
  have ho1 := HO.out.below hl1
  have HB1 := Lib.hid (HB.out.below hl1)
  have HA1 := Lib.hid (HA.out.below hl1)
  generalize w0.alloc (.cells #[.slice B n e] 36) = w1 at *
  generalize w0.heap.size = xg at *
  have k0 := ho1.c0
  have k2 := ho1.c2
  clear hl1 ho1
  have HT := Lib.hid (entries_any B A n e c L w1 HB1.out HA1.out HN.out hs)
  go_wp2_with (go_at_call 46; go_loud (refine HT.out.mono ?_; rintro e w5 ⟨rfl, hb5⟩; have HB5 := Lib.hid hb5; clear hb5))
  go_ret
  exact ⟨rfl, by rw [HOG.out]; exact HLL.out.trans (HB5.out.mono (by rw [← HOG.out]; exact HLL.out.size))⟩
set_option maxRecDepth 100000 in
theorem kindBlob_any (v0 : Value) (w : World) : Calls Tryz.prog 167 #[.agg #[v0]] w fun e w' => e = .returned (.int .i64 3) ∧ Below w.heap.size w w' := by
  go_enter Tryz.func167, Tryz.ntmps167
  go_wp2
  go_ret
  exact ⟨rfl, (Below.refl _ _).alloc (Nat.le_refl _) _⟩
set_option maxRecDepth 100000 in
theorem kindTree_any (v0 : Value) (w : World) : Calls Tryz.prog 161 #[.agg #[v0]] w fun e w' => e = .returned (.int .i64 2) ∧ Below w.heap.size w w' := by
  go_enter Tryz.func161, Tryz.ntmps161
  go_wp2
  go_ret
  exact ⟨rfl, (Below.refl _ _).alloc (Nat.le_refl _) _⟩
set_option maxRecDepth 100000 in
theorem kindCommit_any (v0 v1 v2 v3 v4 : Value) (w : World) : Calls Tryz.prog 164 #[.agg #[v0, v1, v2, v3, v4]] w fun e w' => e = .returned (.int .i64 1) ∧ Below w.heap.size w w' := by
  go_enter Tryz.func164, Tryz.ntmps164
  go_wp2
  go_ret
  exact ⟨rfl, (Below.refl _ _).alloc (Nat.le_refl _) _⟩
set_option maxRecDepth 100000 in
theorem kindTag_any (v0 v1 v2 v3 v4 : Value) (w : World) : Calls Tryz.prog 171 #[.agg #[v0, v1, v2, v3, v4]] w fun e w' => e = .returned (.int .i64 4) ∧ Below w.heap.size w w' := by
  go_enter Tryz.func171, Tryz.ntmps171
  go_wp2
  go_ret
  exact ⟨rfl, (Below.refl _ _).alloc (Nat.le_refl _) _⟩
set_option maxRecDepth 100000 in
theorem linksNil_any (w : World) : Calls Tryz.prog 12 #[.nilIface] w fun e w' => e = .returned (.slice none 0 0) ∧ w = w' := by
  go_enter Tryz.func12, Tryz.ntmps12
  go_wp2
  go_ret
  exact ⟨rfl, rfl⟩
/-- What is known of an object that both sides have read. -/
structure AccP (kd : Int) (l : List UInt8) (t : TypeId) (v : Value) (V : Array Value) (w3 : World) : Prop where
  size : V.size = 12
  one : ∀ x ∈ V.toList, x.oneCell' = true
  kind : ∃ f r, MethW "Kind" t v f r ∧ ∀ w4, Calls Tryz.prog f #[r] w4 fun e w' => e = .returned (.int .i64 kd) ∧ Below w4.heap.size w4 w'
  bytes : ∃ f r, MethW "Bytes" t v f r ∧ ∀ w4, Below w3.heap.size w3 w4 → Calls Tryz.prog f #[r] w4 (BytesPost w4 (bytesOf (bk l)))
  same : ∀ w4, Below w3.heap.size w3 w4 → Calls Tryz.prog 21 #[.iface t v, .agg V] w4 fun e w' => e = .returned (.bool true) ∧ Below w4.heap.size w4 w'
  links : ∃ K : List Lk, K.length ≤ 1099511627777 ∧ (∀ w4, Below w3.heap.size w3 w4 → Calls Tryz.prog 12 #[.iface t v] w4 (LinksPost K w4)) ∧ ∀ w4, Below w3.heap.size w3 w4 → Calls Tryz.prog 24 #[.agg V] w4 (RLinks K w4)
/-- Both Parse, one behind the other. -/
def BothP (kd : Int) (l : List UInt8) (w : World) (e : Ending) (w1 : World) : Prop :=
  Below w.heap.size w w1 ∧ ((∃ k : Int, (k == 0) = false ∧ e = .returned (.tuple #[.nilIface, .int .i64 k]) ∧ Calls Tryz.prog 22 #[.int .i64 kd, .string (bk l)] w1 fun e' w3 => e' = .returned (.tuple #[.agg zeroV, .int .i64 k]) ∧ Below w1.heap.size w1 w3) ∨
    (∃ t v, e = .returned (.tuple #[.iface t v, .int .i64 0]) ∧ Calls Tryz.prog 22 #[.int .i64 kd, .string (bk l)] w1 fun e' w3 => ∃ V, e' = .returned (.tuple #[.agg V, .int .i64 0]) ∧ Below w1.heap.size w1 w3 ∧ AccP kd l t v V w3))
set_option maxRecDepth 100000 in
set_option maxHeartbeats 8000000 in
theorem parses_walk (kd : Int) (A : Option Addr) (n c : Nat) (l : List UInt8) (w : World) (hE : EnvO w) (hI : Ints .u8 w A (bytesOf (bk l))) (hn : l.length = n)
    (hP : Calls Tryz.prog 10 #[.int .i64 kd, .slice A n c] w (BothP kd l w)) :
    Calls Tryz.prog 7 #[.int .i64 kd, .slice A n c] w fun e w' => e = .returned (.bool true) ∧ Below w.heap.size w w' := by
  have HE := Lib.hid hE
  have HI := Lib.hid hI
  have HNL : Hid ((bytesOf (bk l)).length = n) := Lib.hid (by rw [bytesOf_len, bk_size]; exact hn)
  have HP := Lib.hid hP
  have HCV : Hid (∀ (W : World) (A : Option Addr) (c : Nat), Ints .u8 W A (bytesOf (bk l)) → (convert 24 9 (.slice A n c)).run Tryz.prog W = .ok (.string (bk l)) W) := Lib.hid (fun W A c h => run_strU A n c l W h hn)
  clear hE hI hn hP
  unfold BothP at HP
  go_enter Tryz.func7, Tryz.ntmps7
  go_wp2_with fail
  refine HP.out.mono ?_
  rintro e w1 ⟨hb1, ⟨k, hk, rfl, hd⟩ | ⟨t, v, rfl, hd⟩⟩
  · have HB1 := Lib.hid hb1
    have HD := Lib.hid hd
    have cv := HCV.out w1 A c (HI.out.below hb1)
    have hkk : (k == k) = true := by rw [beq_iff_eq]
    have hk2 : (k != 0) = true := by unfold bne; rw [hk]; rfl
    clear hb1 hd
    go_wp2_with fail
    refine HD.out.mono ?_
    rintro e w3 ⟨rfl, hb3⟩
    have HB3 := Lib.hid (HB1.out.trans (hb3.mono HB1.out.size))
    have hl : Below w3.heap.size w3 (w3.alloc (.cells zeroV 50)) := (Below.refl _ _).alloc (Nat.le_refl _) _
    have HL4 := Lib.hid (HB3.out.trans (hl.mono HB3.out.size))
    clear hb3 cv hl
    go_upto_region 3 with (refine wpList_store_part (vs := zeroV) (off := 0) rfl (.tmp 7) (.tmp 20) rfl rfl rfl (CelV.new w3 zeroV rfl) info_o8 (Nat.le_refl 12) zeroV_one ?_; intro w4 hC4 hg4 hs4)
    have HB4 := Lib.hid (HL4.out.grown hg4 HL4.out.size (fun j hj => by injection hj with hj; rw [← hj]; exact HB3.out.size))
    clear hC4 hg4 hs4
    have HAW := Lib.hid (awake8_any w4 (HE.out.below HB4.out))
    go_wp2_with fail
    refine (linksNil_any w4).mono ?_
    rintro e w5 ⟨rfl, rfl⟩
    go_wp2_with fail
    refine HAW.out.mono ?_
    rintro e w9 ⟨rfl, hb9⟩
    have HB9 := Lib.hid hb9
    clear hb9
    go_wp2
    go_ret
    exact ⟨rfl, HB4.out.trans (HB9.out.mono HB4.out.size)⟩
  · have HB1 := Lib.hid hb1
    have HD := Lib.hid hd
    have cv := HCV.out w1 A c (HI.out.below hb1)
    clear hb1 hd
    go_wp2_with fail
    refine HD.out.mono ?_
    rintro e w3 ⟨V, rfl, hb3, hacc⟩
    have HB3 := Lib.hid (HB1.out.trans (hb3.mono HB1.out.size))
    have hl : Below w3.heap.size w3 (w3.alloc (.cells zeroV 50)) := (Below.refl _ _).alloc (Nat.le_refl _) _
    have HL4 := Lib.hid (HB3.out.trans (hl.mono HB3.out.size))
    have HL3 := Lib.hid hl
    have HV12 := Lib.hid hacc.size
    have HV1 := Lib.hid hacc.one
    have hinf : (Tryz.prog.info? 50).map (·.size) = some V.size := by rw [hacc.size]; exact info_o8
    have HINF := Lib.hid hinf
    obtain ⟨fK, rK, hmk, hck⟩ := hacc.kind
    obtain ⟨fB, rB, hmb, hcb⟩ := hacc.bytes
    obtain ⟨K, hkl, hlp, hld⟩ := hacc.links
    have HMK := Lib.hid hmk
    have HCK := Lib.hid hck
    have HMB := Lib.hid hmb
    have HCB := Lib.hid hcb
    have HKL := Lib.hid hkl
    have HLP := Lib.hid hlp
    have HLD := Lib.hid hld
    have HSM := Lib.hid hacc.same
    clear hb3 cv hl hacc hmk hck hmb hcb hkl hlp hld hinf
    go_upto_region 3 with (refine wpList_store_part (vs := V) (off := 0) rfl (.tmp 7) (.tmp 20) rfl rfl rfl (CelV.new w3 zeroV rfl) HINF.out (by rw [HV12.out]; exact Nat.le_refl 12) HV1.out ?_; intro w4 hC4 hg4 hs4)
    have HC5 := Lib.hid (CelV.stored HV12.out hC4)
    have HB4 := Lib.hid (HL4.out.grown hg4 HL4.out.size (fun j hj => by injection hj with hj; rw [← hj]; exact HB3.out.size))
    have HB34 := Lib.hid (HL3.out.grown hg4 HL3.out.size (fun j hj => by injection hj with hj; rw [← hj]; exact Nat.le_refl _))
    have HI4 := Lib.hid (HI.out.below HB4.out)
    generalize w3.heap.size = g at HC5 ⊢
    clear hC4 hg4 hs4
    go_upto_region 7 with (fail)
    generalize hRS : bk l = RS at *
    generalize hXS : bytesOf RS = XS at *
    clear hRS hXS
    refine wp_region_relT (by kernel_rfl) [fun v9 _ => v9 = .iface t v, fun v9 _ => v9 = .agg V, fun v9 _ => v9 = .bool true, fun v9 _ => v9 = .bool true, fun v9 _ => v9 = .iface t v, fun v9 _ => v9 = .int .i64 kd, fun v9 _ => v9 = .int .i64 kd, fun v9 _ => v9 = .bool true, fun v9 _ => v9 = .bool true, fun v9 _ => v9 = .bool true, fun v9 _ => v9 = .iface t v, fun v9 w => ∃ A, v9 = .slice A n n ∧ Ints .u8 w A XS, fun v9 _ => v9 = .string RS, fun v9 _ => v9 = .slice A n c, fun v9 _ => v9 = .string RS, fun v9 _ => v9 = .bool true, fun v9 _ => v9 = .bool true, fun v9 _ => v9 = .bool true, fun v9 _ => v9 = .iface t v, fun v9 w => ∃ A c, v9 = .slice A K.length c ∧ LksAt w A K, fun v9 _ => v9 = .agg V, fun v9 w => ∃ A c, v9 = .slice A K.length c ∧ LksAt w A K, fun v9 _ => v9 = .bool true, fun v9 _ => v9 = .bool true, fun v9 _ => v9 = .bool true, fun v9 _ => v9 = .bool true, fun v9 _ => v9 = .bool true] (allM ⟨MonoB.eq _, MonoB.eq _, MonoB.eq _, MonoB.eq _, MonoB.eq _, MonoB.eq _, MonoB.eq _, MonoB.eq _, MonoB.eq _, MonoB.eq _, MonoB.eq _, (fun _ _ _ ⟨A, h1, h2⟩ hR => ⟨A, h1, h2.below hR⟩), MonoB.eq _, MonoB.eq _, MonoB.eq _, MonoB.eq _, MonoB.eq _, MonoB.eq _, MonoB.eq _, (fun _ _ _ ⟨A, c, h1, h2⟩ hR => ⟨A, c, h1, h2.below hR⟩), MonoB.eq _, (fun _ _ _ ⟨A, c, h1, h2⟩ hR => ⟨A, c, h1, h2.below hR⟩), MonoB.eq _, MonoB.eq _, MonoB.eq _, MonoB.eq _, MonoB.eq _, trivial⟩) (by kernel_rfl) (by kernel_rfl) 27 _ (by kernel_rfl) rfl (by kernel_rfl) (fun _ v9 w => v9 = .bool true ∧ RelB w4.drew w) ?steps ?tail ?done rfl
    case steps =>
      refine ⟨?_, ?_, ?_, ?_, ?_, ?_, ?_, ?_, ?_, ?_, ?_, ?_, ?_, ?_, ?_, ?_, ?_, ?_, ?_, ?_, ?_, ?_, ?_, ?_, ?_, ?_, ?_, trivial⟩
      · intro us au w1 ha hR hd
        have q5 := slot_far (t := 5) (v := .iface t v) ha (by kernel_rfl) (by kernel_rfl)
        have p5 := slot_norm q5
        clear ha hd
        exact StepR.pure (v := .iface t v) rfl rfl (by go_simp) (RelB.refl _) rfl
      · intro us au w1 ha hR hd
        have q7 := slot_far (t := 7) (v := .pointer (some ⟨g, 0, none⟩)) ha (by kernel_rfl) (by kernel_rfl)
        have p7 := slot_norm q7
        clear ha hd
        have hcc := HC5.out.below (RelB.undrew hR) HC5.out.blk
        have hld := run_load_part (P := Tryz.prog) (ty := 50) (vs := V) (off := 0) hcc Tryz.underlying50 rfl (by rw [HV12.out]; exact info_o8) (by rw [HV12.out]; exact Nat.le_refl 12) (fun j hj => by rw [Nat.zero_add]; exact getD_some hj)
        exact StepR.pure (v := .agg V) rfl rfl (by unfold execOp; simp only [q7, Instr.loadAt, Instr.sureAddr, Sem.run_bind, Sem.run_pure, Result.andThen_ok, hld]) (RelB.refl _) rfl
      · intro us au w1 ha hR hd
        have e0 := hd 0 _ (by kernel_rfl) rfl
        have e1 := hd 1 _ (by kernel_rfl) rfl
        have q41 := slot_at (t := 41) 0 ha (by kernel_rfl) (by kernel_rfl) (by kernel_rfl) e0
        have p41 := slot_norm q41
        have q42 := slot_at (t := 42) 1 ha (by kernel_rfl) (by kernel_rfl) (by kernel_rfl) e1
        have p42 := slot_norm q42
        clear ha hd
        refine StepR.call (f := 21) (args := #[.iface t v, .agg V]) rfl rfl (by go_simp) ?_
        refine (HSM.out w1 (HB34.out.trans ((RelB.undrew hR).mono HB34.out.size))).mono ?_
        rintro e w5 ⟨rfl, hb⟩
        exact ⟨_, rfl, hb, rfl⟩
      · intro us au w1 ha hR hd
        have e2 := hd 2 _ (by kernel_rfl) rfl
        have q43 := slot_at (t := 43) 2 ha (by kernel_rfl) (by kernel_rfl) (by kernel_rfl) e2
        have p43 := slot_norm q43
        clear ha hd
        exact StepR.pure (v := .bool true) rfl rfl (by go_simp) (RelB.refl _) rfl
      · intro us au w1 ha hR hd
        have e3 := hd 3 _ (by kernel_rfl) rfl
        have q5 := slot_far (t := 5) (v := .iface t v) ha (by kernel_rfl) (by kernel_rfl)
        have p5 := slot_norm q5
        have hg := slot_at (t := 44) 3 ha (by kernel_rfl) (by kernel_rfl) (by kernel_rfl) e3
        clear ha hd
        exact StepR.pure (v := .iface t v) rfl (wanted_at rfl rfl hg) (by go_simp) (RelB.refl _) rfl
      · intro us au w1 ha hR hd
        have e4 := hd 4 _ (by kernel_rfl) rfl
        have e3 := hd 3 _ (by kernel_rfl) rfl
        have q45 := slot_at (t := 45) 4 ha (by kernel_rfl) (by kernel_rfl) (by kernel_rfl) e4
        have p45 := slot_norm q45
        have hg := slot_at (t := 44) 3 ha (by kernel_rfl) (by kernel_rfl) (by kernel_rfl) e3
        clear ha hd
        refine StepR.call (f := fK) (args := #[rK]) rfl (wanted_at rfl rfl hg) (run_invoke (x := .tmp 45) (name := "Kind") (t := t) (v := v) rfl (by go_simp) (HMK.out.look _) (HMK.out.ent _)) ?_
        refine (HCK.out w1).mono ?_
        rintro e w5 ⟨rfl, hb⟩
        exact ⟨_, rfl, hb, rfl⟩
      · intro us au w1 ha hR hd
        have e3 := hd 3 _ (by kernel_rfl) rfl
        have q0 := slot_far (t := 0) (v := .int .i64 kd) ha (by kernel_rfl) (by kernel_rfl)
        have p0 := slot_norm q0
        have hg := slot_at (t := 44) 3 ha (by kernel_rfl) (by kernel_rfl) (by kernel_rfl) e3
        clear ha hd
        exact StepR.pure (v := .int .i64 kd) rfl (wanted_at rfl rfl hg) (by go_simp) (RelB.refl _) rfl
      · intro us au w1 ha hR hd
        have e5 := hd 5 _ (by kernel_rfl) rfl
        have e6 := hd 6 _ (by kernel_rfl) rfl
        have e3 := hd 3 _ (by kernel_rfl) rfl
        have q46 := slot_at (t := 46) 5 ha (by kernel_rfl) (by kernel_rfl) (by kernel_rfl) e5
        have p46 := slot_norm q46
        have q47 := slot_at (t := 47) 6 ha (by kernel_rfl) (by kernel_rfl) (by kernel_rfl) e6
        have p47 := slot_norm q47
        have hg := slot_at (t := 44) 3 ha (by kernel_rfl) (by kernel_rfl) (by kernel_rfl) e3
        clear ha hd
        exact StepR.pure (v := .bool true) rfl (wanted_at rfl rfl hg) (by go_simp) (RelB.refl _) rfl
      · intro us au w1 ha hR hd
        have e3 := hd 3 _ (by kernel_rfl) rfl
        have e7 := hd 7 _ (by kernel_rfl) rfl
        have q44 := slot_at (t := 44) 3 ha (by kernel_rfl) (by kernel_rfl) (by kernel_rfl) e3
        have p44 := slot_norm q44
        have q48 := slot_at (t := 48) 7 ha (by kernel_rfl) (by kernel_rfl) (by kernel_rfl) e7
        have p48 := slot_norm q48
        clear ha hd
        exact StepR.pure (v := .bool true) rfl rfl (by go_simp) (RelB.refl _) rfl
      · intro us au w1 ha hR hd
        have e8 := hd 8 _ (by kernel_rfl) rfl
        have q49 := slot_at (t := 49) 8 ha (by kernel_rfl) (by kernel_rfl) (by kernel_rfl) e8
        have p49 := slot_norm q49
        clear ha hd
        exact StepR.pure (v := .bool true) rfl rfl (by go_simp) (RelB.refl _) rfl
      · intro us au w1 ha hR hd
        have e9 := hd 9 _ (by kernel_rfl) rfl
        have q5 := slot_far (t := 5) (v := .iface t v) ha (by kernel_rfl) (by kernel_rfl)
        have p5 := slot_norm q5
        have hg := slot_at (t := 50) 9 ha (by kernel_rfl) (by kernel_rfl) (by kernel_rfl) e9
        clear ha hd
        exact StepR.pure (v := .iface t v) rfl (wanted_at rfl rfl hg) (by go_simp) (RelB.refl _) rfl
      · intro us au w1 ha hR hd
        have e10 := hd 10 _ (by kernel_rfl) rfl
        have e9 := hd 9 _ (by kernel_rfl) rfl
        have q51 := slot_at (t := 51) 10 ha (by kernel_rfl) (by kernel_rfl) (by kernel_rfl) e10
        have p51 := slot_norm q51
        have hg := slot_at (t := 50) 9 ha (by kernel_rfl) (by kernel_rfl) (by kernel_rfl) e9
        clear ha hd
        refine StepR.call (f := fB) (args := #[rB]) rfl (wanted_at rfl rfl hg) (run_invoke (x := .tmp 51) (name := "Bytes") (t := t) (v := v) rfl (by go_simp) (HMB.out.look _) (HMB.out.ent _)) ?_
        refine (HCB.out w1 (HB34.out.trans ((RelB.undrew hR).mono HB34.out.size))).mono ?_
        rintro e w5 ⟨A5, rfl, ho5, hb5⟩
        exact ⟨_, rfl, hb5, A5, by rw [HNL.out], ho5.ints⟩
      · intro us au w1 ha hR hd
        obtain ⟨A11, e11, h11⟩ := hd 11 _ (by kernel_rfl) rfl
        have e9 := hd 9 _ (by kernel_rfl) rfl
        have q52 := slot_at (t := 52) 11 ha (by kernel_rfl) (by kernel_rfl) (by kernel_rfl) e11
        have p52 := slot_norm q52
        have hg := slot_at (t := 50) 9 ha (by kernel_rfl) (by kernel_rfl) (by kernel_rfl) e9
        clear ha hd
        have hcv := HCV.out w1 A11 n h11
        exact StepR.pure (v := .string RS) rfl (wanted_at rfl rfl hg) (by go_simp) (RelB.refl _) rfl
      · intro us au w1 ha hR hd
        have e9 := hd 9 _ (by kernel_rfl) rfl
        have q1 := slot_far (t := 1) (v := .slice A n c) ha (by kernel_rfl) (by kernel_rfl)
        have p1 := slot_norm q1
        have hg := slot_at (t := 50) 9 ha (by kernel_rfl) (by kernel_rfl) (by kernel_rfl) e9
        clear ha hd
        exact StepR.pure (v := .slice A n c) rfl (wanted_at rfl rfl hg) (by go_simp) (RelB.refl _) rfl
      · intro us au w1 ha hR hd
        have e13 := hd 13 _ (by kernel_rfl) rfl
        have e9 := hd 9 _ (by kernel_rfl) rfl
        have q54 := slot_at (t := 54) 13 ha (by kernel_rfl) (by kernel_rfl) (by kernel_rfl) e13
        have p54 := slot_norm q54
        have hg := slot_at (t := 50) 9 ha (by kernel_rfl) (by kernel_rfl) (by kernel_rfl) e9
        clear ha hd
        have hcv := HCV.out w1 A c (HI4.out.below (RelB.undrew hR))
        exact StepR.pure (v := .string RS) rfl (wanted_at rfl rfl hg) (by go_simp) (RelB.refl _) rfl
      · intro us au w1 ha hR hd
        have e12 := hd 12 _ (by kernel_rfl) rfl
        have e14 := hd 14 _ (by kernel_rfl) rfl
        have e9 := hd 9 _ (by kernel_rfl) rfl
        have q53 := slot_at (t := 53) 12 ha (by kernel_rfl) (by kernel_rfl) (by kernel_rfl) e12
        have p53 := slot_norm q53
        have q55 := slot_at (t := 55) 14 ha (by kernel_rfl) (by kernel_rfl) (by kernel_rfl) e14
        have p55 := slot_norm q55
        have hg := slot_at (t := 50) 9 ha (by kernel_rfl) (by kernel_rfl) (by kernel_rfl) e9
        clear ha hd
        exact StepR.pure (v := .bool true) rfl (wanted_at rfl rfl hg) (by go_simp) (RelB.refl _) rfl
      · intro us au w1 ha hR hd
        have e9 := hd 9 _ (by kernel_rfl) rfl
        have e15 := hd 15 _ (by kernel_rfl) rfl
        have q50 := slot_at (t := 50) 9 ha (by kernel_rfl) (by kernel_rfl) (by kernel_rfl) e9
        have p50 := slot_norm q50
        have q56 := slot_at (t := 56) 15 ha (by kernel_rfl) (by kernel_rfl) (by kernel_rfl) e15
        have p56 := slot_norm q56
        clear ha hd
        exact StepR.pure (v := .bool true) rfl rfl (by go_simp) (RelB.refl _) rfl
      · intro us au w1 ha hR hd
        have e16 := hd 16 _ (by kernel_rfl) rfl
        have q57 := slot_at (t := 57) 16 ha (by kernel_rfl) (by kernel_rfl) (by kernel_rfl) e16
        have p57 := slot_norm q57
        clear ha hd
        exact StepR.pure (v := .bool true) rfl rfl (by go_simp) (RelB.refl _) rfl
      · intro us au w1 ha hR hd
        have e17 := hd 17 _ (by kernel_rfl) rfl
        have q5 := slot_far (t := 5) (v := .iface t v) ha (by kernel_rfl) (by kernel_rfl)
        have p5 := slot_norm q5
        have hg := slot_at (t := 58) 17 ha (by kernel_rfl) (by kernel_rfl) (by kernel_rfl) e17
        clear ha hd
        exact StepR.pure (v := .iface t v) rfl (wanted_at rfl rfl hg) (by go_simp) (RelB.refl _) rfl
      · intro us au w1 ha hR hd
        have e18 := hd 18 _ (by kernel_rfl) rfl
        have e17 := hd 17 _ (by kernel_rfl) rfl
        have q59 := slot_at (t := 59) 18 ha (by kernel_rfl) (by kernel_rfl) (by kernel_rfl) e18
        have p59 := slot_norm q59
        have hg := slot_at (t := 58) 17 ha (by kernel_rfl) (by kernel_rfl) (by kernel_rfl) e17
        clear ha hd
        refine StepR.call (f := 12) (args := #[.iface t v]) rfl (wanted_at rfl rfl hg) (by go_simp) ?_
        refine (HLP.out w1 (HB34.out.trans ((RelB.undrew hR).mono HB34.out.size))).mono ?_
        rintro e w5 ⟨hb5, A5, rfl, ho5⟩
        exact ⟨_, rfl, hb5, A5, _, rfl, ho5.lksAt⟩
      · intro us au w1 ha hR hd
        have e17 := hd 17 _ (by kernel_rfl) rfl
        have q7 := slot_far (t := 7) (v := .pointer (some ⟨g, 0, none⟩)) ha (by kernel_rfl) (by kernel_rfl)
        have p7 := slot_norm q7
        have hg := slot_at (t := 58) 17 ha (by kernel_rfl) (by kernel_rfl) (by kernel_rfl) e17
        clear ha hd
        have hcc := HC5.out.below (RelB.undrew hR) HC5.out.blk
        have hld := run_load_part (P := Tryz.prog) (ty := 50) (vs := V) (off := 0) hcc Tryz.underlying50 rfl (by rw [HV12.out]; exact info_o8) (by rw [HV12.out]; exact Nat.le_refl 12) (fun j hj => by rw [Nat.zero_add]; exact getD_some hj)
        exact StepR.pure (v := .agg V) rfl (wanted_at rfl rfl hg) (by unfold execOp; simp only [q7, Instr.loadAt, Instr.sureAddr, Sem.run_bind, Sem.run_pure, Result.andThen_ok, hld]) (RelB.refl _) rfl
      · intro us au w1 ha hR hd
        have e20 := hd 20 _ (by kernel_rfl) rfl
        have e17 := hd 17 _ (by kernel_rfl) rfl
        have q61 := slot_at (t := 61) 20 ha (by kernel_rfl) (by kernel_rfl) (by kernel_rfl) e20
        have p61 := slot_norm q61
        have hg := slot_at (t := 58) 17 ha (by kernel_rfl) (by kernel_rfl) (by kernel_rfl) e17
        clear ha hd
        refine StepR.call (f := 24) (args := #[.agg V]) rfl (wanted_at rfl rfl hg) (by go_simp) ?_
        refine (HLD.out w1 (HB34.out.trans ((RelB.undrew hR).mono HB34.out.size))).mono ?_
        rintro e w5 ⟨hb5, A5, c5, rfl, ho5⟩
        exact ⟨_, rfl, hb5, A5, _, rfl, ho5.lksAt⟩
      · intro us au w1 ha hR hd
        obtain ⟨A19, c19, e19, h19⟩ := hd 19 _ (by kernel_rfl) rfl
        obtain ⟨A21, c21, e21, h21⟩ := hd 21 _ (by kernel_rfl) rfl
        have e17 := hd 17 _ (by kernel_rfl) rfl
        have q60 := slot_at (t := 60) 19 ha (by kernel_rfl) (by kernel_rfl) (by kernel_rfl) e19
        have p60 := slot_norm q60
        have q62 := slot_at (t := 62) 21 ha (by kernel_rfl) (by kernel_rfl) (by kernel_rfl) e21
        have p62 := slot_norm q62
        have hg := slot_at (t := 58) 17 ha (by kernel_rfl) (by kernel_rfl) (by kernel_rfl) e17
        clear ha hd
        refine StepR.call (f := 23) (args := #[.slice A19 K.length c19, .slice A21 K.length c21]) rfl (wanted_at rfl rfl hg) (by go_simp) ?_
        refine (sameLinks_any A19 A21 K.length c19 c21 K w1 h19 h21 rfl HKL.out).mono ?_
        rintro e w5 ⟨rfl, hb⟩
        exact ⟨_, rfl, hb, rfl⟩
      · intro us au w1 ha hR hd
        have e17 := hd 17 _ (by kernel_rfl) rfl
        have e22 := hd 22 _ (by kernel_rfl) rfl
        have q58 := slot_at (t := 58) 17 ha (by kernel_rfl) (by kernel_rfl) (by kernel_rfl) e17
        have p58 := slot_norm q58
        have q63 := slot_at (t := 63) 22 ha (by kernel_rfl) (by kernel_rfl) (by kernel_rfl) e22
        have p63 := slot_norm q63
        clear ha hd
        exact StepR.pure (v := .bool true) rfl rfl (by go_simp) (RelB.refl _) rfl
      · intro us au w1 ha hR hd
        have e23 := hd 23 _ (by kernel_rfl) rfl
        have q64 := slot_at (t := 64) 23 ha (by kernel_rfl) (by kernel_rfl) (by kernel_rfl) e23
        have p64 := slot_norm q64
        clear ha hd
        exact StepR.pure (v := .bool true) rfl rfl (by go_simp) (RelB.refl _) rfl
      · intro us au w1 ha hR hd
        have e24 := hd 24 _ (by kernel_rfl) rfl
        have hg := slot_at (t := 65) 24 ha (by kernel_rfl) (by kernel_rfl) (by kernel_rfl) e24
        clear ha hd
        refine StepR.call (f := 13) (args := #[]) rfl (wanted_at rfl rfl hg) (by go_simp) ?_
        refine (awake8_any w1 (HE.out.below (HB4.out.trans ((RelB.undrew hR).mono HB4.out.size)))).mono ?_
        rintro e w5 ⟨rfl, hb⟩
        exact ⟨_, rfl, hb, rfl⟩
      · intro us au w1 ha hR hd
        have e24 := hd 24 _ (by kernel_rfl) rfl
        have e25 := hd 25 _ (by kernel_rfl) rfl
        have q65 := slot_at (t := 65) 24 ha (by kernel_rfl) (by kernel_rfl) (by kernel_rfl) e24
        have p65 := slot_norm q65
        have q66 := slot_at (t := 66) 25 ha (by kernel_rfl) (by kernel_rfl) (by kernel_rfl) e25
        have p66 := slot_norm q66
        clear ha hd
        exact StepR.pure (v := .bool true) rfl rfl (by go_simp) (RelB.refl _) rfl
    case tail =>
      intro us au w1 ha hR hd
      have e26 := hd 26 _ rfl
      have q67 := slot_at (t := 67) 26 ha (by kernel_rfl) (by kernel_rfl) (by kernel_rfl) e26
      have p67 := slot_norm q67
      clear ha hd
      exact StepR.pure (v := .bool true) rfl rfl (by go_simp) trivial ⟨rfl, hR⟩
    case done =>
      intro us v9 w1 hD
      obtain ⟨rfl, hR⟩ := hD
      have HRR := Lib.hid hR
      clear hR
      simp only [putAll, upd]
      go_simp
      go_wp2
      go_ret
      exact ⟨rfl, HB4.out.trans ((RelB.undrew HRR.out).mono HB4.out.size)⟩
end Go.Proofs.YtdlabapfcghfmaaGreatDoor
namespace Go.Proofs.YtdlabapfcghfmaaGreatDoor
open Go.RowKit
set_option linter.unusedVariables false
set_option linter.unusedSimpArgs false

theorem pars_len (P : List (List UInt8)) (p : List UInt8) (h : p ∈ P) : p.length ≤ (P.flatMap parU).length := by
  induction P with
  | nil => cases h
  | cons q P ih =>
    rw [List.flatMap_cons, List.length_append]
    rcases List.mem_cons.1 h with rfl | h
    · have : p.length ≤ (parU p).length := by unfold parU; simp; omega
      omega
    · have := ih h; omega
theorem commit_par {l : List UInt8} {r : CommitR} (h : commitF l = some r) (p : List UInt8) (hp : p ∈ r.P) : p.length ≤ l.length := by
  rw [commit_backU h]
  have := pars_len r.P p hp
  unfold commitU
  simp only [List.length_append]
  omega
theorem links_ret {K : List Lk} {w : World} : ∀ e w', LinksPost K w e w' → ∃ v, e = .returned v := fun e w' h => by
  obtain ⟨_, A, rfl, _⟩ := h
  exact ⟨_, rfl⟩
set_option maxRecDepth 100000 in
theorem both_any (kd : Int) (A : Option Addr) (n c : Nat) (l : List UInt8) (w : World) (hE : EnvO w) (hI : Ints .u8 w A (bytesOf (bk l))) (hn : l.length = n) (hnc : n ≤ c) (hcm : c ≤ 9223372036854775807) (hs : n ≤ 1099511627775) (hA : A = none → n = 0) :
    Calls Tryz.prog 10 #[.int .i64 kd, .slice A n c] w (BothP kd l w) := by
  have hs2 : n ≤ 8796093022000 := by omega
  have hsz : (bk l).size ≤ 8796093022000 := by rw [bk_size]; omega
  by_cases h1 : kd = 1
  · subst h1
    refine (parseCommit_any A n c l w hE hI hn hnc hcm hs2).mono ?_
    rintro e w1 ⟨hb, ⟨hno, rfl⟩ | ⟨r, A2, hr, rfl, ho⟩⟩
    · refine ⟨hb, .inl ⟨3, by decide, rfl, (rpcommit_any (bk l) w1 hsz).mono ?_⟩⟩
      rintro e' w3 ⟨hb3, ⟨_, rfl⟩ | ⟨r, A3, c3, hr, _⟩⟩
      · exact ⟨rfl, hb3⟩
      · rw [bk_list, hno] at hr; cases hr
    · refine ⟨hb, .inr ⟨_, _, rfl, (rpcommit_any (bk l) w1 hsz).mono ?_⟩⟩
      rintro e' w3 ⟨hb3, ⟨hno, _⟩ | ⟨r', A3, c3, hr', rfl, ho3⟩⟩
      · rw [bk_list, hr] at hno; cases hno
      · rw [bk_list, hr] at hr'
        injection hr' with hr'
        subst hr'
        have hnum := commit_num hr
        have hback := commit_back hr
        have hoW : ∀ w4, Below w3.heap.size w3 w4 → StrsAt w4 A2 (r.P.map bk) := fun w4 h4 => ((ho.lowB hb3).lowB h4).strsAt
        have hoX : ∀ w4, Below w3.heap.size w3 w4 → StrsAt w4 A3 (r.P.map bk) := fun w4 h4 => (ho3.lowB h4).strsAt
        refine ⟨_, rfl, hb3, ⟨rfl, comV_one _ _ _ _ _ _ _, ?_, ?_, ?_, ?_⟩⟩
        · exact ⟨164, .agg #[.string (bk r.t), .slice A2 r.P.length r.P.length, .string (bk r.a), .string (bk r.c), .string (bk r.m)], ⟨fun W => by kernel_rfl, fun W => enters_of Tryz.func164 (by kernel_rfl) rfl _ _⟩, fun w4 => kindCommit_any _ _ _ _ _ w4⟩
        · refine ⟨17, .agg #[.string (bk r.t), .slice A2 r.P.length r.P.length, .string (bk r.a), .string (bk r.c), .string (bk r.m)], ⟨fun W => by kernel_rfl, fun W => enters_of Tryz.func17 (by kernel_rfl) rfl _ _⟩, fun w4 h4 => ?_⟩
          rw [← hback]
          exact commitBytes_any _ A2 _ _ (r.P.map bk) _ _ _ w4 (hoW w4 h4) (by simp) (by omega) (by rw [hback, bytesOf_len, bk_size]; omega)
        · intro w4 h4
          exact sameCommit_any A2 A3 r.P.length c3 r.P.length (r.P.map bk) ⟨#[]⟩ (.slice none 0 0) (bk r.t) (bk r.a) (bk r.c) ⟨#[]⟩ ⟨#[]⟩ 0 ⟨#[]⟩ (bk r.m) w4 (hoW w4 h4) (hoX w4 h4) (by simp) (by omega) (fun p hp => by
            obtain ⟨q, hq, rfl⟩ := List.mem_map.1 hp
            rw [bk_size]
            have := commit_par hr q hq
            omega)
        · refine ⟨comK (bk r.t) (r.P.map bk), by unfold comK; simp; omega, fun w4 h4 => ?_, fun w4 h4 => ?_⟩
          · exact links_any _ w4 _ ⟨_, _, 165, .agg #[.string (bk r.t), .slice A2 r.P.length r.P.length, .string (bk r.a), .string (bk r.c), .string (bk r.m)], rfl, by kernel_rfl, enters_of Tryz.func165 (by kernel_rfl) rfl _ _, linksCommit_any _ A2 _ _ (r.P.map bk) _ _ _ w4 (hoW w4 h4) (by simp) (by omega)⟩ links_ret
          · exact rlinksCommit_any ⟨#[]⟩ (.slice none 0 0) (bk r.t) A3 r.P.length c3 (r.P.map bk) (bk r.a) (bk r.c) ⟨#[]⟩ ⟨#[]⟩ 0 ⟨#[]⟩ (bk r.m) w4 (hoX w4 h4) (by simp) (by omega)
  · by_cases h2 : kd = 2
    · subst h2
      refine (parseTree_any A n c l w hE hI hn hnc hcm hs2).mono ?_
      rintro e w1 ⟨hb, ⟨hno, rfl⟩ | ⟨L, A2, hr, rfl, ho⟩⟩
      · refine ⟨hb, .inl ⟨3, by decide, rfl, (rptree_any (bk l) w1 hsz).mono ?_⟩⟩
        rintro e' w3 ⟨hb3, ⟨_, rfl⟩ | ⟨L, A3, c3, hr, _⟩⟩
        · exact ⟨rfl, hb3⟩
        · rw [bk_list, hno] at hr; cases hr
      · refine ⟨hb, .inr ⟨_, _, rfl, (rptree_any (bk l) w1 hsz).mono ?_⟩⟩
        rintro e' w3 ⟨hb3, ⟨hno, _⟩ | ⟨L', A3, c3, hr', rfl, ho3⟩⟩
        · rw [bk_list, hr] at hno; cases hno
        · rw [bk_list, hr] at hr'
          injection hr' with hr'
          subst hr'
          have hnum := treeU_num _ _ _ _ hr
          simp only [List.length_nil, Nat.zero_add] at hnum
          have hid := treeU_id _ _ _ _ hr (by simp)
          have hback := tree_back hr
          have hoW : ∀ w4, Below w3.heap.size w3 w4 → EntsAt w4 A2 L := fun w4 h4 => ((ho.lowB hb3).lowB h4).entsAt
          have hoX : ∀ w4, Below w3.heap.size w3 w4 → EntsAt w4 A3 L := fun w4 h4 => (ho3.lowB h4).entsAt
          refine ⟨_, rfl, hb3, ⟨rfl, treV_one _ _ _ _ _, ?_, ?_, ?_, ?_⟩⟩
          · exact ⟨161, .agg #[.slice A2 L.length L.length], ⟨fun W => by kernel_rfl, fun W => enters_of Tryz.func161 (by kernel_rfl) rfl _ _⟩, fun w4 => kindTree_any _ w4⟩
          · refine ⟨11, .agg #[.slice A2 L.length L.length], ⟨fun W => by kernel_rfl, fun W => enters_of Tryz.func11 (by kernel_rfl) rfl _ _⟩, fun w4 h4 => ?_⟩
            rw [← hback]
            exact treeBytes_any A2 _ _ L w4 (hoW w4 h4) rfl (by omega) (fun x hx => Nat.le_trans (hid x hx) (by decide)) (by rw [hback, bytesOf_len, bk_size]; omega)
          · intro w4 h4
            exact sameTree_any A2 A3 L.length c3 L.length L ⟨#[]⟩ ⟨#[]⟩ (.slice none 0 0) ⟨#[]⟩ ⟨#[]⟩ ⟨#[]⟩ ⟨#[]⟩ 0 ⟨#[]⟩ ⟨#[]⟩ w4 (hoW w4 h4) (hoX w4 h4) rfl (by omega)
          · refine ⟨treeK L, Nat.le_trans (treeK_len L) (by omega), fun w4 h4 => ?_, fun w4 h4 => ?_⟩
            · exact links_any _ w4 _ ⟨_, _, 162, .agg #[.slice A2 L.length L.length], rfl, by kernel_rfl, enters_of Tryz.func162 (by kernel_rfl) rfl _ _, linksTree_any A2 _ _ L w4 (hoW w4 h4) rfl (by omega)⟩ links_ret
            · exact rlinksTree_any ⟨#[]⟩ ⟨#[]⟩ A3 L.length c3 L (.slice none 0 0) ⟨#[]⟩ ⟨#[]⟩ ⟨#[]⟩ ⟨#[]⟩ 0 ⟨#[]⟩ ⟨#[]⟩ w4 (hoX w4 h4) rfl (by omega)
    · by_cases h3 : kd = 3
      · subst h3
        refine (parseBlob_any A n c l w hE hI hn hnc hcm hs2 hA).mono ?_
        rintro e w1 ⟨hb, A2, rfl, ho⟩
        refine ⟨hb, .inr ⟨_, _, rfl, (rpblob_any (bk l) w1 hsz).mono ?_⟩⟩
        rintro e' w3 ⟨hb3, rfl⟩
        have hoW : ∀ w4, Below w3.heap.size w3 w4 → Ints .u8 w4 A2 (bytesOf (bk l)) := fun w4 h4 => ((ho.lowB hb3).lowB h4).ints
        have hln : (bytesOf (bk l)).length = l.length := by rw [bytesOf_len, bk_size]
        refine ⟨_, rfl, hb3, ⟨rfl, treV_one _ _ _ _ _, ?_, ?_, ?_, ?_⟩⟩
        · exact ⟨167, .agg #[.slice A2 l.length l.length], ⟨fun W => by kernel_rfl, fun W => enters_of Tryz.func167 (by kernel_rfl) rfl _ _⟩, fun w4 => kindBlob_any _ w4⟩
        · refine ⟨166, .agg #[.slice A2 l.length l.length], ⟨fun W => by kernel_rfl, fun W => enters_of Tryz.func166 (by kernel_rfl) rfl _ _⟩, fun w4 h4 => ?_⟩
          refine blobBytes_any A2 _ _ _ w4 (hoW w4 h4) hln (by omega) (fun hA2 => ?_)
          subst hA2
          rcases ho.2 with ⟨_, h⟩ | ⟨g, off, cap, cur, hv, _⟩
          · exact h
          · injection hv with h1; cases h1
        · intro w4 h4
          exact sameBlob_any A2 l.length l.length (bk l) (.slice none 0 0) ⟨#[]⟩ (.slice none 0 0) ⟨#[]⟩ ⟨#[]⟩ ⟨#[]⟩ ⟨#[]⟩ 0 ⟨#[]⟩ ⟨#[]⟩ w4 (hoW w4 h4) hln
        · refine ⟨[], by simp, fun w4 h4 => ?_, fun w4 h4 => ?_⟩
          · exact links_any _ w4 _ ⟨_, _, 168, .agg #[.slice A2 l.length l.length], rfl, by kernel_rfl, enters_of Tryz.func168 (by kernel_rfl) rfl _ _, linksBlob_any _ w4⟩ links_ret
          · exact rlinksBlob_any (bk l) (.slice none 0 0) ⟨#[]⟩ (.slice none 0 0) ⟨#[]⟩ ⟨#[]⟩ ⟨#[]⟩ ⟨#[]⟩ 0 ⟨#[]⟩ ⟨#[]⟩ w4
      · by_cases h4 : kd = 4
        · subst h4
          refine (parseTag_any A n c l w hE hI hn hnc hcm hs2).mono ?_
          rintro e w1 ⟨hb, ⟨hno, rfl⟩ | ⟨r, hr, rfl⟩⟩
          · refine ⟨hb, .inl ⟨3, by decide, rfl, (rptag_any (bk l) w1 hsz).mono ?_⟩⟩
            rintro e' w3 ⟨hb3, ⟨_, rfl⟩ | ⟨r, hr, _⟩⟩
            · exact ⟨rfl, hb3⟩
            · rw [bk_list, hno] at hr; cases hr
          · refine ⟨hb, .inr ⟨_, _, rfl, (rptag_any (bk l) w1 hsz).mono ?_⟩⟩
            rintro e' w3 ⟨hb3, ⟨hno, _⟩ | ⟨r', hr', rfl⟩⟩
            · rw [bk_list, hr] at hno; cases hno
            · rw [bk_list, hr] at hr'
              injection hr' with hr'
              subst hr'
              have hback := tag_back hr
              refine ⟨_, rfl, hb3, ⟨rfl, tagV_one _ _ _ _ _, ?_, ?_, ?_, ?_⟩⟩
              · exact ⟨171, .agg #[.string (bk r.o), .int .i64 (r.k : Int), .string (bk r.n), .string (bk r.g), .string (bk r.m)], ⟨fun W => by kernel_rfl, fun W => enters_of Tryz.func171 (by kernel_rfl) rfl _ _⟩, fun w4 => kindTag_any _ _ _ _ _ w4⟩
              · refine ⟨170, .agg #[.string (bk r.o), .int .i64 (r.k : Int), .string (bk r.n), .string (bk r.g), .string (bk r.m)], ⟨fun W => by kernel_rfl, fun W => enters_of Tryz.func170 (by kernel_rfl) rfl _ _⟩, fun w4 h4 => ?_⟩
                rw [← hback]
                exact tagBytes_any _ _ _ _ _ w4 (by rw [hback, bk_size]; omega)
              · intro w4 h4
                exact sameTag_any ⟨#[]⟩ (.slice none 0 0) ⟨#[]⟩ (.slice none 0 0) ⟨#[]⟩ ⟨#[]⟩ (bk r.o) (bk r.n) (r.k : Int) (bk r.g) (bk r.m) w4
              · refine ⟨[⟨bk r.o, (r.k : Int)⟩], by simp, fun w4 h4 => ?_, fun w4 h4 => ?_⟩
                · exact links_any _ w4 _ ⟨_, _, 172, .agg #[.string (bk r.o), .int .i64 (r.k : Int), .string (bk r.n), .string (bk r.g), .string (bk r.m)], rfl, by kernel_rfl, enters_of Tryz.func172 (by kernel_rfl) rfl _ _, linksTag_any _ _ _ _ _ w4⟩ links_ret
                · exact rlinksTag_any ⟨#[]⟩ (.slice none 0 0) ⟨#[]⟩ (.slice none 0 0) ⟨#[]⟩ ⟨#[]⟩ (bk r.o) (bk r.n) (r.k : Int) (bk r.g) (bk r.m) w4
        · refine (parseNone_any kd _ w (by omega)).mono ?_
          rintro e w1 ⟨rfl, rfl⟩
          refine ⟨Below.refl _ _, .inl ⟨1, by decide, rfl, (rpnone_any kd (bk l) w1 (by omega)).mono ?_⟩⟩
          rintro e' w3 ⟨rfl, hb3⟩
          exact ⟨rfl, hb3⟩
/-- The walk, whatever the kind. -/
theorem objectParses_walk (kd : Int) (A : Option Addr) (n c : Nat) (l : List UInt8) (xs : List Int) (w : World) (hE : EnvO w) (hx : bytesOf (bk l) = xs) (hI : Ints .u8 w A xs) (hn : xs.length = n) (hnc : n ≤ c) (hcm : c ≤ 9223372036854775807) (hs : n ≤ 1099511627775) (hA : A = none → n = 0) :
    Calls Tryz.prog 7 #[.int .i64 kd, .slice A n c] w fun e w' => e = .returned (.bool true) ∧ Below w.heap.size w w' := by
  have hln : l.length = n := by rw [← hn, ← hx, bytesOf_len, bk_size]
  exact parses_walk kd A n c l w hE (by rw [hx]; exact hI) hln (both_any kd A n c l w hE (by rw [hx]; exact hI) hln hnc hcm hs hA)
end Go.Proofs.YtdlabapfcghfmaaGreatDoor
