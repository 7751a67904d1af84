/- The document's part and mode of a tree's entry. -/
import Derived.Test.YtihanglnjghcfaaGreatDoorGAg10
import Derived.Test.YtihanglnjghcfaaGreatDoorGAg15
import Derived.Test.YtihanglnjghcfaaGreatDoorGAg3
import Derived.Test.YtihanglnjghcfaaGreatDoorGAg11
namespace Go.Proofs.YtihanglnjghcfaaGreatDoor
open Go.RowKit
set_option linter.unusedVariables false
set_option linter.unusedSimpArgs false

theorem low_take {l : List UInt8} {k : Nat} {b : UInt8} (h : l[k]? = some b) : (l.map lowU).take (k + 1) = (l.map lowU).take k ++ [lowU b] := by
  rw [List.take_add_one, List.getElem?_map, h]; rfl
theorem bytesBk_snoc (l : List UInt8) (b : UInt8) : (bytesOf (bk (l ++ [b]))).map (Value.int .u8) = (bytesOf (bk l)).map (Value.int .u8) ++ [.int .u8 (b.toNat : Int)] := by
  unfold bytesOf
  rw [bk_list, bk_list, List.map_append, List.map_append]
  rfl
set_option maxRecDepth 100000 in
set_option maxHeartbeats 2000000 in
theorem small_any (s : ByteArray) (w : World) (hs : s.size ≤ 140737488351300) : Calls Tryz.prog 88 #[.string s] w fun e w' => e = .returned (.string (bk (s.data.toList.map lowU))) ∧ Below w.heap.size w w' := by
  obtain ⟨i0, hi, hz0, hz1, hz2⟩ := info_parts Tryz.info_u8
  have HRES : Hid (bk (s.data.toList.map lowU) = bk (s.data.toList.map lowU)) := rfl
  generalize hR : bk (s.data.toList.map lowU) = R at *
  have HR := Lib.hid hR
  clear hR HRES
  go_enter Tryz.func88, Tryz.ntmps88
  go_wp2
  go_loopw [4, 3] (fun vi vo wr => ∃ (k : Nat) (v : Value), vi = .int .i64 k ∧ v = vo ∧ k ≤ s.size ∧ OwnS wr w.heap.size 5 1 v k ((bytesOf (bk ((s.data.toList.map lowU).take k))).map (Value.int .u8)) ∧ Below w.heap.size w wr) (fun vi _ _ => s.size - (intOf vi).toNat)
  case atStart => exact ⟨0, _, rfl, rfl, Nat.zero_le _, OwnS.nil _ _ _ _, Below.refl _ _⟩
  case round =>
    obtain ⟨k, v, rfl, rfl, hk, ho, hb⟩ := hrel
    obtain ⟨Av, cv, rfl⟩ := ho.shape
    by_cases hlt : k < s.size
    · have hx := Lib.data_getElem? s k hlt
      have d0 : decide ((k : Int) < (s.size : Int)) = true := decide_eq_true (by omega)
      have d0' : decide (k < s.size) = true := decide_eq_true hlt
      have HLT := Lib.hid (low_take hx)
      have HV := Lib.hid (lowU_val (s[k]'hlt))
      have HB := Lib.hid hb
      have hmax : k + 1 ≤ maxLen := by unfold maxLen; omega
      have hbyte : (k + 1) * 1 ≤ 140737488355328 := by omega
      have HO := Lib.hid ho
      have HOA := Lib.hid (fun z : Int => ho.alloc (.cells #[.int .u8 z] 5))
      have HBA := Lib.hid (fun z : Int => hb.trans (((Below.refl wr.heap.size wr).alloc (Nat.le_refl _) (.cells #[.int .u8 z] 5)).mono hb.size))
      clear hx ho hb
      by_cases h1 : 65 ≤ (s[k]'hlt).toNat
      · have q1 : decide (((s[k]'hlt).toNat : Int) < 65) = false := decide_eq_false (by omega)
        have q1' : decide (65 ≤ ((s[k]'hlt).toNat : Int)) = true := decide_eq_true (by omega)
        by_cases h2 : (s[k]'hlt).toNat ≤ 90
        · have q2 : decide (90 < ((s[k]'hlt).toNat : Int)) = false := decide_eq_false (by omega)
          have q2' : decide (((s[k]'hlt).toNat : Int) ≤ 90) = true := decide_eq_true (by omega)
          have hw8 : IntKind.u8.wrap (((s[k]'hlt).toNat : Int) + 32) = ((s[k]'hlt).toNat : Int) + 32 := by
            have := (s[k]'hlt).toNat_lt
            rw [show IntKind.u8.wrap (((s[k]'hlt).toNat : Int) + 32) = (((s[k]'hlt).toNat : Int) + 32) % 256 from rfl]
            omega
          have HW : Hid (((lowU (s[k]'hlt)).toNat : Int) = ((s[k]'hlt).toNat : Int) + 32) := Lib.hid (by rw [HV.out, if_pos ⟨h1, h2⟩])
          have HO2 := Lib.hid (HOA.out (((s[k]'hlt).toNat : Int) + 32))
          have HB2 := Lib.hid (HBA.out (((s[k]'hlt).toNat : Int) + 32))
          clear h1 h2 HOA HBA HV
          go_wp2_with (at_builtin; go_loud (refine wpList_append_S rfl (.tmp 23) (.tmp 25) 48 48 rfl i0 (.int .u8 0) 1 (.slice 5) Tryz.underlying48 Tryz.underlying48 (fun _ h => by cases h) hi hz0 hz1 hz2 rfl rfl rfl HO2.out (Src.new (us := [.int .u8 (((s[k]'hlt).toNat : Int) + 32)]) rfl (by simp [Value.oneCell'])) hmax hbyte HB2.out.size ?_; intro A9 c9 w9 ho9 hg9 hw9))
          have HO9 : Hid (OwnS w9 w.heap.size 5 1 (.slice A9 (k + 1) c9) (k + 1) ((bytesOf (bk ((s.data.toList.map lowU).take (k + 1)))).map (Value.int .u8))) := Lib.hid (by
            rw [HLT.out, bytesBk_snoc, HW.out]
            exact ho9)
          have HB9 := Lib.hid (HB2.out.grown hg9 HB2.out.size (fun j hj => (HO2.out.lt j hj).1))
          clear ho9 hg9 hw9
          go_roundw
          case rel => exact ⟨k + 1, _, rfl, rfl, by omega, HO9.out, HB9.out⟩
          case measure => simp [intOf]; omega
        · have q2 : decide (90 < ((s[k]'hlt).toNat : Int)) = true := decide_eq_true (by omega)
          have q2' : decide (((s[k]'hlt).toNat : Int) ≤ 90) = false := decide_eq_false (by omega)
          have HW : Hid (((lowU (s[k]'hlt)).toNat : Int) = ((s[k]'hlt).toNat : Int)) := Lib.hid (by rw [HV.out, if_neg (fun h => h2 h.2)])
          have HO2 := Lib.hid (HOA.out (((s[k]'hlt).toNat : Int)))
          have HB2 := Lib.hid (HBA.out (((s[k]'hlt).toNat : Int)))
          clear h1 h2 HOA HBA HV
          go_wp2_with (at_builtin; go_loud (refine wpList_append_S rfl (.tmp 23) (.tmp 25) 48 48 rfl i0 (.int .u8 0) 1 (.slice 5) Tryz.underlying48 Tryz.underlying48 (fun _ h => by cases h) hi hz0 hz1 hz2 rfl rfl rfl HO2.out (Src.new (us := [.int .u8 (((s[k]'hlt).toNat : Int))]) rfl (by simp [Value.oneCell'])) hmax hbyte HB2.out.size ?_; intro A9 c9 w9 ho9 hg9 hw9))
          have HO9 : Hid (OwnS w9 w.heap.size 5 1 (.slice A9 (k + 1) c9) (k + 1) ((bytesOf (bk ((s.data.toList.map lowU).take (k + 1)))).map (Value.int .u8))) := Lib.hid (by
            rw [HLT.out, bytesBk_snoc, HW.out]
            exact ho9)
          have HB9 := Lib.hid (HB2.out.grown hg9 HB2.out.size (fun j hj => (HO2.out.lt j hj).1))
          clear ho9 hg9 hw9
          go_roundw
          case rel => exact ⟨k + 1, _, rfl, rfl, by omega, HO9.out, HB9.out⟩
          case measure => simp [intOf]; omega
      · have q1 : decide (((s[k]'hlt).toNat : Int) < 65) = true := decide_eq_true (by omega)
        have q1' : decide (65 ≤ ((s[k]'hlt).toNat : Int)) = false := decide_eq_false (by omega)
        have HW : Hid (((lowU (s[k]'hlt)).toNat : Int) = ((s[k]'hlt).toNat : Int)) := Lib.hid (by rw [HV.out, if_neg (fun h => h1 h.1)])
        have HO2 := Lib.hid (HOA.out (((s[k]'hlt).toNat : Int)))
        have HB2 := Lib.hid (HBA.out (((s[k]'hlt).toNat : Int)))
        clear h1 HOA HBA HV
        go_wp2_with (at_builtin; go_loud (refine wpList_append_S rfl (.tmp 23) (.tmp 25) 48 48 rfl i0 (.int .u8 0) 1 (.slice 5) Tryz.underlying48 Tryz.underlying48 (fun _ h => by cases h) hi hz0 hz1 hz2 rfl rfl rfl HO2.out (Src.new (us := [.int .u8 (((s[k]'hlt).toNat : Int))]) rfl (by simp [Value.oneCell'])) hmax hbyte HB2.out.size ?_; intro A9 c9 w9 ho9 hg9 hw9))
        have HO9 : Hid (OwnS w9 w.heap.size 5 1 (.slice A9 (k + 1) c9) (k + 1) ((bytesOf (bk ((s.data.toList.map lowU).take (k + 1)))).map (Value.int .u8))) := Lib.hid (by
          rw [HLT.out, bytesBk_snoc, HW.out]
          exact ho9)
        have HB9 := Lib.hid (HB2.out.grown hg9 HB2.out.size (fun j hj => (HO2.out.lt j hj).1))
        clear ho9 hg9 hw9
        go_roundw
        case rel => exact ⟨k + 1, _, rfl, rfl, by omega, HO9.out, HB9.out⟩
        case measure => simp [intOf]; omega
    · obtain rfl : k = s.size := by omega
      have d0 : decide ((s.size : Int) < (s.size : Int)) = false := decide_eq_false (by omega)
      have d0' : decide (s.size < s.size) = false := decide_eq_false (by omega)
      have hln : (s.data.toList.map lowU).length = s.size := by rw [List.length_map, ← Lib.size_eq]
      have hta : (s.data.toList.map lowU).take s.size = s.data.toList.map lowU := List.take_of_length_le (by omega)
      rw [hta] at ho
      have hcv := run_strU Av s.size cv (s.data.toList.map lowU) wr ho.ints hln
      rw [HR.out] at hcv
      have HB := Lib.hid hb
      clear ho hb hta hln
      go_wp2
      go_ret
      exact ⟨rfl, HB.out⟩
theorem mode_tl (s : ByteArray) : s.toList = s.data.toList := Lib.toList_data s
set_option maxRecDepth 100000 in
theorem mode_any (s : ByteArray) (w : World) : Calls Tryz.prog 67 #[.string s] w fun e w' => e = .returned (.bool (modeB s.data.toList)) ∧ w' = w := by
  unfold modeB
  have HT := Lib.hid (mode_tl s)
  generalize hl : s.data.toList = l at *
  rw [← HT.out]
  clear hl HT
  cases h1 : (s.toList == [49, 48, 48, 54, 52, 52])
  · cases h2 : (s.toList == [49, 48, 48, 55, 53, 53])
    · cases h3 : (s.toList == [49, 50, 48, 48, 48, 48])
      · cases h4 : (s.toList == [52, 48, 48, 48, 48])
        · go_enter Tryz.func67, Tryz.ntmps67
          go_wp2
          go_ret
          exact ⟨rfl, rfl⟩
        · go_enter Tryz.func67, Tryz.ntmps67
          go_wp2
          go_ret
          exact ⟨rfl, rfl⟩
      · go_enter Tryz.func67, Tryz.ntmps67
        go_wp2
        go_ret
        exact ⟨rfl, rfl⟩
    · go_enter Tryz.func67, Tryz.ntmps67
      go_wp2
      go_ret
      exact ⟨rfl, rfl⟩
  · go_enter Tryz.func67, Tryz.ntmps67
    go_wp2
    go_ret
    exact ⟨rfl, rfl⟩
/-- The document's way to say whether a name may be. -/
theorem partU_doc (l : List UInt8) : partU l = (!(l == []) && (!(l == [46]) && (!(l == [46, 46]) && (!(l.map lowU == [46, 103, 105, 116]) && withoutB l [47, 0])))) := by
  unfold partU withoutB
  rw [containsAny_any']
  have : (l.any fun b => slashQ b.toNat) = l.any fun x => [(47 : UInt8), 0].contains x := by
    congr 1
    funext b
    unfold slashQ
    simp only [List.contains_cons, List.contains_nil, Bool.or_false]
    rw [Bool.eq_iff_iff]
    simp only [Bool.or_eq_true, beq_iff_eq]
    constructor
    · rintro (h | h)
      · left; exact UInt8.toNat_inj.1 h
      · right; exact UInt8.toNat_inj.1 h
    · rintro (h | h)
      · left; rw [h]; rfl
      · right; rw [h]; rfl
  rw [this]
  cases (l.any fun x => [(47 : UInt8), 0].contains x) <;> cases (Lib.validD l) <;> cases (l == []) <;> cases (l == [46]) <;> cases (l == [46, 46]) <;> cases (l.map lowU == [46, 103, 105, 116]) <;> rfl
set_option maxRecDepth 100000 in
theorem part_any (s : ByteArray) (w : World) (hs : s.size ≤ 140737488351300) : Calls Tryz.prog 68 #[.string s] w fun e w' => e = .returned (.bool (partU s.data.toList)) ∧ Below w.heap.size w w' := by
  have HS := Lib.hid (fun w => small_any s w hs)
  have HW := Lib.hid (fun w => without_any s ⟨#[47, 0]⟩ w (by omega) (by decide))
  change Hid (∀ w, Calls Tryz.prog 74 #[.string s, .string ⟨#[47, 0]⟩] w fun e w' => e = .returned (.bool (withoutB s.data.toList [47, 0])) ∧ Below w.heap.size w w') at HW
  rw [partU_doc]
  have HT := Lib.hid (mode_tl s)
  have hsl : (bk (s.data.toList.map lowU)).toList = s.data.toList.map lowU := by rw [Lib.toList_data, bk_list]
  rw [← hsl]
  generalize bk (s.data.toList.map lowU) = SM at *
  generalize withoutB s.data.toList [47, 0] = WB at *
  rw [← HT.out]
  clear hsl HT
  cases h1 : (s.toList == [])
  · cases h2 : (s.toList == [46])
    · cases h3 : (s.toList == [46, 46])
      · cases h4 : (SM.toList == [46, 103, 105, 116])
        · go_enter Tryz.func68, Tryz.ntmps68
          go_wp2_with (first
            | (have hx := hb1; go_at_call 74; refine (HW.out w1).mono ?_; rintro e w2 ⟨rfl, hb2⟩)
            | (go_at_call 88; refine (HS.out w).mono ?_; rintro e w1 ⟨rfl, hb1⟩))
          go_ret
          exact ⟨by simp, hb1.trans (hb2.mono hb1.size)⟩
        · go_enter Tryz.func68, Tryz.ntmps68
          go_wp2_with (go_at_call 88; refine (HS.out w).mono ?_; rintro e w1 ⟨rfl, hb1⟩)
          go_ret
          exact ⟨rfl, hb1⟩
      · go_enter Tryz.func68, Tryz.ntmps68
        go_wp2
        go_ret
        exact ⟨rfl, Below.refl _ _⟩
    · go_enter Tryz.func68, Tryz.ntmps68
      go_wp2
      go_ret
      exact ⟨rfl, Below.refl _ _⟩
  · go_enter Tryz.func68, Tryz.ntmps68
    go_wp2
    go_ret
    exact ⟨rfl, Below.refl _ _⟩
end Go.Proofs.YtihanglnjghcfaaGreatDoor
namespace Go.Proofs.YtihanglnjghcfaaGreatDoor
open Go.RowKit
set_option linter.unusedVariables false
set_option linter.unusedSimpArgs false

theorem getD_some {vs : Array Value} {j : Nat} (hj : j < vs.size) : vs[j]? = some (vs.getD j undef) := by
  simp [hj]
/-- Cells of the document's object. -/
def zeroV : Array Value := #[.int .i64 0, .string ⟨#[]⟩, .slice none 0 0, .string ⟨#[]⟩, .slice none 0 0, .string ⟨#[]⟩, .string ⟨#[]⟩, .string ⟨#[]⟩, .string ⟨#[]⟩, .int .i64 0, .string ⟨#[]⟩, .string ⟨#[]⟩]
def comV (t : ByteArray) (vP : Value) (a c m : ByteArray) : Array Value := #[.int .i64 1, .string ⟨#[]⟩, .slice none 0 0, .string t, vP, .string a, .string c, .string ⟨#[]⟩, .string ⟨#[]⟩, .int .i64 0, .string ⟨#[]⟩, .string m]
def tagV (o n : ByteArray) (ty : Int) (g m : ByteArray) : Array Value := #[.int .i64 4, .string ⟨#[]⟩, .slice none 0 0, .string ⟨#[]⟩, .slice none 0 0, .string ⟨#[]⟩, .string ⟨#[]⟩, .string o, .string n, .int .i64 ty, .string g, .string m]
def treV (k : Int) (d : ByteArray) (vL : Value) : Array Value := #[.int .i64 k, .string d, vL, .string ⟨#[]⟩, .slice none 0 0, .string ⟨#[]⟩, .string ⟨#[]⟩, .string ⟨#[]⟩, .string ⟨#[]⟩, .int .i64 0, .string ⟨#[]⟩, .string ⟨#[]⟩]
theorem info_o8 : (Tryz.prog.info? 67).map (·.size) = some 12 := by kernel_rfl
def CelV (w : World) (g : Nat) (V : Array Value) : Prop := Cel w g 67 12 (fun j => V.getD j undef)
theorem CelV.new (w : World) (V : Array Value) (hV : V.size = 12) : CelV (w.alloc (.cells V 67)) w.heap.size V := by
  have h := Cel.new w 67 V (fun j => V.getD j undef) (fun i hi => getD_some hi)
  rw [hV] at h
  exact h
theorem CelV.stored {w : World} {g : Nat} {V : Array Value} {f : Nat → Value} (hs : V.size = 12) (h : Cel w g 67 12 (fun j => if 0 ≤ j ∧ j < 0 + V.size then V.getD (j - 0) undef else f j)) : CelV w g V :=
  h.congr fun i hi => by rw [if_pos ⟨by omega, by omega⟩, Nat.sub_zero]
/-- What the reading holds: the answer's cells, the object's. -/
structure RSt (w0 w : World) (g1 g2 : Nat) (V : Array Value) : Prop where
  low : Below w0.heap.size w0 w
  e1 : w0.heap.size ≤ g1
  lt : g1 < g2
  res : CelV w g1 zeroV
  obj : CelV w g2 V
section
variable {w0 w w' : World} {g1 g2 : Nat} {V V' : Array Value}
theorem RSt.below (h : RSt w0 w g1 g2 V) (hb : Below w.heap.size w w') : RSt w0 w' g1 g2 V :=
  ⟨h.low.trans (hb.mono h.low.size), h.e1, h.lt, h.res.below hb h.res.blk, h.obj.below hb h.obj.blk⟩
theorem RSt.drew (h : RSt w0 w g1 g2 V) : RSt w0 w.drew g1 g2 V := ⟨h.low.drew, h.e1, h.lt, h.res.drew, h.obj.drew⟩
theorem RSt.chgHi (h : RSt w0 w g1 g2 V) (hc : Chg (fun k => g2 + 1 ≤ k) w w') : RSt w0 w' g1 g2 V := by
  have h1 := h.e1
  have h2 := h.lt
  exact ⟨h.low.trans (hc.below h.low.size (fun i hi e => by omega)), h.e1, h.lt, h.res.chg hc (by omega), h.obj.chg hc (by omega)⟩
theorem RSt.set (h : RSt w0 w g1 g2 V) {i : Nat} {v : Value} (hf : ∀ j, j < 12 → (if j = i then v else V.getD j undef) = V'.getD j undef) : RSt w0 (w.setCell ⟨g2, i, none⟩ v) g1 g2 V' :=
  ⟨h.low.setCell (p := ⟨g2, i, none⟩) (by have := h.e1; have := h.lt; show _ ≤ g2; omega) v, h.e1, h.lt, h.res.setFar (Nat.ne_of_lt h.lt) v, (h.obj.set i v).congr hf⟩
theorem RSt.begin (w : World) (V : Array Value) (hV : V.size = 12) : RSt w ((w.alloc (.cells zeroV 67)).alloc (.cells V 67)) w.heap.size (w.heap.size + 1) V := by
  refine ⟨((Below.refl _ _).alloc (Nat.le_refl _) _).alloc (by simp) _, Nat.le_refl _, by omega, (CelV.new w zeroV rfl).alloc _, ?_⟩
  have h := CelV.new (w.alloc (.cells zeroV 67)) V hV
  simpa using h
end
theorem zeroV_one : ∀ v ∈ zeroV.toList, v.oneCell' = true := by simp [zeroV, Value.oneCell']
theorem comV_one (t : ByteArray) (A : Option Addr) (n k : Nat) (a c m : ByteArray) : ∀ v ∈ (comV t (.slice A n k) a c m).toList, v.oneCell' = true := by simp [comV, Value.oneCell']
theorem tagV_one (o n : ByteArray) (ty : Int) (g m : ByteArray) : ∀ v ∈ (tagV o n ty g m).toList, v.oneCell' = true := by simp [tagV, Value.oneCell']
theorem treV_one (k : Int) (d : ByteArray) (A : Option Addr) (n c : Nat) : ∀ v ∈ (treV k d (.slice A n c)).toList, v.oneCell' = true := by simp [treV, Value.oneCell']
/-- What the document's reading of a commit, of a tag, of a tree answers. -/
def RCommit (l : List UInt8) (w : World) (e : Ending) (w' : World) : Prop :=
  Below w.heap.size w w' ∧ ((commitF l = none ∧ e = .returned (.tuple #[.agg zeroV, .bool false])) ∨
    ∃ r A c, commitF l = some r ∧ e = .returned (.tuple #[.agg (comV (bk r.t) (.slice A r.P.length c) (bk r.a) (bk r.c) (bk r.m)), .bool true]) ∧ OwnS w' w.heap.size 9 1 (.slice A r.P.length c) r.P.length (strVs r.P))
def RTag (l : List UInt8) (w : World) (e : Ending) (w' : World) : Prop :=
  Below w.heap.size w w' ∧ ((tagF l = none ∧ e = .returned (.tuple #[.agg zeroV, .bool false])) ∨
    ∃ r, tagF l = some r ∧ e = .returned (.tuple #[.agg (tagV (bk r.o) (bk r.n) (r.k : Int) (bk r.g) (bk r.m)), .bool true]))
def RTree (l : List UInt8) (w : World) (e : Ending) (w' : World) : Prop :=
  Below w.heap.size w w' ∧ ((treeF l = none ∧ e = .returned (.tuple #[.slice none 0 0, .bool false])) ∨
    ∃ L A c, treeF l = some L ∧ e = .returned (.tuple #[.slice A L.length c, .bool true]) ∧ OwnS w' w.heap.size 116 3 (.slice A L.length c) L.length (entVs L))
end Go.Proofs.YtihanglnjghcfaaGreatDoor
