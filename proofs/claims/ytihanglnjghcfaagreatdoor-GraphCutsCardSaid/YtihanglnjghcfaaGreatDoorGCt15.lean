/- The document's part and mode of a tree's entry. -/
import Derived.Test.YtihanglnjghcfaaGreatDoorGCt10
import Derived.Test.YtihanglnjghcfaaGreatDoorGCt14
import Derived.Test.YtihanglnjghcfaaGreatDoorGCt3
import Derived.Test.YtihanglnjghcfaaGreatDoorGCt11
namespace Go.Proofs.YtihanglnjghcfaaGreatDoor
open Go.RowKit
set_option linter.unusedVariables false
set_option linter.unusedSimpArgs false

theorem low_take {l : List UInt8} {k : Nat} {b : UInt8} (h : l[k]? = some b) : (l.map lowU).take (k + 1) = (l.map lowU).take k ++ [lowU b] := by
 rw [List.take_add_one, List.getElem?_map, h]; rfl
theorem bytesBk_snoc (l : List UInt8) (b : UInt8) : (bytesOf (bk (l ++ [b]))).map (Value.int .u8) = (bytesOf (bk l)).map (Value.int .u8) ++ [.int .u8 (b.toNat : Int)] := by
 unfold bytesOf
 rw [bk_list, bk_list, List.map_append, List.map_append]
 rfl
set_option maxRecDepth 100000 in
set_option maxHeartbeats 2000000 in
theorem small_any (s : ByteArray) (w : World) (hs : s.size ≤ 140737488351300) : Calls Tryz.prog 88 #[.string s] w fun e w' => e = .returned (.string (bk (s.data.toList.map lowU))) ∧ Below w.heap.size w w' := by
 obtain ⟨i0, hi, hz0, hz1, hz2⟩ := info_parts Tryz.info_u8
 have HRES : Hid (bk (s.data.toList.map lowU) = bk (s.data.toList.map lowU)) := rfl
 generalize hR : bk (s.data.toList.map lowU) = R at *
 have HR := Lib.hid hR
 clear hR HRES
 go_enter Tryz.func88, Tryz.ntmps88
 go_wp2
 go_loopw [4, 3] (fun vi vo wr => ∃ (k : Nat) (v : Value), vi = .int .i64 k ∧ v = vo ∧ k ≤ s.size ∧ OwnS wr w.heap.size 5 1 v k ((bytesOf (bk ((s.data.toList.map lowU).take k))).map (Value.int .u8)) ∧ Below w.heap.size w wr) (fun vi _ _ => s.size - (intOf vi).toNat)
 case atStart => exact ⟨0, _, rfl, rfl, Nat.zero_le _, OwnS.nil _ _ _ _, Below.refl _ _⟩
 case round =>
  obtain ⟨k, v, rfl, rfl, hk, ho, hb⟩ := hrel
  obtain ⟨Av, cv, rfl⟩ := ho.shape
  by_cases hlt : k < s.size
  · have hx := Lib.data_getElem? s k hlt
    have d0 : decide ((k : Int) < (s.size : Int)) = true := decide_eq_true (by omega)
    have d0' : decide (k < s.size) = true := decide_eq_true hlt
    have HLT := Lib.hid (low_take hx)
    have HV := Lib.hid (lowU_val (s[k]'hlt))
    have HB := Lib.hid hb
    have hmax : k + 1 ≤ maxLen := by unfold maxLen; omega
    have hbyte : (k + 1) * 1 ≤ 140737488355328 := by omega
    have HO := Lib.hid ho
    have HOA := Lib.hid (fun z : Int => ho.alloc (.cells #[.int .u8 z] 5))
    have HBA := Lib.hid (fun z : Int => hb.trans (((Below.refl wr.heap.size wr).alloc (Nat.le_refl _) (.cells #[.int .u8 z] 5)).mono hb.size))
    clear hx ho hb
    by_cases h1 : 65 ≤ (s[k]'hlt).toNat
    · have q1 : decide (((s[k]'hlt).toNat : Int) < 65) = false := decide_eq_false (by omega)
      have q1' : decide (65 ≤ ((s[k]'hlt).toNat : Int)) = true := decide_eq_true (by omega)
      by_cases h2 : (s[k]'hlt).toNat ≤ 90
      · have q2 : decide (90 < ((s[k]'hlt).toNat : Int)) = false := decide_eq_false (by omega)
        have q2' : decide (((s[k]'hlt).toNat : Int) ≤ 90) = true := decide_eq_true (by omega)
        have hw8 : IntKind.u8.wrap (((s[k]'hlt).toNat : Int) + 32) = ((s[k]'hlt).toNat : Int) + 32 := by
         have := (s[k]'hlt).toNat_lt
         rw [show IntKind.u8.wrap (((s[k]'hlt).toNat : Int) + 32) = (((s[k]'hlt).toNat : Int) + 32) % 256 from rfl]
         omega
        have HW : Hid (((lowU (s[k]'hlt)).toNat : Int) = ((s[k]'hlt).toNat : Int) + 32) := Lib.hid (by rw [HV.out, if_pos ⟨h1, h2⟩])
        have HO2 := Lib.hid (HOA.out (((s[k]'hlt).toNat : Int) + 32))
        have HB2 := Lib.hid (HBA.out (((s[k]'hlt).toNat : Int) + 32))
        clear h1 h2 HOA HBA HV
        go_wp2_with (at_builtin; go_loud (refine wpList_append_S rfl (.tmp 23) (.tmp 25) 48 48 rfl i0 (.int .u8 0) 1 (.slice 5) Tryz.underlying48 Tryz.underlying48 (fun _ h => by cases h) hi hz0 hz1 hz2 rfl rfl rfl HO2.out (Src.new (us := [.int .u8 (((s[k]'hlt).toNat : Int) + 32)]) rfl (by simp [Value.oneCell'])) hmax hbyte HB2.out.size ?_; intro A9 c9 w9 ho9 hg9 hw9))
        have HO9 : Hid (OwnS w9 w.heap.size 5 1 (.slice A9 (k + 1) c9) (k + 1) ((bytesOf (bk ((s.data.toList.map lowU).take (k + 1)))).map (Value.int .u8))) := Lib.hid (by
         rw [HLT.out, bytesBk_snoc, HW.out]
         exact ho9)
        have HB9 := Lib.hid (HB2.out.grown hg9 HB2.out.size (fun j hj => (HO2.out.lt j hj).1))
        clear ho9 hg9 hw9
        go_roundw
        case rel => exact ⟨k + 1, _, rfl, rfl, by omega, HO9.out, HB9.out⟩
        case measure => simp [intOf]; omega
      · have q2 : decide (90 < ((s[k]'hlt).toNat : Int)) = true := decide_eq_true (by omega)
        have q2' : decide (((s[k]'hlt).toNat : Int) ≤ 90) = false := decide_eq_false (by omega)
        have HW : Hid (((lowU (s[k]'hlt)).toNat : Int) = ((s[k]'hlt).toNat : Int)) := Lib.hid (by rw [HV.out, if_neg (fun h => h2 h.2)])
        have HO2 := Lib.hid (HOA.out (((s[k]'hlt).toNat : Int)))
        have HB2 := Lib.hid (HBA.out (((s[k]'hlt).toNat : Int)))
        clear h1 h2 HOA HBA HV
        go_wp2_with (at_builtin; go_loud (refine wpList_append_S rfl (.tmp 23) (.tmp 25) 48 48 rfl i0 (.int .u8 0) 1 (.slice 5) Tryz.underlying48 Tryz.underlying48 (fun _ h => by cases h) hi hz0 hz1 hz2 rfl rfl rfl HO2.out (Src.new (us := [.int .u8 (((s[k]'hlt).toNat : Int))]) rfl (by simp [Value.oneCell'])) hmax hbyte HB2.out.size ?_; intro A9 c9 w9 ho9 hg9 hw9))
        have HO9 : Hid (OwnS w9 w.heap.size 5 1 (.slice A9 (k + 1) c9) (k + 1) ((bytesOf (bk ((s.data.toList.map lowU).take (k + 1)))).map (Value.int .u8))) := Lib.hid (by
         rw [HLT.out, bytesBk_snoc, HW.out]
         exact ho9)
        have HB9 := Lib.hid (HB2.out.grown hg9 HB2.out.size (fun j hj => (HO2.out.lt j hj).1))
        clear ho9 hg9 hw9
        go_roundw
        case rel => exact ⟨k + 1, _, rfl, rfl, by omega, HO9.out, HB9.out⟩
        case measure => simp [intOf]; omega
    · have q1 : decide (((s[k]'hlt).toNat : Int) < 65) = true := decide_eq_true (by omega)
      have q1' : decide (65 ≤ ((s[k]'hlt).toNat : Int)) = false := decide_eq_false (by omega)
      have HW : Hid (((lowU (s[k]'hlt)).toNat : Int) = ((s[k]'hlt).toNat : Int)) := Lib.hid (by rw [HV.out, if_neg (fun h => h1 h.1)])
      have HO2 := Lib.hid (HOA.out (((s[k]'hlt).toNat : Int)))
      have HB2 := Lib.hid (HBA.out (((s[k]'hlt).toNat : Int)))
      clear h1 HOA HBA HV
      go_wp2_with (at_builtin; go_loud (refine wpList_append_S rfl (.tmp 23) (.tmp 25) 48 48 rfl i0 (.int .u8 0) 1 (.slice 5) Tryz.underlying48 Tryz.underlying48 (fun _ h => by cases h) hi hz0 hz1 hz2 rfl rfl rfl HO2.out (Src.new (us := [.int .u8 (((s[k]'hlt).toNat : Int))]) rfl (by simp [Value.oneCell'])) hmax hbyte HB2.out.size ?_; intro A9 c9 w9 ho9 hg9 hw9))
      have HO9 : Hid (OwnS w9 w.heap.size 5 1 (.slice A9 (k + 1) c9) (k + 1) ((bytesOf (bk ((s.data.toList.map lowU).take (k + 1)))).map (Value.int .u8))) := Lib.hid (by
       rw [HLT.out, bytesBk_snoc, HW.out]
       exact ho9)
      have HB9 := Lib.hid (HB2.out.grown hg9 HB2.out.size (fun j hj => (HO2.out.lt j hj).1))
      clear ho9 hg9 hw9
      go_roundw
      case rel => exact ⟨k + 1, _, rfl, rfl, by omega, HO9.out, HB9.out⟩
      case measure => simp [intOf]; omega
  · obtain rfl : k = s.size := by omega
    have d0 : decide ((s.size : Int) < (s.size : Int)) = false := decide_eq_false (by omega)
    have d0' : decide (s.size < s.size) = false := decide_eq_false (by omega)
    have hln : (s.data.toList.map lowU).length = s.size := by rw [List.length_map, ← Lib.size_eq]
    have hta : (s.data.toList.map lowU).take s.size = s.data.toList.map lowU := List.take_of_length_le (by omega)
    rw [hta] at ho
    have hcv := run_strU Av s.size cv (s.data.toList.map lowU) wr ho.ints hln
    rw [HR.out] at hcv
    have HB := Lib.hid hb
    clear ho hb hta hln
    go_wp2
    go_ret
    exact ⟨rfl, HB.out⟩
theorem mode_tl (s : ByteArray) : s.toList = s.data.toList := Lib.toList_data s
set_option maxRecDepth 100000 in
theorem mode_any (s : ByteArray) (w : World) : Calls Tryz.prog 67 #[.string s] w fun e w' => e = .returned (.bool (modeB s.data.toList)) ∧ w' = w := by
 unfold modeB
 have HT := Lib.hid (mode_tl s)
 generalize hl : s.data.toList = l at *
 rw [← HT.out]
 clear hl HT
 cases h1 : (s.toList == [49, 48, 48, 54, 52, 52])
 · cases h2 : (s.toList == [49, 48, 48, 55, 53, 53])
   · cases h3 : (s.toList == [49, 50, 48, 48, 48, 48])
     · cases h4 : (s.toList == [52, 48, 48, 48, 48])
       · go_enter Tryz.func67, Tryz.ntmps67
         go_wp2
         go_ret
         exact ⟨rfl, rfl⟩
       · go_enter Tryz.func67, Tryz.ntmps67
         go_wp2
         go_ret
         exact ⟨rfl, rfl⟩
     · go_enter Tryz.func67, Tryz.ntmps67
       go_wp2
       go_ret
       exact ⟨rfl, rfl⟩
   · go_enter Tryz.func67, Tryz.ntmps67
     go_wp2
     go_ret
     exact ⟨rfl, rfl⟩
 · go_enter Tryz.func67, Tryz.ntmps67
   go_wp2
   go_ret
   exact ⟨rfl, rfl⟩
/-- The document's way to say whether a name may be. -/
theorem partU_doc (l : List UInt8) : partU l = (!(l == []) && (!(l == [46]) && (!(l == [46, 46]) && (!(l.map lowU == [46, 103, 105, 116]) && withoutB l [47, 0])))) := by
 unfold partU withoutB
 rw [containsAny_any']
 have : (l.any fun b => slashQ b.toNat) = l.any fun x => [(47 : UInt8), 0].contains x := by
  congr 1
  funext b
  unfold slashQ
  simp only [List.contains_cons, List.contains_nil, Bool.or_false]
  rw [Bool.eq_iff_iff]
  simp only [Bool.or_eq_true, beq_iff_eq]
  constructor
  · rintro (h | h)
    · left; exact UInt8.toNat_inj.1 h
    · right; exact UInt8.toNat_inj.1 h
  · rintro (h | h)
    · left; rw [h]; rfl
    · right; rw [h]; rfl
 rw [this]
 cases (l.any fun x => [(47 : UInt8), 0].contains x) <;> cases (Lib.validD l) <;> cases (l == []) <;> cases (l == [46]) <;> cases (l == [46, 46]) <;> cases (l.map lowU == [46, 103, 105, 116]) <;> rfl
set_option maxRecDepth 100000 in
theorem part_any (s : ByteArray) (w : World) (hs : s.size ≤ 140737488351300) : Calls Tryz.prog 68 #[.string s] w fun e w' => e = .returned (.bool (partU s.data.toList)) ∧ Below w.heap.size w w' := by
 have HS := Lib.hid (fun w => small_any s w hs)
 have HW := Lib.hid (fun w => without_any s ⟨#[47, 0]⟩ w (by omega) (by decide))
 change Hid (∀ w, Calls Tryz.prog 74 #[.string s, .string ⟨#[47, 0]⟩] w fun e w' => e = .returned (.bool (withoutB s.data.toList [47, 0])) ∧ Below w.heap.size w w') at HW
 rw [partU_doc]
 have HT := Lib.hid (mode_tl s)
 have hsl : (bk (s.data.toList.map lowU)).toList = s.data.toList.map lowU := by rw [Lib.toList_data, bk_list]
 rw [← hsl]
 generalize bk (s.data.toList.map lowU) = SM at *
 generalize withoutB s.data.toList [47, 0] = WB at *
 rw [← HT.out]
 clear hsl HT
 cases h1 : (s.toList == [])
 · cases h2 : (s.toList == [46])
   · cases h3 : (s.toList == [46, 46])
     · cases h4 : (SM.toList == [46, 103, 105, 116])
       · go_enter Tryz.func68, Tryz.ntmps68
         go_wp2_with (first
          | (have hx := hb1; go_at_call 74; refine (HW.out w1).mono ?_; rintro e w2 ⟨rfl, hb2⟩)
          | (go_at_call 88; refine (HS.out w).mono ?_; rintro e w1 ⟨rfl, hb1⟩))
         go_ret
         exact ⟨by simp, hb1.trans (hb2.mono hb1.size)⟩
       · go_enter Tryz.func68, Tryz.ntmps68
         go_wp2_with (go_at_call 88; refine (HS.out w).mono ?_; rintro e w1 ⟨rfl, hb1⟩)
         go_ret
         exact ⟨rfl, hb1⟩
     · go_enter Tryz.func68, Tryz.ntmps68
       go_wp2
       go_ret
       exact ⟨rfl, Below.refl _ _⟩
   · go_enter Tryz.func68, Tryz.ntmps68
     go_wp2
     go_ret
     exact ⟨rfl, Below.refl _ _⟩
 · go_enter Tryz.func68, Tryz.ntmps68
   go_wp2
   go_ret
   exact ⟨rfl, Below.refl _ _⟩
end Go.Proofs.YtihanglnjghcfaaGreatDoor
namespace Go.Proofs.YtihanglnjghcfaaGreatDoor
open Go.RowKit
set_option linter.unusedVariables false
set_option linter.unusedSimpArgs false

theorem getD_some {vs : Array Value} {j : Nat} (hj : j < vs.size) : vs[j]? = some (vs.getD j undef) := by
 simp [hj]
/-- Cells of the document's object. -/
def zeroV : Array Value := #[.int .i64 0, .string ⟨#[]⟩, .slice none 0 0, .string ⟨#[]⟩, .slice none 0 0, .string ⟨#[]⟩, .string ⟨#[]⟩, .string ⟨#[]⟩, .string ⟨#[]⟩, .int .i64 0, .string ⟨#[]⟩, .string ⟨#[]⟩]
def comV (t : ByteArray) (vP : Value) (a c m : ByteArray) : Array Value := #[.int .i64 1, .string ⟨#[]⟩, .slice none 0 0, .string t, vP, .string a, .string c, .string ⟨#[]⟩, .string ⟨#[]⟩, .int .i64 0, .string ⟨#[]⟩, .string m]
def tagV (o n : ByteArray) (ty : Int) (g m : ByteArray) : Array Value := #[.int .i64 4, .string ⟨#[]⟩, .slice none 0 0, .string ⟨#[]⟩, .slice none 0 0, .string ⟨#[]⟩, .string ⟨#[]⟩, .string o, .string n, .int .i64 ty, .string g, .string m]
def treV (k : Int) (d : ByteArray) (vL : Value) : Array Value := #[.int .i64 k, .string d, vL, .string ⟨#[]⟩, .slice none 0 0, .string ⟨#[]⟩, .string ⟨#[]⟩, .string ⟨#[]⟩, .string ⟨#[]⟩, .int .i64 0, .string ⟨#[]⟩, .string ⟨#[]⟩]
theorem info_o8 : (Tryz.prog.info? 67).map (·.size) = some 12 := by kernel_rfl
def CelV (w : World) (g : Nat) (V : Array Value) : Prop := Cel w g 67 12 (fun j => V.getD j undef)
theorem CelV.new (w : World) (V : Array Value) (hV : V.size = 12) : CelV (w.alloc (.cells V 67)) w.heap.size V := by
 have h := Cel.new w 67 V (fun j => V.getD j undef) (fun i hi => getD_some hi)
 rw [hV] at h
 exact h
theorem CelV.stored {w : World} {g : Nat} {V : Array Value} {f : Nat → Value} (hs : V.size = 12) (h : Cel w g 67 12 (fun j => if 0 ≤ j ∧ j < 0 + V.size then V.getD (j - 0) undef else f j)) : CelV w g V :=
 h.congr fun i hi => by rw [if_pos ⟨by omega, by omega⟩, Nat.sub_zero]
/-- What the reading holds: the answer's cells, the object's. -/
structure RSt (w0 w : World) (g1 g2 : Nat) (V : Array Value) : Prop where
 low : Below w0.heap.size w0 w
 e1 : w0.heap.size ≤ g1
 lt : g1 < g2
 res : CelV w g1 zeroV
 obj : CelV w g2 V
section
variable {w0 w w' : World} {g1 g2 : Nat} {V V' : Array Value}
theorem RSt.below (h : RSt w0 w g1 g2 V) (hb : Below w.heap.size w w') : RSt w0 w' g1 g2 V :=
 ⟨h.low.trans (hb.mono h.low.size), h.e1, h.lt, h.res.below hb h.res.blk, h.obj.below hb h.obj.blk⟩
theorem RSt.drew (h : RSt w0 w g1 g2 V) : RSt w0 w.drew g1 g2 V := ⟨h.low.drew, h.e1, h.lt, h.res.drew, h.obj.drew⟩
theorem RSt.chgHi (h : RSt w0 w g1 g2 V) (hc : Chg (fun k => g2 + 1 ≤ k) w w') : RSt w0 w' g1 g2 V := by
 have h1 := h.e1
 have h2 := h.lt
 exact ⟨h.low.trans (hc.below h.low.size (fun i hi e => by omega)), h.e1, h.lt, h.res.chg hc (by omega), h.obj.chg hc (by omega)⟩
theorem RSt.set (h : RSt w0 w g1 g2 V) {i : Nat} {v : Value} (hf : ∀ j, j < 12 → (if j = i then v else V.getD j undef) = V'.getD j undef) : RSt w0 (w.setCell ⟨g2, i, none⟩ v) g1 g2 V' :=
 ⟨h.low.setCell (p := ⟨g2, i, none⟩) (by have := h.e1; have := h.lt; show _ ≤ g2; omega) v, h.e1, h.lt, h.res.setFar (Nat.ne_of_lt h.lt) v, (h.obj.set i v).congr hf⟩
theorem RSt.begin (w : World) (V : Array Value) (hV : V.size = 12) : RSt w ((w.alloc (.cells zeroV 67)).alloc (.cells V 67)) w.heap.size (w.heap.size + 1) V := by
 refine ⟨((Below.refl _ _).alloc (Nat.le_refl _) _).alloc (by simp) _, Nat.le_refl _, by omega, (CelV.new w zeroV rfl).alloc _, ?_⟩
 have h := CelV.new (w.alloc (.cells zeroV 67)) V hV
 simpa using h
end
theorem zeroV_one : ∀ v ∈ zeroV.toList, v.oneCell' = true := by simp [zeroV, Value.oneCell']
theorem comV_one (t : ByteArray) (A : Option Addr) (n k : Nat) (a c m : ByteArray) : ∀ v ∈ (comV t (.slice A n k) a c m).toList, v.oneCell' = true := by simp [comV, Value.oneCell']
theorem tagV_one (o n : ByteArray) (ty : Int) (g m : ByteArray) : ∀ v ∈ (tagV o n ty g m).toList, v.oneCell' = true := by simp [tagV, Value.oneCell']
theorem treV_one (k : Int) (d : ByteArray) (A : Option Addr) (n c : Nat) : ∀ v ∈ (treV k d (.slice A n c)).toList, v.oneCell' = true := by simp [treV, Value.oneCell']
/-- What the document's reading of a commit, of a tag, of a tree answers. -/
def RCommit (l : List UInt8) (w : World) (e : Ending) (w' : World) : Prop :=
 Below w.heap.size w w' ∧ ((commitF l = none ∧ e = .returned (.tuple #[.agg zeroV, .bool false])) ∨
  ∃ r A c, commitF l = some r ∧ e = .returned (.tuple #[.agg (comV (bk r.t) (.slice A r.P.length c) (bk r.a) (bk r.c) (bk r.m)), .bool true]) ∧ OwnS w' w.heap.size 9 1 (.slice A r.P.length c) r.P.length (strVs r.P))
def RTag (l : List UInt8) (w : World) (e : Ending) (w' : World) : Prop :=
 Below w.heap.size w w' ∧ ((tagF l = none ∧ e = .returned (.tuple #[.agg zeroV, .bool false])) ∨
  ∃ r, tagF l = some r ∧ e = .returned (.tuple #[.agg (tagV (bk r.o) (bk r.n) (r.k : Int) (bk r.g) (bk r.m)), .bool true]))
def RTree (l : List UInt8) (w : World) (e : Ending) (w' : World) : Prop :=
 Below w.heap.size w w' ∧ ((treeF l = none ∧ e = .returned (.tuple #[.slice none 0 0, .bool false])) ∨
  ∃ L A c, treeF l = some L ∧ e = .returned (.tuple #[.slice A L.length c, .bool true]) ∧ OwnS w' w.heap.size 116 3 (.slice A L.length c) L.length (entVs L))
end Go.Proofs.YtihanglnjghcfaaGreatDoor
namespace Go.Proofs.YtihanglnjghcfaaGreatDoor
open Go.RowKit
set_option linter.unusedVariables false
set_option linter.unusedSimpArgs false

theorem tagF_0 {s x s1 : ByteArray} (h : FieldR objectN s x false s1) : tagF s.data.toList = none := by unfold tagF; rw [h.no]
theorem tagF_1 {s x s1 : ByteArray} (h : FieldR objectN s x true s1) (hx : hashB (bytesOf x) = false) : tagF s.data.toList = none := by
 unfold tagF; rw [h.yes]
 show (if hashU x.data.toList = false then none else _) = none
 unfold hashU
 rw [bk_of, if_pos hx]
theorem tagF_2 {s x s1 xk s2 : ByteArray} (h : FieldR objectN s x true s1) (h2 : FieldR typeN s1 xk false s2) : tagF s.data.toList = none := by
 unfold tagF; rw [h.yes]
 show (if hashU x.data.toList = false then none else _) = none
 split
 · rfl
 · simp only [h2.no]
theorem tagF_3 {s x s1 xk s2 : ByteArray} (h : FieldR objectN s x true s1) (h2 : FieldR typeN s1 xk true s2) (hk : ¬ 0 < kindN xk) : tagF s.data.toList = none := by
 unfold tagF; rw [h.yes]
 show (if hashU x.data.toList = false then none else _) = none
 split
 · rfl
 · simp only [h2.yes]
   rw [bk_of, if_pos (by omega)]
theorem tagF_4 {s x s1 xk s2 x2 s3 : ByteArray} (h : FieldR objectN s x true s1) (h2 : FieldR typeN s1 xk true s2) (h3 : FieldR tagN s2 x2 false s3) : tagF s.data.toList = none := by
 unfold tagF; rw [h.yes]
 show (if hashU x.data.toList = false then none else _) = none
 split
 · rfl
 · simp only [h2.yes]
   split
   · rfl
   · simp only [h3.no]
theorem tagF_5 {s x s1 xk s2 x2 s3 : ByteArray} (h : FieldR objectN s x true s1) (h2 : FieldR typeN s1 xk true s2) (h3 : FieldR tagN s2 x2 true s3) (hl : labelB x2 = false) : tagF s.data.toList = none := by
 unfold tagF; rw [h.yes]
 show (if hashU x.data.toList = false then none else _) = none
 split
 · rfl
 · simp only [h2.yes]
   split
   · rfl
   · simp only [h3.yes]
     rw [bk_of, if_pos hl]
theorem tagF_6 {s x s1 xk s2 x2 s3 x3 s4 : ByteArray} (h : FieldR objectN s x true s1) (h2 : FieldR typeN s1 xk true s2) (h3 : FieldR tagN s2 x2 true s3) (h4 : FieldR taggerN s3 x3 false s4) : tagF s.data.toList = none := by
 unfold tagF; rw [h.yes]
 show (if hashU x.data.toList = false then none else _) = none
 split
 · rfl
 · simp only [h2.yes]
   split
   · rfl
   · simp only [h3.yes]
     split
     · rfl
     · simp only [h4.no]
theorem msgF_nil {s : ByteArray} (h : s.size = 0) : msgF s.data.toList = none := by
 rw [Lib.size_eq] at h
 rw [List.eq_nil_of_length_eq_zero h]; rfl
theorem msgF_10 {s : ByteArray} (hs : 0 < s.size) (h : s[0]'hs ≠ 10) : msgF s.data.toList = none := by
 have hx := Lib.data_getElem? s 0 hs
 cases hl : s.data.toList with
 | nil => rfl
 | cons b m =>
  rw [hl] at hx
  simp at hx
  show (if b = 10 ∧ withoutB m [0] = true then some m else none) = none
  rw [if_neg (fun hc => h (by rw [← hx]; exact hc.1))]
theorem msgF_go {s : ByteArray} (hs : 0 < s.size) (h : s[0]'hs = 10) : msgF s.data.toList = if withoutB (s.extract 1 s.size).data.toList [0] = true then some (s.extract 1 s.size).data.toList else none := by
 have hx := Lib.data_getElem? s 0 hs
 have he : (s.extract 1 s.size).data.toList = s.data.toList.drop 1 := by rw [bk_extE, bk_list]
 rw [he]
 cases hl : s.data.toList with
 | nil => rw [hl] at hx; simp at hx
 | cons b m =>
  rw [hl] at hx
  simp at hx
  rw [hx, h]
  unfold msgF
  simp
set_option maxRecDepth 100000 in
set_option maxHeartbeats 4000000 in
theorem rtag_any (s : ByteArray) (w : World) (hs : s.size ≤ 140737488351200) : Calls Tryz.prog 51 #[.string s] w (RTag s.data.toList w) := by
 have HS := Lib.hid hs
 have HPO : Hid (∀ e w', RTag s.data.toList w e w' = (Below w.heap.size w w' ∧ ((tagF s.data.toList = none ∧ e = .returned (.tuple #[.agg zeroV, .bool false])) ∨ ∃ r, tagF s.data.toList = some r ∧ e = .returned (.tuple #[.agg (tagV (bk r.o) (bk r.n) (r.k : Int) (bk r.g) (bk r.m)), .bool true])))) := Lib.hid (fun _ _ => rfl)
 generalize RTag s.data.toList w = POST at *
 have HST0 := Lib.hid (RSt.begin w (tagV ⟨#[]⟩ ⟨#[]⟩ 0 ⟨#[]⟩ ⟨#[]⟩) rfl)
 clear hs
 go_enter Tryz.func51, Tryz.ntmps51
 go_upto_region 4 with (fail)
 change Hid (RSt w ((w.alloc (.cells #[.int .i64 0, .string ⟨#[]⟩, .slice none 0 0, .string ⟨#[]⟩, .slice none 0 0, .string ⟨#[]⟩, .string ⟨#[]⟩, .string ⟨#[]⟩, .string ⟨#[]⟩, .int .i64 0, .string ⟨#[]⟩, .string ⟨#[]⟩] 67)).alloc (.cells #[.int .i64 4, .string ⟨#[]⟩, .slice none 0 0, .string ⟨#[]⟩, .slice none 0 0, .string ⟨#[]⟩, .string ⟨#[]⟩, .string ⟨#[]⟩, .string ⟨#[]⟩, .int .i64 0, .string ⟨#[]⟩, .string ⟨#[]⟩] 67)) w.heap.size (w.heap.size + 1) (tagV ⟨#[]⟩ ⟨#[]⟩ 0 ⟨#[]⟩ ⟨#[]⟩)) at HST0
 generalize hw1 : (w.alloc (.cells #[.int .i64 0, .string ⟨#[]⟩, .slice none 0 0, .string ⟨#[]⟩, .slice none 0 0, .string ⟨#[]⟩, .string ⟨#[]⟩, .string ⟨#[]⟩, .string ⟨#[]⟩, .int .i64 0, .string ⟨#[]⟩, .string ⟨#[]⟩] 67)).alloc (.cells #[.int .i64 4, .string ⟨#[]⟩, .slice none 0 0, .string ⟨#[]⟩, .slice none 0 0, .string ⟨#[]⟩, .string ⟨#[]⟩, .string ⟨#[]⟩, .string ⟨#[]⟩, .int .i64 0, .string ⟨#[]⟩, .string ⟨#[]⟩] 67) = w1 at *
 generalize hg2 : w.heap.size + 1 = g2 at HST0 ⊢
 generalize hg1 : w.heap.size = g1 at HST0 ⊢
 have HG1 := Lib.hid hg1
 clear hg1 hg2 hw1
 go_wp2_with fail
 refine (line_any s objectN w1 (by have := HS.out; omega) (by decide) (by decide)).mono ?_
 rintro e w2 ⟨x0, b0, s1, rfl, hf0, hb0⟩
 have HF0 := Lib.hid hf0
 have HST1 := Lib.hid (HST0.out.below hb0)
 have HZ1 : Hid (s1.size ≤ s.size) := Lib.hid hf0.size
 have k7 : w2.cell? ⟨g2, 7, none⟩ = some (.string ⟨#[]⟩) := HST1.out.obj.cell 7 (by decide)
 have f7 : w2.frozen? ⟨g2, 7, none⟩ = false := HST1.out.obj.frozen 7
 clear hf0 hb0 HST0
 go_upto_region 5 with (fail)
 have HST2 := Lib.hid (HST1.out.set (i := 7) (v := .string x0) (V' := tagV x0 ⟨#[]⟩ 0 ⟨#[]⟩ ⟨#[]⟩) (fun j hj => by rcases j with _ | _ | _ | _ | _ | _ | _ | _ | _ | _ | _ | _ | j <;> first | rfl | omega))
 clear k7 f7 HST1
 generalize w2.setCell ⟨g2, 7, none⟩ (.string x0) = w3 at *
 cases b0
 case false =>
  have HNO : Hid (tagF s.data.toList = none) := Lib.hid (tagF_0 HF0.out)
  have hC5 := HST2.out.res
  have HLB := Lib.hid (HST2.out.low)
  have hge1 := HST2.out.e1
  go_wp2_with (refine wpList_store_part (vs := zeroV) (off := 0) rfl (.tmp 2) (.tmp 25) rfl rfl rfl hC5 info_o8 (Nat.le_refl 12) zeroV_one ?_; intro w88 hC8 hg8 hs8; have hC9 := CelV.stored rfl hC8)
  exact bodyPost_ret (v := .tuple #[.agg zeroV, .bool false]) (results_cel2 rfl _ _ rfl rfl hC9 Tryz.underlying67 rfl info_o8 (Nat.le_refl 12) (fun j hj => getD_some hj)) rfl (by rw [HPO.out]; exact ⟨HLB.out.grown hg8 HLB.out.size (fun k h => by injection h with h; rw [← h]; exact hge1), .inl ⟨HNO.out, rfl⟩⟩)
 case true =>
 have HXZ0 : Hid (x0.size ≤ s.size) := Lib.hid HF0.out.xsize.1
 have k7 : w3.cell? ⟨g2, 7, none⟩ = some (.string x0) := HST2.out.obj.cell 7 (by decide)
 have HH0 := Lib.hid (hashR_any x0 w3 (by have := HXZ0.out; have := HS.out; omega))
 go_wp2_with fail
 refine HH0.out.mono ?_
 rintro e w4 ⟨rfl, hb4⟩
 have HST3 := Lib.hid (HST2.out.below hb4)
 clear hb4 k7 HST2 HH0
 cases hx0 : hashB (bytesOf x0)
 case false =>
  have HNO : Hid (tagF s.data.toList = none) := Lib.hid (tagF_1 HF0.out hx0)
  have hC5 := HST3.out.res
  have HLB := Lib.hid (HST3.out.low)
  have hge1 := HST3.out.e1
  go_wp2_with (refine wpList_store_part (vs := zeroV) (off := 0) rfl (.tmp 2) (.tmp 25) rfl rfl rfl hC5 info_o8 (Nat.le_refl 12) zeroV_one ?_; intro w88 hC8 hg8 hs8; have hC9 := CelV.stored rfl hC8)
  exact bodyPost_ret (v := .tuple #[.agg zeroV, .bool false]) (results_cel2 rfl _ _ rfl rfl hC9 Tryz.underlying67 rfl info_o8 (Nat.le_refl 12) (fun j hj => getD_some hj)) rfl (by rw [HPO.out]; exact ⟨HLB.out.grown hg8 HLB.out.size (fun k h => by injection h with h; rw [← h]; exact hge1), .inl ⟨HNO.out, rfl⟩⟩)
 case true =>
 have HX0 := Lib.hid hx0
 clear hx0
 go_wp2_with fail
 refine (line_any s1 typeN w4 (by have := HZ1.out; have := HS.out; omega) (by decide) (by decide)).mono ?_
 rintro e w5 ⟨xk, b1, s2, rfl, hf1, hb5⟩
 have HF1 := Lib.hid hf1
 have HST4 := Lib.hid (HST3.out.below hb5)
 have HZ2 : Hid (s2.size ≤ s.size) := Lib.hid (Nat.le_trans hf1.size HZ1.out)
 clear hf1 hb5 HST3
 go_wp2_with fail
 refine (kindR_any xk w5).mono ?_
 rintro e w6 ⟨rfl, hb6⟩
 have HST5 := Lib.hid (HST4.out.below hb6)
 clear hb6 HST4
 cases b1
 case false =>
  have HNO : Hid (tagF s.data.toList = none) := Lib.hid (tagF_2 HF0.out HF1.out)
  have hC5 := HST5.out.res
  have HLB := Lib.hid (HST5.out.low)
  have hge1 := HST5.out.e1
  go_wp2_with (refine wpList_store_part (vs := zeroV) (off := 0) rfl (.tmp 2) (.tmp 43) rfl rfl rfl hC5 info_o8 (Nat.le_refl 12) zeroV_one ?_; intro w88 hC8 hg8 hs8; have hC9 := CelV.stored rfl hC8)
  exact bodyPost_ret (v := .tuple #[.agg zeroV, .bool false]) (results_cel2 rfl _ _ rfl rfl hC9 Tryz.underlying67 rfl info_o8 (Nat.le_refl 12) (fun j hj => getD_some hj)) rfl (by rw [HPO.out]; exact ⟨HLB.out.grown hg8 HLB.out.size (fun k h => by injection h with h; rw [← h]; exact hge1), .inl ⟨HNO.out, rfl⟩⟩)
 case true =>
 by_cases hk : 0 < kindN xk
 case neg =>
  have dk : decide (0 < kindN xk) = false := decide_eq_false hk
  have HK := Lib.hid hk
  clear hk
  have HNO : Hid (tagF s.data.toList = none) := Lib.hid (tagF_3 HF0.out HF1.out HK.out)
  have hC5 := HST5.out.res
  have HLB := Lib.hid (HST5.out.low)
  have hge1 := HST5.out.e1
  go_wp2_with (refine wpList_store_part (vs := zeroV) (off := 0) rfl (.tmp 2) (.tmp 43) rfl rfl rfl hC5 info_o8 (Nat.le_refl 12) zeroV_one ?_; intro w88 hC8 hg8 hs8; have hC9 := CelV.stored rfl hC8)
  exact bodyPost_ret (v := .tuple #[.agg zeroV, .bool false]) (results_cel2 rfl _ _ rfl rfl hC9 Tryz.underlying67 rfl info_o8 (Nat.le_refl 12) (fun j hj => getD_some hj)) rfl (by rw [HPO.out]; exact ⟨HLB.out.grown hg8 HLB.out.size (fun k h => by injection h with h; rw [← h]; exact hge1), .inl ⟨HNO.out, rfl⟩⟩)
 case pos =>
 have dk : decide (0 < kindN xk) = true := decide_eq_true hk
 have HK := Lib.hid hk
 have k9 : w6.cell? ⟨g2, 9, none⟩ = some (.int .i64 0) := HST5.out.obj.cell 9 (by decide)
 have f9 : w6.frozen? ⟨g2, 9, none⟩ = false := HST5.out.obj.frozen 9
 clear hk
 go_upto_region 12 with (fail)
 have HST6 := Lib.hid (HST5.out.set (i := 9) (v := .int .i64 (kindN xk : Int)) (V' := tagV x0 ⟨#[]⟩ (kindN xk : Int) ⟨#[]⟩ ⟨#[]⟩) (fun j hj => by rcases j with _ | _ | _ | _ | _ | _ | _ | _ | _ | _ | _ | _ | j <;> first | rfl | omega))
 clear k9 f9 HST5 dk
 generalize w6.setCell ⟨g2, 9, none⟩ (.int .i64 (kindN xk : Int)) = w7 at *
 generalize hKN : kindN xk = KN at *
 have HKN := Lib.hid hKN
 clear hKN
 go_wp2_with fail
 refine (line_any s2 tagN w7 (by have := HZ2.out; have := HS.out; omega) (by decide) (by decide)).mono ?_
 rintro e w8 ⟨x2, b2, s3, rfl, hf2, hb8⟩
 have HF2 := Lib.hid hf2
 have HST7 := Lib.hid (HST6.out.below hb8)
 have HZ3 : Hid (s3.size ≤ s.size) := Lib.hid (Nat.le_trans hf2.size HZ2.out)
 have k8 : w8.cell? ⟨g2, 8, none⟩ = some (.string ⟨#[]⟩) := HST7.out.obj.cell 8 (by decide)
 have f8 : w8.frozen? ⟨g2, 8, none⟩ = false := HST7.out.obj.frozen 8
 clear hf2 hb8 HST6
 go_upto_region 13 with (fail)
 have HST8 := Lib.hid (HST7.out.set (i := 8) (v := .string x2) (V' := tagV x0 x2 (KN : Int) ⟨#[]⟩ ⟨#[]⟩) (fun j hj => by rcases j with _ | _ | _ | _ | _ | _ | _ | _ | _ | _ | _ | _ | j <;> first | rfl | omega))
 clear k8 f8 HST7
 generalize w8.setCell ⟨g2, 8, none⟩ (.string x2) = w9 at *
 cases b2
 case false =>
  have HNO : Hid (tagF s.data.toList = none) := Lib.hid (tagF_4 HF0.out HF1.out HF2.out)
  have hC5 := HST8.out.res
  have HLB := Lib.hid (HST8.out.low)
  have hge1 := HST8.out.e1
  go_wp2_with (refine wpList_store_part (vs := zeroV) (off := 0) rfl (.tmp 2) (.tmp 61) rfl rfl rfl hC5 info_o8 (Nat.le_refl 12) zeroV_one ?_; intro w88 hC8 hg8 hs8; have hC9 := CelV.stored rfl hC8)
  exact bodyPost_ret (v := .tuple #[.agg zeroV, .bool false]) (results_cel2 rfl _ _ rfl rfl hC9 Tryz.underlying67 rfl info_o8 (Nat.le_refl 12) (fun j hj => getD_some hj)) rfl (by rw [HPO.out]; exact ⟨HLB.out.grown hg8 HLB.out.size (fun k h => by injection h with h; rw [← h]; exact hge1), .inl ⟨HNO.out, rfl⟩⟩)
 case true =>
 have HXZ2 : Hid (x2.size ≤ s.size) := Lib.hid (by have := HF2.out.xsize.1; have := HZ2.out; omega)
 have k8 : w9.cell? ⟨g2, 8, none⟩ = some (.string x2) := HST8.out.obj.cell 8 (by decide)
 have HH2 := Lib.hid (tagName_any x2 w9 (by have := HXZ2.out; have := HS.out; omega))
 go_wp2_with fail
 refine HH2.out.mono ?_
 rintro e w10 ⟨rfl, hb10⟩
 have HST9 := Lib.hid (HST8.out.below hb10)
 clear hb10 k8 HST8 HH2
 cases hx2 : labelB x2
 case false =>
  have HNO : Hid (tagF s.data.toList = none) := Lib.hid (tagF_5 HF0.out HF1.out HF2.out hx2)
  have hC5 := HST9.out.res
  have HLB := Lib.hid (HST9.out.low)
  have hge1 := HST9.out.e1
  go_wp2_with (refine wpList_store_part (vs := zeroV) (off := 0) rfl (.tmp 2) (.tmp 61) rfl rfl rfl hC5 info_o8 (Nat.le_refl 12) zeroV_one ?_; intro w88 hC8 hg8 hs8; have hC9 := CelV.stored rfl hC8)
  exact bodyPost_ret (v := .tuple #[.agg zeroV, .bool false]) (results_cel2 rfl _ _ rfl rfl hC9 Tryz.underlying67 rfl info_o8 (Nat.le_refl 12) (fun j hj => getD_some hj)) rfl (by rw [HPO.out]; exact ⟨HLB.out.grown hg8 HLB.out.size (fun k h => by injection h with h; rw [← h]; exact hge1), .inl ⟨HNO.out, rfl⟩⟩)
 case true =>
 have HX2 := Lib.hid hx2
 clear hx2
 go_wp2_with fail
 refine (line_any s3 taggerN w10 (by have := HZ3.out; have := HS.out; omega) (by decide) (by decide)).mono ?_
 rintro e w11 ⟨x3, b3, s4, rfl, hf3, hb11⟩
 have HF3 := Lib.hid hf3
 have HST10 := Lib.hid (HST9.out.below hb11)
 have HZ4 : Hid (s4.size ≤ s.size) := Lib.hid (Nat.le_trans hf3.size HZ3.out)
 have k10 : w11.cell? ⟨g2, 10, none⟩ = some (.string ⟨#[]⟩) := HST10.out.obj.cell 10 (by decide)
 have f10 : w11.frozen? ⟨g2, 10, none⟩ = false := HST10.out.obj.frozen 10
 clear hf3 hb11 HST9
 go_upto_region 16 with (fail)
 have HST11 := Lib.hid (HST10.out.set (i := 10) (v := .string x3) (V' := tagV x0 x2 (KN : Int) x3 ⟨#[]⟩) (fun j hj => by rcases j with _ | _ | _ | _ | _ | _ | _ | _ | _ | _ | _ | _ | j <;> first | rfl | omega))
 clear k10 f10 HST10
 generalize w11.setCell ⟨g2, 10, none⟩ (.string x3) = w12 at *
 cases b3
 case false =>
  have HNO : Hid (tagF s.data.toList = none) := Lib.hid (tagF_6 HF0.out HF1.out HF2.out HF3.out)
  have hC5 := HST11.out.res
  have HLB := Lib.hid (HST11.out.low)
  have hge1 := HST11.out.e1
  go_wp2_with (refine wpList_store_part (vs := zeroV) (off := 0) rfl (.tmp 2) (.tmp 93) rfl rfl rfl hC5 info_o8 (Nat.le_refl 12) zeroV_one ?_; intro w88 hC8 hg8 hs8; have hC9 := CelV.stored rfl hC8)
  exact bodyPost_ret (v := .tuple #[.agg zeroV, .bool false]) (results_cel2 rfl _ _ rfl rfl hC9 Tryz.underlying67 rfl info_o8 (Nat.le_refl 12) (fun j hj => getD_some hj)) rfl (by rw [HPO.out]; exact ⟨HLB.out.grown hg8 HLB.out.size (fun k h => by injection h with h; rw [← h]; exact hge1), .inl ⟨HNO.out, rfl⟩⟩)
 case true =>
 have HXZ3 : Hid (x3.size ≤ s.size) := Lib.hid (by have := HF3.out.xsize.1; have := HZ3.out; omega)
 have HALL := Lib.hid (tagF_all HF0.out HF1.out HF2.out HF3.out (by rw [HKN.out]; exact HK.out))
 have k10 : w12.cell? ⟨g2, 10, none⟩ = some (.string x3) := HST11.out.obj.cell 10 (by decide)
 have HH3 := Lib.hid (personR_any x3 w12 (by have := HXZ3.out; have := HS.out; omega))
 unfold PersPost at HH3
 go_wp2_with fail
 refine HH3.out.mono ?_
 rintro e w13 ⟨rfl, hb13⟩
 have HST12 := Lib.hid (HST11.out.below hb13)
 clear hb13 k10 HST11 HH3
 cases hx3 : persB x3
 case false =>
  have HNO : Hid (tagF s.data.toList = none) := Lib.hid (by rw [HALL.out, if_pos (.inr (.inr hx3))])
  have hC5 := HST12.out.res
  have HLB := Lib.hid (HST12.out.low)
  have hge1 := HST12.out.e1
  go_wp2_with (refine wpList_store_part (vs := zeroV) (off := 0) rfl (.tmp 2) (.tmp 93) rfl rfl rfl hC5 info_o8 (Nat.le_refl 12) zeroV_one ?_; intro w88 hC8 hg8 hs8; have hC9 := CelV.stored rfl hC8)
  exact bodyPost_ret (v := .tuple #[.agg zeroV, .bool false]) (results_cel2 rfl _ _ rfl rfl hC9 Tryz.underlying67 rfl info_o8 (Nat.le_refl 12) (fun j hj => getD_some hj)) rfl (by rw [HPO.out]; exact ⟨HLB.out.grown hg8 HLB.out.size (fun k h => by injection h with h; rw [← h]; exact hge1), .inl ⟨HNO.out, rfl⟩⟩)
 case true =>
 have HX3 := Lib.hid hx3
 clear hx3
 by_cases hz : s4.size = 0
 case pos =>
  have HZ := Lib.hid hz
  have d0 : ((s4.size : Int) == 0) = true := by rw [beq_iff_eq]; omega
  clear hz
  have HNO : Hid (tagF s.data.toList = none) := Lib.hid (by rw [HALL.out, msgF_nil HZ.out]; split <;> rfl)
  have hC5 := HST12.out.res
  have HLB := Lib.hid (HST12.out.low)
  have hge1 := HST12.out.e1
  go_wp2_with (refine wpList_store_part (vs := zeroV) (off := 0) rfl (.tmp 2) (.tmp 93) rfl rfl rfl hC5 info_o8 (Nat.le_refl 12) zeroV_one ?_; intro w88 hC8 hg8 hs8; have hC9 := CelV.stored rfl hC8)
  exact bodyPost_ret (v := .tuple #[.agg zeroV, .bool false]) (results_cel2 rfl _ _ rfl rfl hC9 Tryz.underlying67 rfl info_o8 (Nat.le_refl 12) (fun j hj => getD_some hj)) rfl (by rw [HPO.out]; exact ⟨HLB.out.grown hg8 HLB.out.size (fun k h => by injection h with h; rw [← h]; exact hge1), .inl ⟨HNO.out, rfl⟩⟩)
 case neg =>
 have hpos : 0 < s4.size := by omega
 have d0 : ((s4.size : Int) == 0) = false := by rw [beq_eq_false_iff_ne]; omega
 clear hz
 by_cases h10 : s4[0]'hpos = 10
 case neg =>
  have HNM := Lib.hid (msgF_10 hpos h10)
  have q : ((((s4[0]'hpos).toNat : Nat) : Int) == 10) = false := by
   rw [beq_eq_false_iff_ne]
   intro h
   exact h10 (UInt8.toNat_inj.1 (by show _ = 10; omega))
  have q' : ((((s4[0]'hpos).toNat : Nat) : Int) != 10) = true := by unfold bne; rw [q]; rfl
  clear h10
  have HNO : Hid (tagF s.data.toList = none) := Lib.hid (by rw [HALL.out, HNM.out]; split <;> rfl)
  have hC5 := HST12.out.res
  have HLB := Lib.hid (HST12.out.low)
  have hge1 := HST12.out.e1
  go_wp2_with (refine wpList_store_part (vs := zeroV) (off := 0) rfl (.tmp 2) (.tmp 93) rfl rfl rfl hC5 info_o8 (Nat.le_refl 12) zeroV_one ?_; intro w88 hC8 hg8 hs8; have hC9 := CelV.stored rfl hC8)
  exact bodyPost_ret (v := .tuple #[.agg zeroV, .bool false]) (results_cel2 rfl _ _ rfl rfl hC9 Tryz.underlying67 rfl info_o8 (Nat.le_refl 12) (fun j hj => getD_some hj)) rfl (by rw [HPO.out]; exact ⟨HLB.out.grown hg8 HLB.out.size (fun k h => by injection h with h; rw [← h]; exact hge1), .inl ⟨HNO.out, rfl⟩⟩)
 case pos =>
 have HNM := Lib.hid (msgF_go hpos h10)
 have q : ((((s4[0]'hpos).toNat : Nat) : Int) == 10) = true := by rw [h10]; rfl
 have q' : ((((s4[0]'hpos).toNat : Nat) : Int) != 10) = false := by unfold bne; rw [q]; rfl
 have h1 : (1 : Int) ≤ (s4.size : Int) := by omega
 have hez : (s4.extract 1 s4.size).size ≤ s.size := by rw [ByteArray.size_extract]; have := HZ4.out; omega
 have HWO := Lib.hid (without_any (s4.extract 1 s4.size) ⟨#[0]⟩ w13 (by have := HS.out; omega) (by decide))
 change Hid (Calls Tryz.prog 74 #[.string (s4.extract 1 s4.size), .string ⟨#[0]⟩] w13 fun e w' => e = .returned (.bool (withoutB (s4.extract 1 s4.size).data.toList [0])) ∧ Below w13.heap.size w13 w') at HWO
 clear h10 hez
 go_wp2_with fail
 refine HWO.out.mono ?_
 rintro e w14 ⟨rfl, hb14⟩
 have HST13 := Lib.hid (HST12.out.below hb14)
 clear hb14 HST12 HWO
 cases hm : withoutB (s4.extract 1 s4.size).data.toList [0]
 case false =>
  have HNO : Hid (tagF s.data.toList = none) := Lib.hid (by rw [HALL.out, HNM.out, hm]; split <;> rfl)
  have hC5 := HST13.out.res
  have HLB := Lib.hid (HST13.out.low)
  have hge1 := HST13.out.e1
  go_wp2_with (refine wpList_store_part (vs := zeroV) (off := 0) rfl (.tmp 2) (.tmp 93) rfl rfl rfl hC5 info_o8 (Nat.le_refl 12) zeroV_one ?_; intro w88 hC8 hg8 hs8; have hC9 := CelV.stored rfl hC8)
  exact bodyPost_ret (v := .tuple #[.agg zeroV, .bool false]) (results_cel2 rfl _ _ rfl rfl hC9 Tryz.underlying67 rfl info_o8 (Nat.le_refl 12) (fun j hj => getD_some hj)) rfl (by rw [HPO.out]; exact ⟨HLB.out.grown hg8 HLB.out.size (fun k h => by injection h with h; rw [← h]; exact hge1), .inl ⟨HNO.out, rfl⟩⟩)
 case true =>
 have HYES : Hid (tagF s.data.toList = some ⟨x0.data.toList, KN, x2.data.toList, x3.data.toList, (s4.extract 1 s4.size).data.toList⟩) := Lib.hid (by
  rw [HALL.out, HNM.out, hm, HKN.out, if_neg (by rintro (h | h | h); exact absurd (HX0.out.symm.trans h) (by decide); exact absurd (HX2.out.symm.trans h) (by decide); exact absurd (HX3.out.symm.trans h) (by decide))]; rfl)
 have k11 : w14.cell? ⟨g2, 11, none⟩ = some (.string ⟨#[]⟩) := HST13.out.obj.cell 11 (by decide)
 have f11 : w14.frozen? ⟨g2, 11, none⟩ = false := HST13.out.obj.frozen 11
 clear hm
 go_upto_region 19 with (fail)
 have HST14 := Lib.hid (HST13.out.set (i := 11) (v := .string (s4.extract 1 s4.size)) (V' := tagV x0 x2 (KN : Int) x3 (s4.extract 1 s4.size)) (fun j hj => by rcases j with _ | _ | _ | _ | _ | _ | _ | _ | _ | _ | _ | _ | j <;> first | rfl | omega))
 clear k11 f11 HST13
 generalize hM : s4.extract 1 s4.size = M at *
 clear hM q q' d0 h1
 generalize w14.setCell ⟨g2, 11, none⟩ (.string M) = w15 at *
 have hCo := HST14.out.obj
 have hC5 := HST14.out.res
 have HLB := Lib.hid HST14.out.low
 have hge1 := HST14.out.e1
 go_wp2_with (first
  | (refine wpList_load_part (vs := tagV x0 x2 (KN : Int) x3 M) (off := 0) rfl (.tmp 4) rfl rfl hCo Tryz.underlying67 rfl info_o8 (Nat.le_refl 12) (fun j hj => by rw [Nat.zero_add]; exact getD_some hj) ?_)
  | (refine wpList_store_part (vs := tagV x0 x2 (KN : Int) x3 M) (off := 0) rfl (.tmp 2) (.tmp 97) rfl rfl rfl hC5 info_o8 (Nat.le_refl 12) (tagV_one _ _ _ _ _) ?_; intro w88 hC8 hg8 hs8; have hC9 := CelV.stored rfl hC8))
 exact bodyPost_ret (v := .tuple #[.agg (tagV x0 x2 (KN : Int) x3 M), .bool true]) (results_cel2 rfl _ _ rfl rfl hC9 Tryz.underlying67 rfl info_o8 (Nat.le_refl 12) (fun j hj => getD_some hj)) rfl (by rw [HPO.out]; exact ⟨HLB.out.grown hg8 HLB.out.size (fun k h => by injection h with h; rw [← h]; exact hge1), .inr ⟨_, HYES.out, by simp only [bk_of]⟩⟩)
end Go.Proofs.YtihanglnjghcfaaGreatDoor
