/- Small functions that reading a tree asks: bytes.IndexByte, zero, named. -/
import Derived.Test.YtihanglnjghcfaaGreatDoorGLn6
import Derived.Lib.BytesEntry
import Derived.Test.YtihanglnjghcfaaGreatDoorGLn0
import Derived.BigQuiet
import Derived.Test.YtihanglnjghcfaaGreatDoorGLn3
import Derived.Maps.Own
import Derived.Maps.Views
import Derived.Maps.OwnOps
import Derived.Test.YtihanglnjghcfaaGreatDoorGLn2
import Derived.Test.YtihanglnjghcfaaGreatDoorGLn1
namespace Go.Proofs.YtihanglnjghcfaaGreatDoor
open Go.RowKit
set_option linter.unusedVariables false
set_option linter.unusedSimpArgs false

theorem libBytes (s : ByteArray) : Lib.bytesOf (bytesOf s) = s.data.toList := by
 unfold Lib.bytesOf bytesOf
 rw [List.map_map]
 refine (List.map_congr_left (g := id) fun x hx => ?_).trans (List.map_id _)
 simp
set_option maxRecDepth 100000 in
theorem ibyte_any (A : Option Addr) (n c : Nat) (l : List UInt8) (cv : UInt8) (w : World) (h : Ints .u8 w A (bytesOf (bk l))) (hn : l.length = n) (h0 : 0 < n) :
 Calls Tryz.prog 103 #[.slice A n c, .int .u8 (cv.toNat : Int)] w fun e w' => e = .returned (.int .i64 (Lib.indexByte l cv)) ∧ w' = w := by
 have hl : (bytesOf (bk l)).length = n := by rw [bytesOf_len, bk_size]; exact hn
 obtain ⟨b, o, rfl, _, hc⟩ := h (by omega)
 have hr := Lib.run_indexByteSlice (P := Tryz.prog) w b o n c (bytesOf (bk l)) hl (fun i hi => hc i (by omega)) (cv.toNat : Int)
 rw [libBytes, bk_list, show (((cv.toNat : Nat) : Int)).toNat.toUInt8 = cv by simp] at hr
 go_enter Tryz.func103, Tryz.ntmps103
 go_wp2
 rw [run_callFunc_extern Tryz.func122 (by kernel_rfl) (by kernel_rfl) (by kernel_rfl) (e := Extern.BytealgIndexByte.indexByte) (by kernel_rfl), hr]
 simp only [Result.andThen]
 rw [Oper.upon_value]
 go_wp2
 go_ret
 exact ⟨rfl, rfl⟩
theorem dropW_all (l : List UInt8) (c : UInt8) : l.dropWhile (· == c) = [] ↔ ∀ x ∈ l, x = c := by
 induction l with
 | nil => simp
 | cons a l ih =>
  by_cases h : a = c
  · subst h; simp [List.dropWhile_cons, ih]
  · have : (a == c) = false := by simpa using h
    simp [List.dropWhile_cons, this, h]
theorem trimB_nil (l : List UInt8) (c : UInt8) : Lib.trimB l c = [] ↔ ∀ x ∈ l, x = c := by
 unfold Lib.trimB Lib.trimLeftB Lib.trimRightB
 rw [dropW_all]
 constructor
 · intro h
   have h2 : ∀ x ∈ l.reverse.dropWhile (· == c), x = c := fun x hx => h x (by simpa using hx)
   have h3 : l.reverse.dropWhile (· == c) = [] := by
    cases hd : l.reverse.dropWhile (· == c) with
    | nil => rfl
    | cons a r =>
     exfalso
     rw [hd] at h2
     have ha := h2 a (List.mem_cons_self ..)
     have hn := List.head_dropWhile_not (p := (· == c)) (l := l.reverse) (by rw [hd]; simp)
     simp only [hd, List.head_cons] at hn
     rw [ha] at hn
     simp at hn
   rw [dropW_all] at h3
   exact fun x hx => h3 x (by simpa using hx)
 · intro h x hx
   have h1 : x ∈ l.reverse.dropWhile (· == c) := by simpa using hx
   exact h x (by simpa using (List.dropWhile_sublist _).subset h1)
def zeroB (s : ByteArray) : Bool := s.data.toList.all (· == 48)
set_option maxRecDepth 100000 in
theorem zero_any (s : ByteArray) (w : World) (hs : s.size ≤ 140737488351300) : Calls Tryz.prog 106 #[.string s] w fun e w' => e = .returned (.bool (zeroB s)) ∧ Below w.heap.size w w' := by
 have HT := Lib.hid (Tryz.strings_Trim_one s 48 (by decide) w (by omega))
 change Hid (Calls Tryz.prog 124 #[.string s, .string ⟨#[48]⟩] w fun e w' => e = .returned (.string (bk (Lib.trimB s.data.toList 48))) ∧ (w' = w ∨ w' = w.drew)) at HT
 have hq : ((bk (Lib.trimB s.data.toList 48)).toList == []) = zeroB s := by
  rw [Lib.toList_data, bk_list, Bool.eq_iff_iff, beq_iff_eq, trimB_nil]
  unfold zeroB
  rw [List.all_eq_true]
  exact ⟨fun h x hx => by rw [h x hx]; rfl, fun h x hx => by have := h x hx; simpa using this⟩
 generalize zeroB s = z at *
 generalize bk (Lib.trimB s.data.toList 48) = T at *
 go_enter Tryz.func106, Tryz.ntmps106
 go_wp2_with fail
 refine HT.out.mono ?_
 rintro e w1 ⟨rfl, hw⟩
 have HB : Hid (Below w.heap.size w w1) := Lib.hid (by rcases hw with rfl | rfl; exact Below.refl _ _; exact (Below.refl _ _).drew)
 clear hw HT
 go_wp2
 go_ret
 first | exact ⟨rfl, HB.out⟩ | exact ⟨by rw [← hq]; rfl, HB.out⟩ | trace_state
/-- May an entry have the name? -/
def slashQ (n : Nat) : Bool := n == 47 || n == 0
theorem slashQ_high (n : Nat) (h : 128 ≤ n) : slashQ n = false := by unfold slashQ; simp; omega
def lowU (b : UInt8) : UInt8 := if 65 ≤ b.toNat ∧ b.toNat ≤ 90 then b + 32 else b
def partU (l : List UInt8) : Bool := !(l.any fun b => slashQ b.toNat) && (Lib.validD l && (!(l == []) && (!(l == [46]) && (!(l == [46, 46]) && !(l.map lowU == [46, 103, 105, 116])))))
theorem OwnS.setAt {w : World} {g off cap base n j : Nat} {e : TypeId} {size : Nat} {xs : List Value} (h : OwnS w base e size (.slice (some ⟨g, off, none⟩) n cap) n xs) (hj : j < xs.length) (u : Value) :
 OwnS (w.setCell ⟨g, off + j, none⟩ u) base e size (.slice (some ⟨g, off, none⟩) n cap) n (xs.set j u) := by
 refine ⟨by rw [List.length_set]; exact h.1, ?_⟩
 rcases h.2 with ⟨hv, _⟩ | ⟨g', off', cap', cur, hv, hb, ⟨fr, hg, hf⟩, hn, hm, hs, ht⟩
 · cases hv
 · injection hv with hA _ hc
   injection hA with hA
   injection hA with h1 h2
   subst h1; subst h2; subst hc
   have hl := h.1
   have hmul : n * size ≤ cap * size := Nat.mul_le_mul_right _ hn
   refine .inr ⟨g, off, cap, cur.setIfInBounds (off + j) u, rfl, hb, ⟨fr, ?_, by rw [Array.size_setIfInBounds]; exact hf⟩, hn, hm, by rw [Array.size_setIfInBounds]; exact hs, ?_⟩
   · simp [World.setCell, Array.getElem?_modify, hg]
   · rw [Array.toList_setIfInBounds, ← ht]
     apply List.ext_getElem?
     intro i
     rw [List.getElem?_set, List.length_take, List.length_drop, Array.length_toList, List.getElem?_take, List.getElem?_take, List.getElem?_drop, List.getElem?_drop, List.getElem?_set, Array.length_toList]
     by_cases hij : j = i
     · subst hij
       rw [if_pos rfl, if_pos rfl, if_pos (by omega), if_pos (by omega), if_pos (by omega)]
     · rw [if_neg (show ¬ off + j = off + i by omega), if_neg hij]
theorem OwnS.free {w : World} {b g off n c sz j : Nat} {e : TypeId} {xs : List Value} (h : OwnS w b e sz (.slice (some ⟨g, off, none⟩) n c) n xs) (hj : j < xs.length) : w.frozen? ⟨g, off + j, none⟩ = false ∧ ∃ v, w.cell? ⟨g, off + j, none⟩ = some v := by
 refine ⟨?_, ?_⟩
 · rcases h.2 with ⟨hv, _⟩ | ⟨g', off', cap', cur, hv, _, ⟨⟨lo, hi⟩, hg, hf⟩, hn, hm, hs, ht⟩
   · cases hv
   · injection hv with hA _ hc
     injection hA with hA
     injection hA with h1 h2
     subst h1; subst h2; subst hc
     have hl := h.1
     have hmul : n * sz ≤ c * sz := Nat.mul_le_mul_right _ hn
     simp only at hf
     simp only [World.frozen?, hg, Bool.and_eq_false_iff, decide_eq_false_iff_not]
     omega
 · obtain ⟨g', off', c', hv, _, _, hc⟩ := h.cells (by omega)
   injection hv with hA
   injection hA with hA
   injection hA with h1 h2
   subst h1; subst h2
   exact ⟨_, (hc j hj).trans (List.getElem?_eq_getElem hj)⟩
theorem lowU_val (b : UInt8) : ((lowU b).toNat : Int) = if 65 ≤ b.toNat ∧ b.toNat ≤ 90 then (b.toNat : Int) + 32 else (b.toNat : Int) := by
 unfold lowU
 split
 · next h => rw [UInt8.toNat_add, Nat.mod_eq_of_lt (by show b.toNat + 32 < 256; omega)]; rfl
 · rfl
/-- A text whose first bytes are made small. -/
def lowTo (l : List UInt8) (k : Nat) : List UInt8 := (l.take k).map lowU ++ l.drop k
theorem lowTo_zero (l : List UInt8) : lowTo l 0 = l := by simp [lowTo]
theorem lowTo_all (l : List UInt8) (k : Nat) (h : l.length ≤ k) : lowTo l k = l.map lowU := by
 unfold lowTo
 rw [List.take_of_length_le h, List.drop_eq_nil_of_le h, List.append_nil]
theorem lowTo_len (l : List UInt8) (k : Nat) : (lowTo l k).length = l.length := by
 unfold lowTo
 simp
 omega
theorem lowTo_at {l : List UInt8} {k : Nat} {b : UInt8} (h : l[k]? = some b) : (lowTo l k)[k]? = some b := by
 have hk := (List.getElem?_eq_some_iff.1 h).1
 unfold lowTo
 rw [List.getElem?_append_right (by simp; omega)]
 simp
 rw [Nat.min_eq_left (by omega), Nat.sub_self, Nat.add_zero]
 exact h
theorem lowTo_succ {l : List UInt8} {k : Nat} {b : UInt8} (h : l[k]? = some b) : lowTo l (k + 1) = (lowTo l k).set k (lowU b) := by
 have hk := (List.getElem?_eq_some_iff.1 h).1
 unfold lowTo
 rw [List.take_add_one, h, List.map_append, List.set_append_right _ _ (by simp; omega)]
 simp only [Option.toList_some, List.map_cons, List.map_nil, List.length_map, List.length_take]
 rw [Nat.min_eq_left (by omega), Nat.sub_self, List.append_assoc]
 congr 1
 rw [List.drop_eq_getElem_cons hk]
 rfl
theorem set_self {l : List UInt8} {k : Nat} {b : UInt8} (h : l[k]? = some b) : l.set k b = l := by
 apply List.ext_getElem?
 intro i
 by_cases hi : k = i
 · subst hi
   rw [List.getElem?_set_self (List.getElem?_eq_some_iff.1 h).1, h]
 · rw [List.getElem?_set_ne hi]
theorem bytesBk_set (l : List UInt8) (k : Nat) (b : UInt8) : (bytesOf (bk (l.set k b))).map (Value.int .u8) = ((bytesOf (bk l)).map (Value.int .u8)).set k (.int .u8 (b.toNat : Int)) := by
 unfold bytesOf
 rw [bk_list, bk_list, List.map_set, List.map_set]
theorem bytesBk_at {l : List UInt8} {k : Nat} {b : UInt8} (h : l[k]? = some b) : ((bytesOf (bk l)).map (Value.int .u8))[k]? = some (.int .u8 (b.toNat : Int)) := by
 unfold bytesOf
 rw [bk_list, List.getElem?_map, List.getElem?_map, h]
 rfl
set_option maxRecDepth 100000 in
set_option maxHeartbeats 2000000 in
theorem named_any (s : ByteArray) (w : World) (hE : EnvO w) (hs : s.size ≤ 140737488351300) : Calls Tryz.prog 105 #[.string s] w fun e w' => e = .returned (.bool (partU s.data.toList)) ∧ Below w.heap.size w w' := by
 have HE := Lib.hid hE
 have HS := Lib.hid hs
 have HL : Hid (partU s.data.toList = (!(s.data.toList.any fun b => slashQ b.toNat) && (Lib.validD s.data.toList && (!(s.data.toList == []) && (!(s.data.toList == [46]) && (!(s.data.toList == [46, 46]) && !(s.data.toList.map lowU == [46, 103, 105, 116]))))))) := Lib.hid rfl
 clear hE
 go_enter Tryz.func105, Tryz.ntmps105
 go_wp2
 go_loopw [4] (fun _ w' => ∃ pos : Nat, w' = w.iter s pos ∧ ((s.data.toList.drop pos).any fun b => slashQ b.toNat) = (s.data.toList.any fun b => slashQ b.toNat)) (fun _ w' => s.size - w'.iterPos w.heap.size)
 case atStart => exact ⟨0, rfl, by rw [List.drop_zero]⟩
 case round =>
  obtain ⟨pos, rfl, hv⟩ := hrel
  have HV := Lib.hid hv
  clear hv
  by_cases hp : pos < s.size
  · have hnx : ∀ ty, (Instr.next (.pointer (some ⟨w.heap.size, 0, none⟩)) true ty).run Tryz.prog (w.iter s pos) = _ := fun ty => run_next_any w s pos ty hp
    have hwd := Lib.decode_width_pos s pos hp
    have hst := any_step s slashQ slashQ_high pos hp
    rw [HV.out] at hst
    by_cases h1 : (Utf8.decode s pos).1 = 47
    · have q1 : (((Utf8.decode s pos).1 : Int) == 47) = true := by rw [h1]; rfl
      have HA : Hid (partU s.data.toList = false) := Lib.hid (by rw [HL.out, hst]; simp [slashQ, h1])
      clear hst h1
      go_wp2
      go_ret
      rw [HA.out]
      exact ⟨rfl, (Below.refl _ _).alloc (Nat.le_refl _) _⟩
    · have q1 : (((Utf8.decode s pos).1 : Int) == 47) = false := by rw [beq_eq_false_iff_ne]; omega
      by_cases h2 : (Utf8.decode s pos).1 = 0
      · have q2 : (((Utf8.decode s pos).1 : Int) == 0) = true := by rw [h2]; rfl
        have HA : Hid (partU s.data.toList = false) := Lib.hid (by rw [HL.out, hst]; simp [slashQ, h2])
        clear hst h1 h2
        go_wp2
        go_ret
        rw [HA.out]
        exact ⟨rfl, (Below.refl _ _).alloc (Nat.le_refl _) _⟩
      · have q2 : (((Utf8.decode s pos).1 : Int) == 0) = false := by rw [beq_eq_false_iff_ne]; omega
        have HA : Hid (((s.data.toList.drop (pos + (Utf8.decode s pos).2)).any fun b => slashQ b.toNat) = (s.data.toList.any fun b => slashQ b.toNat)) := Lib.hid (by rw [hst]; simp [slashQ, h1, h2])
        clear hst h1
        go_wp2
        go_roundw
        case rel => exact ⟨pos + (Utf8.decode s pos).2, rfl, HA.out⟩
        case measure => simp; omega
  · have hnx : ∀ ty, (Instr.next (.pointer (some ⟨w.heap.size, 0, none⟩)) true ty).run Tryz.prog (w.iter s pos) = _ := fun ty => run_next_end w s pos ty hp
    have HA : Hid (partU s.data.toList = (Lib.validD s.data.toList && (!(s.data.toList == []) && (!(s.data.toList == [46]) && (!(s.data.toList == [46, 46]) && !(s.data.toList.map lowU == [46, 103, 105, 116])))))) := Lib.hid (by
     rw [HL.out, ← HV.out, List.drop_eq_nil_of_le (by rw [← Lib.size_eq]; omega)]; rfl)
    have hl0 : Below w.heap.size w (w.iter s pos) := (Below.refl _ _).alloc (Nat.le_refl _) _
    have HL0 := Lib.hid hl0
    clear hl0 HV HL
    generalize w.iter s pos = w0 at *
    go_upto_region 7 with (refine wpList_convO rfl (.tmp 19) rfl s s.size (bytesOf s) rfl rfl rfl HS.out ?_; intro A5 c5 w5 ho5 hc5 hm5 hb5)
    have ho5' : OwnS w5 w0.heap.size 5 1 (.slice A5 s.size c5) s.size ((bytesOf (bk (lowTo s.data.toList 0))).map (Value.int .u8)) := by rw [lowTo_zero, bk_of]; exact ho5
    have HO5 := Lib.hid ho5'
    have HB5 := Lib.hid hb5
    clear ho5 ho5' hb5 hc5 hm5
    go_wp2
    go_loopw [23] (fun vi wr => ∃ k : Nat, vi = .int .i64 k ∧ k ≤ s.size ∧ OwnS wr w0.heap.size 5 1 (.slice A5 s.size c5) s.size ((bytesOf (bk (lowTo s.data.toList k))).map (Value.int .u8)) ∧ Below w0.heap.size w0 wr) (fun vi _ => s.size - (intOf vi).toNat)
    case atStart => exact ⟨0, rfl, Nat.zero_le _, HO5.out, HB5.out⟩
    case round =>
     clear HO5 HB5
     obtain ⟨k, rfl, hk, ho, hb⟩ := hrel
     by_cases hlt : k < s.size
     · obtain ⟨b, hbk⟩ : ∃ b, s.data.toList[k]? = some b := ⟨_, List.getElem?_eq_getElem (by rw [← Lib.size_eq]; exact hlt)⟩
       have hlen : ((bytesOf (bk (lowTo s.data.toList k))).map (Value.int .u8)).length = s.size := by rw [List.length_map, bytesOf_len, bk_size, lowTo_len, ← Lib.size_eq]
       obtain ⟨g, off, c', hv, hgb, hg, hcell⟩ := ho.cells (by omega)
       injection hv with hA _ hc'
       subst hA; subst hc'
       have r0 : wr.cell? ⟨g, off + k, none⟩ = some (.int .u8 (b.toNat : Int)) := by rw [hcell k (by omega)]; exact bytesBk_at (lowTo_at hbk)
       have f0 : wr.frozen? ⟨g, off + k, none⟩ = false := (ho.free (j := k) (by omega)).1
       have d2 : decide ((k : Int) < (s.size : Int)) = true := decide_eq_true (by omega)
       have d2' : decide (k < s.size) = true := decide_eq_true hlt
       have HO := Lib.hid ho
       have HB := Lib.hid hb
       have HBK := Lib.hid hbk
       have HLN := Lib.hid hlen
       have hvl := lowU_val b
       clear hcell hg ho hb hbk hlen
       by_cases h1 : 65 ≤ b.toNat
       · have d3 : decide ((b.toNat : Int) ≥ 65) = true := decide_eq_true (by omega)
         have d3' : decide ((65 : Int) ≤ (b.toNat : Int)) = true := decide_eq_true (by omega)
         have d3n : decide (65 ≤ b.toNat) = true := decide_eq_true h1
         by_cases h2 : b.toNat ≤ 90
         · have d4 : decide ((b.toNat : Int) ≤ 90) = true := decide_eq_true (by omega)
           have d4n : decide (b.toNat ≤ 90) = true := decide_eq_true h2
           have e1 : IntKind.u8.wrap ((b.toNat : Int) + 97) = (b.toNat : Int) + 97 := by rw [IntKind.wrap_u8']; omega
           have e2 : IntKind.u8.wrap ((b.toNat : Int) + 97 - 65) = (b.toNat : Int) + 97 - 65 := by rw [IntKind.wrap_u8']; omega
           rw [if_pos ⟨h1, h2⟩] at hvl
           have HNEW : Hid (OwnS (wr.setCell ⟨g, off + k, none⟩ (.int .u8 ((b.toNat : Int) + 97 - 65))) w0.heap.size 5 1 (.slice (some ⟨g, off, none⟩) s.size c5) s.size ((bytesOf (bk (lowTo s.data.toList (k + 1)))).map (Value.int .u8))) := Lib.hid (by
            rw [lowTo_succ HBK.out, bytesBk_set, hvl, show (b.toNat : Int) + 32 = (b.toNat : Int) + 97 - 65 by omega]
            exact HO.out.setAt (by rw [HLN.out]; exact hlt) _)
           have HBN : Hid (Below w0.heap.size w0 (wr.setCell ⟨g, off + k, none⟩ (.int .u8 ((b.toNat : Int) + 97 - 65)))) := Lib.hid (HB.out.setCell (p := ⟨g, off + k, none⟩) hgb _)
           clear h1 h2 hvl
           go_wp2
           go_roundw
           case rel => exact ⟨k + 1, rfl, by omega, HNEW.out, HBN.out⟩
           case measure => simp [intOf]; omega
         · have d4 : decide ((b.toNat : Int) ≤ 90) = false := decide_eq_false (by omega)
           have d4n : decide (b.toNat ≤ 90) = false := decide_eq_false h2
           rw [if_neg (fun h => h2 h.2)] at hvl
           have HNEW : Hid (OwnS wr w0.heap.size 5 1 (.slice (some ⟨g, off, none⟩) s.size c5) s.size ((bytesOf (bk (lowTo s.data.toList (k + 1)))).map (Value.int .u8))) := Lib.hid (by
            have hb0 : lowU b = b := UInt8.toNat_inj.1 (by omega)
            rw [lowTo_succ HBK.out, hb0, set_self (lowTo_at HBK.out)]
            exact HO.out)
           clear h1 h2 hvl
           go_wp2
           go_roundw
           case rel => exact ⟨k + 1, rfl, by omega, HNEW.out, HB.out⟩
           case measure => simp [intOf]; omega
       · have d3 : decide ((b.toNat : Int) ≥ 65) = false := decide_eq_false (by omega)
         have d3' : decide ((65 : Int) ≤ (b.toNat : Int)) = false := decide_eq_false (by omega)
         have d3n : decide (65 ≤ b.toNat) = false := decide_eq_false h1
         rw [if_neg (fun h => h1 h.1)] at hvl
         have HNEW : Hid (OwnS wr w0.heap.size 5 1 (.slice (some ⟨g, off, none⟩) s.size c5) s.size ((bytesOf (bk (lowTo s.data.toList (k + 1)))).map (Value.int .u8))) := Lib.hid (by
          have hb0 : lowU b = b := UInt8.toNat_inj.1 (by omega)
          rw [lowTo_succ HBK.out, hb0, set_self (lowTo_at HBK.out)]
          exact HO.out)
         clear h1 hvl
         go_wp2
         go_roundw
         case rel => exact ⟨k + 1, rfl, by omega, HNEW.out, HB.out⟩
         case measure => simp [intOf]; omega
     · obtain rfl : k = s.size := by omega
       have d2 : decide ((s.size : Int) < (s.size : Int)) = false := decide_eq_false (by omega)
       have d2' : decide (s.size < s.size) = false := decide_eq_false (by omega)
       rw [lowTo_all _ _ (by rw [← Lib.size_eq]; exact Nat.le_refl _)] at ho
       have HCV : Hid (∀ w', Below wr.heap.size wr w' → (convert 48 9 (.slice A5 s.size c5)).run Tryz.prog w' = .ok (.string (bk (s.data.toList.map lowU))) w') := Lib.hid (fun w' hb' => by
        have h := run_str_ints (P := Tryz.prog) 48 9 5 Tryz.underlying48 Tryz.underlying5 Tryz.underlying9 A5 c5 _ (ho.ints.below hb')
        rw [strOfNums_bytes, bytesOf_len, bk_size, List.length_map, ← Lib.size_eq] at h
        exact h)
       have HB := Lib.hid hb
       have hv := valid_any s wr (HE.out.below (HL0.out.trans (hb.mono HL0.out.size))) HS.out
       have hts : s.toList = s.data.toList := Lib.toList_data s
       have htl : (bk (s.data.toList.map lowU)).toList = s.data.toList.map lowU := by rw [Lib.toList_data, bk_list]
       generalize s.data.toList.map lowU = LL at *
       clear ho hb
       cases hvd : Lib.validD s.data.toList
       · rw [hvd] at hv HA
         clear hvd hts htl
         go_wp2_with (go_at_call 123; refine hv.mono ?_; rintro e w2 ⟨rfl, hb2⟩; have HB2 := Lib.hid (HB.out.trans (hb2.mono HB.out.size)); clear hb2)
         go_ret
         exact ⟨by rw [HA.out]; rfl, HL0.out.trans (HB2.out.mono HL0.out.size)⟩
       · rw [hvd] at hv HA
         clear hvd
         by_cases h1 : s.data.toList = []
         · have q1 : (s.toList == []) = true := by rw [hts, h1]; rfl
           rw [show (s.data.toList == []) = true by rw [h1]; rfl] at HA
           clear h1 hts htl
           go_wp2_with (go_at_call 123; refine hv.mono ?_; rintro e w2 ⟨rfl, hb2⟩; have HB2 := Lib.hid (HB.out.trans (hb2.mono HB.out.size)); clear hb2)
           go_ret
           exact ⟨by rw [HA.out]; rfl, HL0.out.trans (HB2.out.mono HL0.out.size)⟩
         · have q1 : (s.toList == []) = false := by rw [hts, beq_eq_false_iff_ne]; exact h1
           have q1' : (s.data.toList == []) = false := by rw [beq_eq_false_iff_ne]; exact h1
           rw [q1'] at HA
           by_cases h2 : s.data.toList = [46]
           · have q2 : (s.toList == [46]) = true := by rw [hts, h2]; rfl
             rw [show (s.data.toList == [46]) = true by rw [h2]; rfl] at HA
             clear h1 h2 hts htl q1'
             go_wp2_with (go_at_call 123; refine hv.mono ?_; rintro e w2 ⟨rfl, hb2⟩; have HB2 := Lib.hid (HB.out.trans (hb2.mono HB.out.size)); clear hb2)
             go_ret
             exact ⟨by rw [HA.out]; rfl, HL0.out.trans (HB2.out.mono HL0.out.size)⟩
           · have q2 : (s.toList == [46]) = false := by rw [hts, beq_eq_false_iff_ne]; exact h2
             have q2' : (s.data.toList == [46]) = false := by rw [beq_eq_false_iff_ne]; exact h2
             rw [q2'] at HA
             by_cases h3 : s.data.toList = [46, 46]
             · have q3 : (s.toList == [46, 46]) = true := by rw [hts, h3]; rfl
               rw [show (s.data.toList == [46, 46]) = true by rw [h3]; rfl] at HA
               clear h1 h2 h3 hts htl q1' q2'
               go_wp2_with (go_at_call 123; refine hv.mono ?_; rintro e w2 ⟨rfl, hb2⟩; have HB2 := Lib.hid (HB.out.trans (hb2.mono HB.out.size)); clear hb2)
               go_ret
               exact ⟨by rw [HA.out]; rfl, HL0.out.trans (HB2.out.mono HL0.out.size)⟩
             · have q3 : (s.toList == [46, 46]) = false := by rw [hts, beq_eq_false_iff_ne]; exact h3
               have q3' : (s.data.toList == [46, 46]) = false := by rw [beq_eq_false_iff_ne]; exact h3
               rw [q3'] at HA
               by_cases h4 : LL = [46, 103, 105, 116]
               · have q4 : ((bk LL).toList == [46, 103, 105, 116]) = true := by rw [htl, h4]; rfl
                 rw [show (LL == [46, 103, 105, 116]) = true by rw [h4]; rfl] at HA
                 clear h1 h2 h3 h4 hts htl q1' q2' q3'
                 go_wp2_with (go_at_call 123; refine hv.mono ?_; rintro e w2 ⟨rfl, hb2⟩; have HB2 := Lib.hid (HB.out.trans (hb2.mono HB.out.size)); have hcv2 := HCV.out w2 hb2; clear hb2)
                 go_ret
                 exact ⟨by rw [HA.out]; rfl, HL0.out.trans (HB2.out.mono HL0.out.size)⟩
               · have q4 : ((bk LL).toList == [46, 103, 105, 116]) = false := by rw [htl, beq_eq_false_iff_ne]; exact h4
                 have q4' : (LL == [46, 103, 105, 116]) = false := by rw [beq_eq_false_iff_ne]; exact h4
                 rw [q4'] at HA
                 clear h1 h2 h3 h4 hts htl q1' q2' q3' q4'
                 go_wp2_with (go_at_call 123; refine hv.mono ?_; rintro e w2 ⟨rfl, hb2⟩; have HB2 := Lib.hid (HB.out.trans (hb2.mono HB.out.size)); have hcv2 := HCV.out w2 hb2; clear hb2)
                 go_ret
                 exact ⟨by rw [HA.out]; rfl, HL0.out.trans (HB2.out.mono HL0.out.size)⟩
end Go.Proofs.YtihanglnjghcfaaGreatDoor
namespace Go.Proofs.YtihanglnjghcfaaGreatDoor
open Go.RowKit
set_option linter.unusedVariables false
set_option linter.unusedSimpArgs false

/-- A name as it is put in order. -/
def keyS (m n : ByteArray) : ByteArray := if m.toList == [52, 48, 48, 48, 48] then n ++ ⟨#[47]⟩ else n
def lessB (m1 n1 m2 n2 : ByteArray) : Bool := Op.bytesLess (keyS m1 n1).toList (keyS m2 n2).toList
set_option maxRecDepth 100000 in
theorem key_any (m n i : ByteArray) (w : World) (hn : n.size ≤ 140737488351232) :
 Calls Tryz.prog 125 #[.agg #[.string m, .string n, .string i]] w fun e w' => e = .returned (.string (keyS m n)) ∧ Below w.heap.size w w' := by
 unfold keyS
 go_enter Tryz.func125, Tryz.ntmps125
 cases h : (m.toList == [52, 48, 48, 48, 48])
 · go_wp2
   go_ret
   exact ⟨rfl, (Below.refl _ _).alloc (Nat.le_refl _) _⟩
 · go_wp2
   go_ret
   exact ⟨rfl, (Below.refl _ _).alloc (Nat.le_refl _) _⟩
end Go.Proofs.YtihanglnjghcfaaGreatDoor
namespace Go.Proofs.YtihanglnjghcfaaGreatDoor
open Go.RowKit
set_option linter.unusedVariables false
set_option linter.unusedSimpArgs false

/-- An entry in memory. -/
structure EnB (w : World) (g : Nat) (m n i : ByteArray) : Prop where
 c0 : w.cell? ⟨g, 0, none⟩ = some (.string m)
 c1 : w.cell? ⟨g, 1, none⟩ = some (.string n)
 c2 : w.cell? ⟨g, 2, none⟩ = some (.string i)
theorem EnB.lt {w : World} {g : Nat} {m n i : ByteArray} (h : EnB w g m n i) : g < w.heap.size := World.block_lt_of_cell? w _ h.c0
theorem EnB.below {w w' : World} {g : Nat} {m n i : ByteArray} (h : EnB w g m n i) (hb : Below w.heap.size w w') : EnB w' g m n i :=
 ⟨by rw [hb.cell h.lt]; exact h.c0, by rw [hb.cell h.lt]; exact h.c1, by rw [hb.cell h.lt]; exact h.c2⟩
theorem EnB.new (w : World) (m n i : ByteArray) : EnB (w.alloc (.cells #[.string m, .string n, .string i] 116)) w.heap.size m n i :=
 ⟨by rw [World.cell?_alloc_at _ _ _ _ (by simp)]; rfl, by rw [World.cell?_alloc_at _ _ _ _ (by simp)]; rfl, by rw [World.cell?_alloc_at _ _ _ _ (by simp)]; rfl⟩
set_option maxRecDepth 100000 in
theorem less_any (m1 n1 i1 m2 n2 i2 : ByteArray) (w : World) (h1 : n1.size ≤ 140737488351232) (h2 : n2.size ≤ 140737488351232) :
 Calls Tryz.prog 107 #[.agg #[.string m1, .string n1, .string i1], .agg #[.string m2, .string n2, .string i2]] w fun e w' => e = .returned (.bool (lessB m1 n1 m2 n2)) ∧ Below w.heap.size w w' := by
 have HS1 := Lib.hid h1
 have HS2 := Lib.hid h2
 clear h1 h2
 go_enter Tryz.func107, Tryz.ntmps107
 go_upto_region 1 with (fail)
 have e1 := EnB.new w m1 n1 i1
 have e2 := EnB.new (w.alloc (.cells #[.string m1, .string n1, .string i1] 116)) m2 n2 i2
 have hb0 : Below w.heap.size w ((w.alloc (.cells #[.string m1, .string n1, .string i1] 116)).alloc (.cells #[.string m2, .string n2, .string i2] 116)) := ((Below.refl _ _).alloc (Nat.le_refl _) _).alloc (by simp) _
 have e1 := e1.below (Below.alloc (Below.refl _ _) (Nat.le_refl _) (.cells #[.string m2, .string n2, .string i2] 116))
 rw [show (w.alloc (.cells #[.string m1, .string n1, .string i1] 116)).heap.size = w.heap.size + 1 by simp] at e2
 generalize (w.alloc (.cells #[.string m1, .string n1, .string i1] 116)).alloc (.cells #[.string m2, .string n2, .string i2] 116) = w0 at *
 have HB0 := Lib.hid hb0
 have HE1 := Lib.hid e1
 have HE2 := Lib.hid e2
 clear hb0 e1 e2
 generalize hg1 : w.heap.size = g1 at *
 have HG1 := Lib.hid hg1
 clear hg1
 generalize hg2 : g1 + 1 = g2 at *
 clear hg2
 refine wp_region_ph (by kernel_rfl) [] [.span 0 0, .span 0 0, .span 0 0, .span 0 0, .span 0 0, .span 0 0] [fun z9 => z9 = .agg #[.string m1, .string n1, .string i1], fun z9 => z9 = .string (keyS m1 n1), fun z9 => z9 = .agg #[.string m2, .string n2, .string i2], fun z9 => z9 = .string (keyS m2 n2), fun z9 => z9 = .bool (lessB m1 n1 m2 n2), fun z9 => z9 = .bool (lessB m1 n1 m2 n2)] ((fun _ w => Below w0.heap.size w0 w)) (by kernel_rfl) (by kernel_rfl) (by kernel_rfl) (by kernel_rfl) (by kernel_rfl) (by kernel_rfl) rfl rfl ((Below.refl _ _).drew) ?steps ?done
 case steps =>
  refine ⟨?_, ?_, ?_, ?_, ?_, ?_, trivial⟩
  · intro us au w1 k0 hlo hhi ha hd hst hI
    obtain rfl : k0 = 0 := by omega
    have q2 := slot_far (t := 2) (v := .pointer (some ⟨g1, 0, none⟩)) ha (by kernel_rfl) (by kernel_rfl)
    have p2 := slot_norm q2
    clear ha hd hst
    have kk := HE1.out.below hI
    have k0 := kk.c0
    have k1 := kk.c1
    have k2 := kk.c2
    exact StepI.pure (v := .agg #[.string m1, .string n1, .string i1]) rfl rfl (by go_simp) ⟨rfl, hI⟩
  · intro us au w1 k1 hlo hhi ha hd hst hI
    obtain rfl : k1 = 0 := by omega
    have e0 := hd 0 _ (by kernel_rfl) rfl
    have q5 := slot_at (t := 5) 0 ha (by kernel_rfl) (by kernel_rfl) (by kernel_rfl) e0
    have p5 := slot_norm q5
    clear ha hd hst
    refine StepI.call (f := 125) (args := #[.agg #[.string m1, .string n1, .string i1]]) rfl rfl (by go_simp) ?_
    refine (key_any m1 n1 i1 w1 HS1.out).mono ?_
    rintro e w5 ⟨rfl, hb⟩
    exact ⟨_, rfl, rfl, Below.trans hI (hb.mono hI.size)⟩
  · intro us au w1 k2 hlo hhi ha hd hst hI
    obtain rfl : k2 = 0 := by omega
    have q3 := slot_far (t := 3) (v := .pointer (some ⟨g2, 0, none⟩)) ha (by kernel_rfl) (by kernel_rfl)
    have p3 := slot_norm q3
    clear ha hd hst
    have kk := HE2.out.below hI
    have k0 := kk.c0
    have k1 := kk.c1
    have k2 := kk.c2
    exact StepI.pure (v := .agg #[.string m2, .string n2, .string i2]) rfl rfl (by go_simp) ⟨rfl, hI⟩
  · intro us au w1 k3 hlo hhi ha hd hst hI
    obtain rfl : k3 = 0 := by omega
    have e2 := hd 2 _ (by kernel_rfl) rfl
    have q7 := slot_at (t := 7) 2 ha (by kernel_rfl) (by kernel_rfl) (by kernel_rfl) e2
    have p7 := slot_norm q7
    clear ha hd hst
    refine StepI.call (f := 125) (args := #[.agg #[.string m2, .string n2, .string i2]]) rfl rfl (by go_simp) ?_
    refine (key_any m2 n2 i2 w1 HS2.out).mono ?_
    rintro e w5 ⟨rfl, hb⟩
    exact ⟨_, rfl, rfl, Below.trans hI (hb.mono hI.size)⟩
  · intro us au w1 k4 hlo hhi ha hd hst hI
    obtain rfl : k4 = 0 := by omega
    have e1 := hd 1 _ (by kernel_rfl) rfl
    have e3 := hd 3 _ (by kernel_rfl) rfl
    have q6 := slot_at (t := 6) 1 ha (by kernel_rfl) (by kernel_rfl) (by kernel_rfl) e1
    have p6 := slot_norm q6
    have q8 := slot_at (t := 8) 3 ha (by kernel_rfl) (by kernel_rfl) (by kernel_rfl) e3
    have p8 := slot_norm q8
    clear ha hd hst
    exact StepI.pure (v := .bool (lessB m1 n1 m2 n2)) rfl rfl (by go_simp; rfl) ⟨rfl, hI⟩
  · intro us au w1 k5 hlo hhi ha hd hst hI
    obtain rfl : k5 = 0 := by omega
    have e4 := hd 4 _ (by kernel_rfl) rfl
    have q9 := slot_at (t := 9) 4 ha (by kernel_rfl) (by kernel_rfl) (by kernel_rfl) e4
    have p9 := slot_norm q9
    clear ha hd hst
    exact StepI.pure (v := .bool (lessB m1 n1 m2 n2)) rfl rfl (by go_simp) ⟨rfl, hI⟩
 case done =>
  intro us w1 hI hd
  have e5 := hd 5 _ (by decide) rfl
  have HW := Lib.hid (HB0.out.trans (Below.mono hI (Nat.le_of_lt HE1.out.lt)))
  clear hd hI
  simp only [putAll]
  go_simp
  go_wp2
  go_ret
  exact ⟨rfl, by rw [HG1.out]; exact HW.out⟩
end Go.Proofs.YtihanglnjghcfaaGreatDoor
namespace Go.Proofs.YtihanglnjghcfaaGreatDoor
open Go.RowKit
set_option linter.unusedVariables false
set_option linter.unusedSimpArgs false

def modeB (m : List UInt8) : Bool := m == [49, 48, 48, 54, 52, 52] || (m == [49, 48, 48, 55, 53, 53] || (m == [49, 50, 48, 48, 48, 48] || (m == [52, 48, 48, 48, 48] || m == [49, 54, 48, 48, 48, 48])))
def hexS (id : List UInt8) : ByteArray := strOfNums (hexL (bytesOf (bk id)))
/-- A tree's first entry, and what stands behind it. -/
def entU (l : List UInt8) : Option (Ent × List UInt8) :=
 if Lib.indexByte l 32 = -1 then none else
 if modeB (l.take (Lib.indexByte l 32).toNat) = false then none else
 let r := l.drop ((Lib.indexByte l 32).toNat + 1)
 if Lib.indexByte r 0 = -1 then none else
 let n := r.take (Lib.indexByte r 0).toNat
 let q := r.drop ((Lib.indexByte r 0).toNat + 1)
 if partU n = false ∨ q.length < 20 then none else
 if (q.take 20).all (· == 0) = true then none else
 some (⟨bk (l.take (Lib.indexByte l 32).toNat), bk n, hexS (q.take 20)⟩, q.drop 20)
def lastOk (acc : List Ent) (x : Ent) : Bool := match acc.getLast? with | none => true | some y => lessB y.m y.n x.m x.n
def treeU : Nat → List UInt8 → List Ent → Option (List Ent)
 | 0, _, _ => none
 | f + 1, l, acc => if l = [] then some acc else match entU l with
  | none => none
  | some (x, r) => if x.n.data.toList ∈ acc.map (fun y => y.n.data.toList) ∨ lastOk acc x = false then none else treeU f r (acc ++ [x])
theorem modeB_zero {m : List UInt8} (h : modeB m = true) : (0 : UInt8) ∉ m ∧ (32 : UInt8) ∉ m := by
 unfold modeB at h
 simp only [Bool.or_eq_true, beq_iff_eq] at h
 rcases h with rfl | rfl | rfl | rfl | rfl <;> decide
theorem entU_len {l : List UInt8} {x : Ent} {r : List UInt8} (h : entU l = some (x, r)) : r.length + 22 ≤ l.length := by
 unfold entU at h
 rcases idx_cases 32 l with ⟨hi, _⟩ | ⟨i, hi, hil, _, _⟩
 · rw [hi] at h; simp at h
 · rw [hi, if_neg (by omega)] at h
   simp only [Int.toNat_natCast] at h
   split at h
   · exact absurd h (by simp)
   · rcases idx_cases 0 (l.drop (i + 1)) with ⟨hj, _⟩ | ⟨j, hj, hjl, _, _⟩
     · rw [hj] at h; simp at h
     · rw [hj, if_neg (by omega)] at h
       simp only [Int.toNat_natCast] at h
       split at h
       · exact absurd h (by simp)
       · next hq =>
         split at h
         · exact absurd h (by simp)
         · injection h with h
           injection h with _ h2
           subst h2
           simp only [List.length_drop] at hjl hq ⊢
           omega
/-- What the program asks of a tree's beginning. -/
def headOk (l : List UInt8) (i j : Nat) : Prop := Lib.indexByte l 32 = i ∧ Lib.indexByte l 0 = j ∧ i < j ∧ j + 21 ≤ l.length
theorem entU_no {l : List UInt8} (h : ∀ i j : Nat, ¬ headOk l i j) : entU l = none := by
 unfold entU
 rcases idx_cases 32 l with ⟨hi, _⟩ | ⟨i, hi, hil, hi3, hi4⟩
 · rw [hi]; rfl
 · rw [hi, if_neg (by omega)]
   simp only [Int.toNat_natCast]
   split
   · rfl
   · next hm =>
     have hz := modeB_zero (Bool.not_eq_false _ ▸ hm : modeB (l.take i) = true)
     rcases idx_cases 0 (l.drop (i + 1)) with ⟨hj, _⟩ | ⟨j, hj, hjl, hj3, hj4⟩
     · rw [hj]; rfl
     · rw [hj, if_neg (by omega)]
       simp only [Int.toNat_natCast]
       rw [if_pos]
       right
       have hx : Lib.indexByte l 0 = ((i + 1 + j : Nat) : Int) := by
        apply indexByte_at
        · rw [List.getElem?_drop] at hj3; exact hj3
        · intro k hk hc
          by_cases hki : k < i
          · exact hz.1 (List.mem_of_getElem? (by rw [List.getElem?_take, if_pos hki]; exact hc))
          · by_cases hke : k = i
            · subst hke; rw [hi3] at hc; exact absurd hc (by decide)
            · refine hj4 (List.mem_of_getElem? (i := k - (i + 1)) ?_)
              rw [List.getElem?_take, if_pos (by omega), List.getElem?_drop, show i + 1 + (k - (i + 1)) = k by omega]
              exact hc
       have hn := h i (i + 1 + j)
       simp only [headOk, hi, hx, true_and] at hn
       simp only [List.length_drop] at hjl ⊢
       omega
theorem entU_yes {l : List UInt8} {i j : Nat} (h : headOk l i j) : entU l = if modeB (l.take i) = true ∧ partU ((l.drop (i + 1)).take (j - i - 1)) = true ∧ ((l.drop (j + 1)).take 20).all (· == 0) = false then
 some (⟨bk (l.take i), bk ((l.drop (i + 1)).take (j - i - 1)), hexS ((l.drop (j + 1)).take 20)⟩, l.drop (j + 21)) else none := by
 obtain ⟨hi, hj, hij, hlen⟩ := h
 have hj0 := Lib.indexByte_some hj
 have hx : Lib.indexByte (l.drop (i + 1)) 0 = ((j - i - 1 : Nat) : Int) := by
  apply indexByte_at
  · rw [List.getElem?_drop, show i + 1 + (j - i - 1) = j by omega]; exact hj0.1
  · intro k hk hc
    rw [List.getElem?_drop] at hc
    exact hj0.2 _ (by omega) hc
 unfold entU
 rw [hi, if_neg (by omega)]
 simp only [Int.toNat_natCast]
 rw [hx]
 by_cases hm : modeB (l.take i) = true
 · rw [if_neg (by rw [hm]; decide), if_neg (by omega)]
   simp only [Int.toNat_natCast]
   have hq : (l.drop (i + 1)).drop (j - i - 1 + 1) = l.drop (j + 1) := by rw [List.drop_drop, show i + 1 + (j - i - 1 + 1) = j + 1 by omega]
   rw [hq]
   by_cases hp : partU ((l.drop (i + 1)).take (j - i - 1)) = true
   · rw [if_neg (by rw [hp, List.length_drop]; simp; omega)]
     by_cases hz : ((l.drop (j + 1)).take 20).all (· == 0) = true
     · rw [if_pos hz, if_neg (by rw [hz]; simp)]
     · rw [if_neg hz, if_pos ⟨hm, hp, by simpa using hz⟩, List.drop_drop]
   · rw [if_pos (.inl (by simpa using hp)), if_neg (fun h => hp h.2.1)]
 · rw [if_pos (by simpa using hm), if_neg (fun h => hm h.1)]
end Go.Proofs.YtihanglnjghcfaaGreatDoor
namespace Go.Proofs.YtihanglnjghcfaaGreatDoor
open Go.RowKit
set_option linter.unusedVariables false

theorem hexL_ok (xs : List Int) (hb : Bytes xs) : Bytes (hexL xs) := by
 have hh : ∀ n : Int, 0 ≤ n → n < 16 → 0 ≤ hexd n ∧ hexd n < 256 := fun n h0 h1 => by unfold hexd; split <;> omega
 induction xs with
 | nil => intro x hx; cases hx
 | cons y ys ih =>
  intro x hx
  have hy := hb y (by simp)
  rcases List.mem_append.1 hx with hx | hx
  · simp only [hexOf, List.mem_cons, List.not_mem_nil, or_false] at hx
    rcases hx with rfl | rfl
    · exact hh _ (by omega) (by omega)
    · exact hh _ (by omega) (by omega)
  · exact ih (fun z hz => hb z (by simp [hz])) x hx
end Go.Proofs.YtihanglnjghcfaaGreatDoor
namespace Go.Proofs.YtihanglnjghcfaaGreatDoor
open Go.RowKit
set_option linter.unusedVariables false
set_option linter.unusedSimpArgs false

theorem hexd_zero (x : Int) (h0 : 0 ≤ x) (h1 : x < 16) : hexd x = 48 ↔ x = 0 := by
 unfold hexd
 split <;> omega
theorem strOfNums_all (xs : List Int) (hb : Bytes xs) : zeroB (strOfNums xs) = xs.all (· == 48) := by
 unfold zeroB
 rw [← libBytes, bytesOf_str xs hb]
 unfold Lib.bytesOf
 rw [List.all_map, Bool.eq_iff_iff, List.all_eq_true, List.all_eq_true]
 constructor
 · intro h x hx
   have h1 := h x hx
   have h2 := hb x hx
   simp only [Function.comp, beq_iff_eq] at h1 ⊢
   have h3 := congrArg UInt8.toNat h1
   rw [UInt8.toNat_ofNat', Nat.mod_eq_of_lt (by omega)] at h3
   have : (48 : UInt8).toNat = 48 := rfl
   omega
 · intro h x hx
   have h1 := h x hx
   simp only [beq_iff_eq] at h1
   subst h1
   rfl
theorem hexOf_zero (x : Int) (h0 : 0 ≤ x) (h1 : x < 256) : ((hexOf x).all (· == 48)) = (x == 0) := by
 have e1 := hexd_zero (x / 16) (by omega) (by omega)
 have e2 := hexd_zero (x % 16) (by omega) (by omega)
 unfold hexOf
 rw [Bool.eq_iff_iff]
 simp only [List.all_cons, List.all_nil, Bool.and_true, Bool.and_eq_true, beq_iff_eq]
 rw [e1, e2]
 omega
theorem zero_hexS (id : List UInt8) : zeroB (hexS id) = id.all (· == 0) := by
 unfold hexS
 have hb := bytesOf_ok (bk id)
 rw [strOfNums_all _ (hexL_ok _ hb)]
 unfold bytesOf at hb ⊢
 rw [bk_list] at hb ⊢
 induction id with
 | nil => rfl
 | cons b id ih =>
  have hb2 : Bytes (id.map fun b => (b.toNat : Int)) := fun x hx => hb x (List.mem_cons_of_mem _ hx)
  have hb1 := hb (b.toNat : Int) (List.mem_cons_self ..)
  show ((hexOf (b.toNat : Int) ++ hexL (id.map fun b => (b.toNat : Int))).all (· == 48)) = _
  rw [List.all_append, hexOf_zero _ (by omega) (by omega), List.all_cons]
  rw [ih hb2]
  congr 1
  rw [Bool.eq_iff_iff, beq_iff_eq, beq_iff_eq]
  constructor
  · intro h; exact UInt8.toNat_inj.1 (by show b.toNat = 0; omega)
  · intro h; subst h; rfl

/-- Block b is a map from texts to how often they stand in the list. -/
def SeenM (w : World) (b n : Nat) (L : List (List UInt8)) : Prop :=
 ∃ D : DataW Unit, w.ownsMap Tryz.prog 9 (plainElem Tryz.prog 3) b n D ∧ Maps.IsMap D ∧ ∀ s : List UInt8, D.atKey (.string s) (.lit (.int .i64 0)) = .lit (.int .i64 ((L.count s : Nat) : Int))
theorem seen_law : Maps.Keyed Tryz.prog 9 := Maps.string_keyed Tryz.underlying9
theorem seen_zero (w : World) : (zeroValue 3).run Tryz.prog w = .ok (.int .i64 0) w := Tryz.zeroValue3 w
theorem SeenM.lt {w : World} {b n : Nat} {L : List (List UInt8)} (h : SeenM w b n L) : b < w.heap.size := by
 obtain ⟨D, h, _⟩ := h; exact h.lt
theorem SeenM.new (w : World) : SeenM (w.alloc (.map #[] 0)) w.heap.size 0 [] :=
 ⟨.map [], World.ownsMap_made w _ _ _, Maps.isMap_empty, fun s => rfl⟩
theorem SeenM.same {w w' : World} {b n : Nat} {L : List (List UInt8)} (h : SeenM w b n L) (hw : w'.heap[b]? = w.heap[b]?) : SeenM w' b n L := by
 obtain ⟨D, ⟨es, clock, hb, F, hs, hD⟩, h2, h3⟩ := h
 exact ⟨D, ⟨es, clock, hw.trans hb, F, hs, hD⟩, h2, h3⟩
theorem SeenM.below {w w' : World} {b n : Nat} {L : List (List UInt8)} (h : SeenM w b n L) (hb : Below w.heap.size w w') : SeenM w' b n L := h.same (hb.block b h.lt)
theorem SeenM.chg {S : Nat → Prop} {w w' : World} {b n : Nat} {L : List (List UInt8)} (h : SeenM w b n L) (hc : Chg S w w') (hn : ¬ S b) : SeenM w' b n L := h.same (hc.block b h.lt hn)
theorem SeenM.setCell {w : World} {b n : Nat} {L : List (List UInt8)} (h : SeenM w b n L) {a : Addr} (ha : b ≠ a.block) (u : Value) : SeenM (w.setCell a u) b n L := h.same (Below.heap_setCell _ _ _ _ ha)
theorem SeenM.look {w : World} {b n : Nat} {L : List (List UInt8)} (h : SeenM w b n L) (s : ByteArray) (hs : s.size ≤ 9223372036854775807) :
 (Instr.lookup 82 (.map (some b)) (.string s) false).run Tryz.prog w = .ok (.int .i64 ((L.count s.data.toList : Nat) : Int)) w := by
 obtain ⟨D, hown, _, hat⟩ := h
 obtain ⟨c, hrun, h2, _⟩ := hown.lookup_int seen_law Tryz.underlying82 Tryz.underlying3 (seen_zero w) (WideMaps.keyOf_string_mk Tryz.underlying9 (s := s) (by unfold maxLen; omega))
 have h3 := (hat s.data.toList).symm.trans h2
 rw [hrun]
 have h4 : ((L.count s.data.toList : Nat) : Int) = c := congrArg (fun d : DataW Unit => match d with | .lit (.int _ n) => n | _ => 0) h3
 rw [h4]
theorem SeenM.update {w : World} {b n : Nat} {L : List (List UInt8)} (h : SeenM w b n L) (hn : n < 9223372036854775807) (s : ByteArray) (hs : s.size ≤ 9223372036854775807) (hc : L.count s.data.toList < 9223372036854775807) :
 ∃ w', (Instr.mapUpdate 82 (.map (some b)) (.string s) (.int .i64 ((L.count s.data.toList : Nat) + 1 : Int))).run Tryz.prog w = .ok () w' ∧ SeenM w' b (n + 1) (s.data.toList :: L) ∧ w.grownBy w' (some b) := by
 obtain ⟨D, hown, hm, hat⟩ := h
 have hwf : (Lit.int .i64 ((L.count s.data.toList : Nat) + 1 : Int)).wf = true := by
  simp only [Lit.wf, IntKind.min, IntKind.max, IntKind.bits, IntKind.signed]
  simp
  omega
 obtain ⟨w', hrun, h1, h2⟩ := hown.update seen_law Tryz.underlying82 (by unfold maxLen; omega) (WideMaps.keyOf_string_mk Tryz.underlying9 (s := s) (by unfold maxLen; omega)) (plainElem_int Tryz.underlying3 hwf)
 refine ⟨w', hrun, ⟨_, h1, hm.put _ _, fun t => ?_⟩, h2⟩
 by_cases e : t = s.data.toList
 · subst e
   rw [Maps.atKey_put_same hm (by trivial), List.count_cons_self]
   rfl
 · rw [Maps.atKey_put_other (by intro h; injection h with h; exact e h), hat, List.count_cons_of_ne (Ne.symm e)]
/-- Entries as cells. -/
def entV (x : Ent) : List Value := [.string x.m, .string x.n, .string x.i]
def entVs (L : List Ent) : List Value := L.flatMap entV
theorem entVs_len (L : List Ent) : (entVs L).length = L.length * 3 := by
 unfold entVs
 induction L with
 | nil => rfl
 | cons x L ih => rw [List.flatMap_cons, List.length_append, ih]; simp [entV]; omega
theorem entVs_snoc (L : List Ent) (x : Ent) : entVs (L ++ [x]) = entVs L ++ entV x := by unfold entVs; rw [List.flatMap_append]; simp
theorem entVs_at (L : List Ent) (i : Nat) (x : Ent) (h : L[i]? = some x) : (entVs L)[i * 3]? = some (.string x.m) ∧ (entVs L)[i * 3 + 1]? = some (.string x.n) ∧ (entVs L)[i * 3 + 2]? = some (.string x.i) := by
 induction L generalizing i with
 | nil => simp at h
 | cons y L ih =>
  have e : entVs (y :: L) = entV y ++ entVs L := by unfold entVs; rw [List.flatMap_cons]
  rw [e]
  rcases i with _ | i
  · simp at h; subst h
    exact ⟨rfl, rfl, rfl⟩
  · have h' := ih i (by simpa using h)
    have el : (entV y).length = 3 := rfl
    rw [List.getElem?_append_right (by rw [el]; omega), List.getElem?_append_right (by rw [el]; omega), List.getElem?_append_right (by rw [el]; omega), el]
    rw [show (i + 1) * 3 - 3 = i * 3 by omega, show (i + 1) * 3 + 1 - 3 = i * 3 + 1 by omega, show (i + 1) * 3 + 2 - 3 = i * 3 + 2 by omega]
    exact h'
theorem OwnS.entsAt {w : World} {B n c : Nat} {A : Option Addr} {L : List Ent} (h : OwnS w B 116 3 (.slice A n c) n (entVs L)) : EntsAt w A L := fun hl => by
 obtain ⟨g, off, c', hv, hb, hg, hc⟩ := h.cells (by rw [entVs_len]; omega)
 injection hv with hA _ _
 refine ⟨g, off, hA, hg, fun i x hx => ?_⟩
 have hi := (List.getElem?_eq_some_iff.1 hx).1
 have hat := entVs_at L i x hx
 have e := entVs_len L
 refine ⟨?_, ?_, ?_⟩
 · rw [hc (i * 3) (by omega)]; exact hat.1
 · rw [Nat.add_assoc, hc (i * 3 + 1) (by omega)]; exact hat.2.1
 · rw [Nat.add_assoc, hc (i * 3 + 2) (by omega)]; exact hat.2.2
theorem info_ent : (Tryz.prog.info? 116).map (fun i => (i.zero, i.size, i.bytes)) = some (some (.agg #[.string ⟨#[]⟩, .string ⟨#[]⟩, .string ⟨#[]⟩]), 3, 48) := by kernel_rfl
end Go.Proofs.YtihanglnjghcfaaGreatDoor
