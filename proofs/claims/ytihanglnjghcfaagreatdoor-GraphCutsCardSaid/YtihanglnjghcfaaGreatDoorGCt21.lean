/- The law's add: one object more. -/
import Derived.Test.YtihanglnjghcfaaGreatDoorGCt19
import Derived.Test.YtihanglnjghcfaaGreatDoorGCt20
import Derived.Test.YtihanglnjghcfaaGreatDoorGCt15
namespace Go.Proofs.YtihanglnjghcfaaGreatDoor
open Go.RowKit Go.Maps
set_option linter.unusedVariables false
set_option linter.unusedSimpArgs false

theorem and63 (n : Int) : ∃ N : Nat, bits .and .i64 n 63 = (N : Int) ∧ N < 64 := by
 have h127 : (BitVec.ofInt 64 63).toNat = 2 ^ 6 - 1 := by decide
 have key : (BitVec.ofInt 64 n &&& BitVec.ofInt 64 63).toNat = (n % ((2 ^ 64 : Nat) : Int)).toNat % 2 ^ 6 := by
  rw [BitVec.toNat_and, BitVec.toNat_ofInt, h127, Nat.and_two_pow_sub_one_eq_mod]
 refine ⟨(n % ((2 ^ 64 : Nat) : Int)).toNat % 2 ^ 6, ?_, by omega⟩
 show IntKind.i64.wrap ((BitVec.ofInt 64 n &&& BitVec.ofInt 64 63).toNat : Nat) = _
 rw [key, IntWalk.i64_in _ (by omega)]
theorem and15 (n : Int) : ∃ N : Nat, bits .and .i64 n 15 = (N : Int) ∧ N < 16 := by
 have h127 : (BitVec.ofInt 64 15).toNat = 2 ^ 4 - 1 := by decide
 have key : (BitVec.ofInt 64 n &&& BitVec.ofInt 64 15).toNat = (n % ((2 ^ 64 : Nat) : Int)).toNat % 2 ^ 4 := by
  rw [BitVec.toNat_and, BitVec.toNat_ofInt, h127, Nat.and_two_pow_sub_one_eq_mod]
 refine ⟨(n % ((2 ^ 64 : Nat) : Int)).toNat % 2 ^ 4, ?_, by omega⟩
 show IntKind.i64.wrap ((BitVec.ofInt 64 n &&& BitVec.ofInt 64 15).toNat : Nat) = _
 rw [key, IntWalk.i64_in _ (by omega)]
theorem and7 (n : Int) : ∃ N : Nat, bits .and .i64 n 7 = (N : Int) ∧ N < 8 := by
 have h127 : (BitVec.ofInt 64 7).toNat = 2 ^ 3 - 1 := by decide
 have key : (BitVec.ofInt 64 n &&& BitVec.ofInt 64 7).toNat = (n % ((2 ^ 64 : Nat) : Int)).toNat % 2 ^ 3 := by
  rw [BitVec.toNat_and, BitVec.toNat_ofInt, h127, Nat.and_two_pow_sub_one_eq_mod]
 refine ⟨(n % ((2 ^ 64 : Nat) : Int)).toNat % 2 ^ 3, ?_, by omega⟩
 show IntKind.i64.wrap ((BitVec.ofInt 64 n &&& BitVec.ofInt 64 7).toNat : Nat) = _
 rw [key, IntWalk.i64_in _ (by omega)]
/-- One of that kind and ID is kept. -/
def HasK (R : List Kn) (k : Int) (d : Gid) : Prop := ∃ y ∈ R, y.kd = k ∧ y.id = d
def textW : ByteArray := ⟨#[116, 101, 120, 116, 32]⟩
def perW : ByteArray := ⟨#[65, 32, 60, 97, 62, 32, 49, 32, 43, 48, 48, 48, 48]⟩
def entA (u : Gid) : Ent := ⟨⟨#[49, 48, 48, 54, 52, 52]⟩, ⟨#[97]⟩, bk u⟩
def entB (N : Nat) (t : Gid) : Ent := ⟨⟨#[52, 48, 48, 48, 48]⟩, ⟨#[98]⟩ ++ strOfNums (digL N), bk t⟩
def tagBt (c : Gid) (N : Nat) : ByteArray := tagS (bk c) (strOfNums (nameL 1)) ((⟨#[118]⟩ : ByteArray) ++ strOfNums (digL N)) perW ⟨#[116]⟩
def comBt (t : Gid) (P : List Gid) (N : Nat) : ByteArray := strOfNums (commitL (bk t) (P.map bk) perW perW (strOfNums (digL N)))
/-- How an object was made, out of those kept. -/
def MadeIn (R : List Kn) (x : Kn) : Prop :=
 (x.kd = 3 ∧ ∃ N : Nat, N < 64 ∧ x.b = (textW ++ strOfNums (digL N)).data.toList) ∨
 (x.kd = 2 ∧ ∃ u, HasK R 3 u ∧ (x.b = (strOfNums (treeL [entA u])).data.toList ∨ ∃ N t, N < 8 ∧ HasK R 2 t ∧ x.b = (strOfNums (treeL [entA u, entB N t])).data.toList)) ∨
 (x.kd = 4 ∧ ∃ c N, HasK R 1 c ∧ N < 8 ∧ x.b = (tagBt c N).data.toList) ∨
 (x.kd = 1 ∧ ∃ (t : Gid) (P : List Gid) (N : Nat), HasK R 2 t ∧ (∀ p ∈ P, HasK R 1 p) ∧ P.length ≤ 2 ∧ N < 16 ∧ x.b = (comBt t P N).data.toList)
/-- The kept ones' IDs. -/
def IdR (R : List Kn) : Prop := ∀ x ∈ R, x.id = idK x.kd x.b
theorem idK_len (k : Int) (b : List UInt8) : (idK k b).length = 40 := by
 unfold idK
 rw [← Lib.size_eq, strOfNums_size, hexL_len, shaAll_eq, shaTo_len]
theorem HasK.len {R : List Kn} {k : Int} {d : Gid} (h : HasK R k d) (hR : IdR R) : d.length = 40 := by
 obtain ⟨y, hy, _, rfl⟩ := h
 rw [hR y hy, idK_len]
/-- One step of making: nothing, or one more that was not there. -/
def MadeStep (R R' : List Kn) : Prop := R' = R ∨ ∃ x, R' = R ++ [x] ∧ getK R x.id = none ∧ x.id = idK x.kd x.b ∧ MadeIn R x ∧ x.b.length ≤ 2000
theorem addK_step {R : List Kn} {k : Int} {b : List UInt8} (h : MadeIn R ⟨k, b, idK k b⟩) (hb : b.length ≤ 2000) : MadeStep R (addK R k b) := by
 unfold addK
 cases hg : getK R (idK k b) with
 | none => exact .inr ⟨⟨k, b, idK k b⟩, rfl, hg, rfl, h, hb⟩
 | some y => exact .inl rfl
theorem digN_size (N : Nat) (h : N < 64) : (strOfNums (digL N)).size ≤ 65 := by
 rw [strOfNums_size]
 have := digL_len N
 omega
theorem OwnS.new3 (w : World) (base : Nat) (hb : base ≤ w.heap.size) (a b c : Value) (t : TypeId) : OwnS (w.alloc (.cells #[a, b, c] t)) base t 3 (.slice (some ⟨w.heap.size, 0, none⟩) 1 1) 1 [a, b, c] :=
 ⟨rfl, .inr ⟨w.heap.size, 0, 1, #[a, b, c], rfl, hb, ⟨_, heap_alloc_new w _, .inl (Nat.le_refl _)⟩, Nat.le_refl _, by unfold maxLen; omega, by simp, by simp⟩⟩
theorem info_en3 : (Tryz.prog.info? 116).map (fun i => (i.zero, i.size, i.bytes)) = some (some (.agg #[.string ⟨#[]⟩, .string ⟨#[]⟩, .string ⟨#[]⟩]), 3, 48) := by kernel_rfl
theorem celSet2 {w : World} {g : Nat} {k : Int} {d : ByteArray} {v0 : Value} (h : CelV w g (treV k d v0)) (v : Value) : CelV (w.setCell ⟨g, 2, none⟩ v) g (treV k d v) :=
 (Cel.set h 2 v).congr fun j hj => by
  have : j = 0 ∨ j = 1 ∨ j = 2 ∨ j = 3 ∨ j = 4 ∨ j = 5 ∨ j = 6 ∨ j = 7 ∨ j = 8 ∨ j = 9 ∨ j = 10 ∨ j = 11 := by omega
  rcases this with rfl | rfl | rfl | rfl | rfl | rfl | rfl | rfl | rfl | rfl | rfl | rfl <;> rfl
/-- A tree on its way: the object, its entries. -/
def TrI (B g8 : Nat) (L : List Ent) (w : World) : Prop := ∃ A c, CelV w g8 (treV 2 ⟨#[]⟩ (.slice A L.length c)) ∧ OwnS w B 116 3 (.slice A L.length c) L.length (entVs L)
def ITe (w0 : World) (B g8 : Nat) (v0 : Value) (dg : ByteArray) (e1 e2 : Ent) : List Value → World → Prop
 | [], w => Below w0.heap.size w0 w
 | [v], w => v = .string dg ∧ Below w0.heap.size w0 w
 | [_, v], w => (∃ g, v = .slice (some ⟨g, 0, none⟩) 1 1 ∧ Src Tryz.prog w 3 v 1 (entV e2)) ∧ Below w0.heap.size w0 w
 | [_, _, v], w => (∃ A c, v = .slice A 2 c ∧ OwnS w B 116 3 v 2 (entVs [e1, e2])) ∧ CelV w g8 (treV 2 ⟨#[]⟩ v0) ∧ Below B w0 w
 | _ :: _ :: _ :: _, w => TrI B g8 [e1, e2] w ∧ Below B w0 w
theorem tree1_len (u : Gid) : (treeL [entA u]).length ≤ 1000 := by
 simp only [treeL, List.flatMap_cons, List.flatMap_nil, List.append_nil, entL_len]
 unfold entA
 show 6 + 1 + 1 + 1 + 20 ≤ 1000
 decide
theorem tree2_len (u t : Gid) (N : Nat) (h : N < 64) : (treeL [entA u, entB N t]).length ≤ 1000 := by
 have h2 := digN_size N h
 have h1 : (entL (entA u)).length = 29 := by rw [entL_len]; rfl
 have h3 : (entL (entB N t)).length = 28 + (strOfNums (digL N)).size := by
  rw [entL_len]
  have e1 : (entB N t).m.size = 5 := rfl
  have e2 : (entB N t).n.size = 1 + (strOfNums (digL N)).size := by
   show ((⟨#[98]⟩ : ByteArray) ++ strOfNums (digL N)).size = _
   rw [ByteArray.size_append]; rfl
  rw [e1, e2]; omega
 simp only [treeL, List.flatMap_cons, List.flatMap_nil, List.append_nil, List.length_append, h1, h3]
 omega
theorem celSet4 {w : World} {g : Nat} {t : ByteArray} {v0 : Value} {a c m : ByteArray} (h : CelV w g (comV t v0 a c m)) (v : Value) : CelV (w.setCell ⟨g, 4, none⟩ v) g (comV t v a c m) :=
 (Cel.set h 4 v).congr fun j hj => by
  have : j = 0 ∨ j = 1 ∨ j = 2 ∨ j = 3 ∨ j = 4 ∨ j = 5 ∨ j = 6 ∨ j = 7 ∨ j = 8 ∨ j = 9 ∨ j = 10 ∨ j = 11 := by omega
  rcases this with rfl | rfl | rfl | rfl | rfl | rfl | rfl | rfl | rfl | rfl | rfl | rfl <;> rfl
theorem com_len (t : Gid) (P : List Gid) (N : Nat) (ht : t.length ≤ 40) (hp : P.length ≤ 2) (hP : ∀ p ∈ P, p.length ≤ 40) (h : N < 64) : (commitL (bk t) (P.map bk) perW perW (strOfNums (digL N))).length ≤ 1000 := by
 have h2 := digN_size N h
 have h3 : (parL (P.map bk)).length ≤ 96 := by
  unfold parL
  match P, hp, hP with
  | [], _, _ => simp
  | [p], _, hP =>
   have := hP p (by simp)
   simp only [List.map_cons, List.map_nil, List.flatMap_cons, List.flatMap_nil, List.append_nil, bytesOf_len, parS_size, bk_size]
   omega
  | [p, q], _, hP =>
   have := hP p (by simp)
   have := hP q (by simp)
   simp only [List.map_cons, List.map_nil, List.flatMap_cons, List.flatMap_nil, List.append_nil, List.length_append, bytesOf_len, parS_size, bk_size]
   omega
 unfold commitL
 rw [List.length_append, List.length_append, bytesOf_len, bytesOf_len, headS_size, tailS_size, bk_size]
 have h4 : perW.size = 13 := rfl
 rw [h4]
 omega
theorem tag_len (c : Gid) (N : Nat) (hc : c.length ≤ 40) (h : N < 64) : (tagBt c N).size ≤ 1000 := by
 unfold tagBt
 have h2 := digN_size N h
 have e1 : (strOfNums (nameL 1)).size ≤ 6 := by rw [strOfNums_size]; exact nameL_len 1
 have e2 : ((⟨#[118]⟩ : ByteArray) ++ strOfNums (digL N)).size = 1 + (strOfNums (digL N)).size := by rw [ByteArray.size_append]; rfl
 rw [tagS_size, e2, bk_size]
 have e3 : perW.size = 13 := rfl
 have e4 : (⟨#[116]⟩ : ByteArray).size = 1 := rfl
 rw [e3, e4]
 omega
/-- A commit on its way. -/
def CmI (B g : Nat) (t : Gid) (P : List Gid) (m : ByteArray) (n : Nat) (A : Option Addr) (c : Nat) (w : World) : Prop :=
 CelV w g (comV (bk t) (.slice A n c) perW perW m) ∧ OwnS w B 9 1 (.slice A n c) n (strVs P)
def LAddPost (K : Nat → Prop) (r : Nat) (R : List Kn) (w : World) (e : Ending) (w' : World) : Prop :=
 e = .returned (.tuple #[]) ∧ ∃ R', RepAt w' K r R' ∧ Chg K w w' ∧ MadeStep R R'
set_option maxRecDepth 100000 in
set_option maxHeartbeats 4000000 in
theorem ladd_any (K : Nat → Prop) (r : Nat) (R : List Kn) (kind n : Nat) (w : World) (h : RepAt w K r R) (hK : ∀ k, w.heap.size ≤ k → K k) (hl : R.length ≤ 1000) (hR : IdR R) (hn : n ≤ 1048576) :
 Calls Tryz.prog 32 #[.pointer (some ⟨r, 0, none⟩), .int .i64 (kind : Int), .int .i64 (n : Int)] w (LAddPost K r R w) := by
 have HP := Lib.hid (fun (k : Int) (m : Nat) (W : World) (hW : RepAt W K r R) (hm : m ≤ 1048576) => pick_any K r R k m W hW (by omega) hm)
 have HA := Lib.hid (fun (k : Int) (b : List UInt8) (W : World) (hW : RepAt W K r R) (hKW : ∀ k, W.heap.size ≤ k → K k) (hb : b.length ≤ 2000) => radd_any K r R k b W hW hKW (by omega) (by omega))
 have HRW := Lib.hid h
 have HK := Lib.hid hK
 have HR := Lib.hid hR
 have HN := Lib.hid hn
 have hd3 : IntKind.i64.wrap ((n : Int) / 3) = ((n / 3 : Nat) : Int) := by rw [IntWalk.i64_in _ (by omega)]; rfl
 clear h hK hl hR hn
 go_enter Tryz.func32, Tryz.ntmps32
 go_wp2_with fail
 refine (HP.out 3 n w HRW.out HN.out).mono ?_
 rintro e w1 ⟨rfl, hb1⟩
 have HR1 := Lib.hid (HRW.out.below hb1)
 have HB1 := Lib.hid hb1
 clear hb1
 go_wp2_with fail
 refine (HP.out 2 (n / 3) w1 HR1.out (by have := HN.out; omega)).mono ?_
 rintro e w2 ⟨rfl, hb2⟩
 have HR2 := Lib.hid (HR1.out.below hb2)
 have HB2 := Lib.hid (HB1.out.trans (hb2.mono HB1.out.size))
 clear hb2 hd3
 have hp3 := pickK_of R 3 n
 have hp2 := pickK_of R 2 (n / 3)
 generalize pickK R 3 n = blob at *
 generalize pickK R 2 (n / 3) = tree at *
 have HP3 := Lib.hid hp3
 have HP2 := Lib.hid hp2
 clear hp3 hp2
 have hbl40 : blob.length ≤ 40 := by
  rcases HP3.out with h | ⟨x, hx, _, he⟩
  · rw [h]; simp
  · rw [← he, HR.out x hx, idK_len]; exact Nat.le_refl _
 have htr40 : tree.length ≤ 40 := by
  rcases HP2.out with h | ⟨x, hx, _, he⟩
  · rw [h]; simp
  · rw [← he, HR.out x hx, idK_len]; exact Nat.le_refl _
 have HLN := Lib.hid (And.intro hbl40 htr40)
 have HKB : Hid (∀ k, w2.heap.size ≤ k → K k) := Lib.hid (fun k hk => HK.out k (by have := HB2.out.size; omega))
 have HEND : Hid (∀ (k : Int) (b : List UInt8) (e : Ending) (w3 w4 : World), Below w2.heap.size w2 w3 → MadeIn R ⟨k, b, idK k b⟩ → b.length ≤ 2000 → AddK K r R k b w3 e w4 → LAddPost K r R w (.returned (.tuple #[])) w4) := Lib.hid (fun k b e w3 w4 hb3 hm hb ha => ⟨rfl, _, ha.2.1, ((Chg.of_below (S := K) HB2.out).trans (Chg.of_below (S := K) hb3) (fun _ _ h => h)).trans ha.2.2 (fun _ _ h => h), addK_step hm hb⟩)
 clear hbl40 htr40
 go_upto_region 9 with (fail)
 go_cut [67] (fun v67 wx => (∃ bb : Bool, v67 = .bool bb ∧ bb = decide (kind = 0 ∨ blob = [])) ∧ wx = w2)
 case first => as_aux_lemma =>
  by_cases hk0 : kind = 0
  · have d1 : ((kind : Int) == 0) = true := by rw [beq_iff_eq]; omega
    go_wp2_with fail
    go_meet
    exact ⟨⟨true, rfl, by simp [hk0]⟩, rfl⟩
  · have d1 : ((kind : Int) == 0) = false := by rw [beq_eq_false_iff_ne]; omega
    have d1' : ¬ (kind : Int) = 0 := by omega
    by_cases hb0 : blob = []
    · have q0 : ((bk blob).toList == []) = true := by rw [Lib.toList_data, bk_list, hb0]; rfl
      have q0' : (bk blob).toList.isEmpty = true := by rw [Lib.toList_data, bk_list, hb0]; rfl
      have HB0 := Lib.hid hb0
      clear hb0
      go_wp2_with fail
      go_meet
      exact ⟨⟨true, rfl, by simp [HB0.out]⟩, rfl⟩
    · have q0 : ((bk blob).toList == []) = false := by rw [Lib.toList_data, bk_list, beq_eq_false_iff_ne]; exact hb0
      have q0' : (bk blob).toList.isEmpty = false := by rw [Lib.toList_data, bk_list, List.isEmpty_eq_false_iff]; exact hb0
      go_wp2_with fail
      go_meet
      exact ⟨⟨false, rfl, by simp [hk0, hb0]⟩, rfl⟩
 case rest =>
  obtain ⟨⟨bb, rfl, hbb⟩, hwc⟩ := hcut
  rw [← hwc] at HB2 HR2 HKB HEND
  clear hwc
  by_cases c1 : kind = 0 ∨ blob = []
  · obtain rfl : bb = true := hbb.trans (decide_eq_true c1)
    obtain ⟨N, hN, hN2⟩ := and63 (n : Int)
    have HNN := Lib.hid hN2
    clear c1 hbb hN2
    go_wp2_with fail
    refine (digits_any N wc (by have := HNN.out; omega)).mono ?_
    rintro e w3 ⟨rfl, hb3⟩
    have hsz := digN_size N HNN.out
    have HSZ := Lib.hid hsz
    have hm : MadeIn R ⟨3, (textW ++ strOfNums (digL N)).data.toList, idK 3 (textW ++ strOfNums (digL N)).data.toList⟩ := .inl ⟨rfl, N, HNN.out, rfl⟩
    have hbl : (textW ++ strOfNums (digL N)).data.toList.length ≤ 2000 := by rw [← Lib.size_eq, ByteArray.size_append]; show 5 + _ ≤ _; omega
    have HE := Lib.hid (fun e w4 => HEND.out 3 _ e w3 w4 hb3 hm hbl)
    have HAD := HA.out 3 (textW ++ strOfNums (digL N)).data.toList w3 (HR2.out.below hb3) (fun k hk => HKB.out k (by have := hb3.size; omega)) hbl
    rw [bk_of] at HAD
    have HADH := Lib.hid HAD
    unfold textW at HADH
    clear hm hbl HAD hb3
    go_wp2_with fail
    refine HADH.out.mono ?_
    intro e w4 ha
    have HF := Lib.hid (HE.out e w4 ha)
    obtain rfl := ha.1
    clear ha
    go_wp2
    refine ⟨rfl, _, results_none rfl _ _ _, ?_⟩
    exact HF.out
  · obtain rfl : bb = false := hbb.trans (decide_eq_false c1)
    have HBK : Hid (HasK R 3 blob) := Lib.hid (by
     rcases HP3.out with h | ⟨y, hy, h1, h2⟩
     · exact absurd (.inr h) c1
     · exact ⟨y, hy, h1, h2⟩)
    clear c1 hbb
    go_upto_region 11 with (fail)
    go_cut [80] (fun v80 wx => (∃ bb : Bool, v80 = .bool bb ∧ bb = decide (kind = 1 ∨ tree = [])) ∧ wx = wc)
    case first => as_aux_lemma =>
     by_cases hk0 : kind = 1
     · have d1 : ((kind : Int) == 1) = true := by rw [beq_iff_eq]; omega
       go_wp2_with fail
       go_meet
       exact ⟨⟨true, rfl, by simp [hk0]⟩, rfl⟩
     · have d1 : ((kind : Int) == 1) = false := by rw [beq_eq_false_iff_ne]; omega
       have d1' : ¬ (kind : Int) = 1 := by omega
       by_cases hb0 : tree = []
       · have q0 : ((bk tree).toList == []) = true := by rw [Lib.toList_data, bk_list, hb0]; rfl
         have q0' : (bk tree).toList.isEmpty = true := by rw [Lib.toList_data, bk_list, hb0]; rfl
         have HB0 := Lib.hid hb0
         clear hb0
         go_wp2_with fail
         go_meet
         exact ⟨⟨true, rfl, by simp [HB0.out]⟩, rfl⟩
       · have q0 : ((bk tree).toList == []) = false := by rw [Lib.toList_data, bk_list, beq_eq_false_iff_ne]; exact hb0
         have q0' : (bk tree).toList.isEmpty = false := by rw [Lib.toList_data, bk_list, List.isEmpty_eq_false_iff]; exact hb0
         go_wp2_with fail
         go_meet
         exact ⟨⟨false, rfl, by simp [hk0, hb0]⟩, rfl⟩
    case rest =>
     obtain ⟨⟨bb, rfl, hbb⟩, hwc⟩ := hcut
     rw [← hwc] at HB2 HR2 HKB HEND
     clear hwc
     by_cases c2 : kind = 1 ∨ tree = []
     · obtain rfl : bb = true := hbb.trans (decide_eq_true c2)
       clear c2 hbb
       have hE0 := OwnS.new3 wc wc.heap.size (Nat.le_refl _) (.string ⟨#[49, 48, 48, 54, 52, 52]⟩) (.string ⟨#[97]⟩) (.string (bk blob)) 116
       have hB1 : Below wc.heap.size wc (wc.alloc (.cells #[.string ⟨#[49, 48, 48, 54, 52, 52]⟩, .string ⟨#[97]⟩, .string (bk blob)] 116)) := (Below.refl _ _).alloc (Nat.le_refl _) _
       have hs1 : (wc.alloc (.cells #[.string ⟨#[49, 48, 48, 54, 52, 52]⟩, .string ⟨#[97]⟩, .string (bk blob)] 116)).heap.size = wc.heap.size + 1 := by simp
       have hV := CelV.new (wc.alloc (.cells #[.string ⟨#[49, 48, 48, 54, 52, 52]⟩, .string ⟨#[97]⟩, .string (bk blob)] 116)) (treV 2 ⟨#[]⟩ (.slice (some ⟨wc.heap.size, 0, none⟩) 1 1)) rfl
       rw [hs1] at hV
       have hE1 := hE0.alloc (.cells (treV 2 ⟨#[]⟩ (.slice (some ⟨wc.heap.size, 0, none⟩) 1 1)) 67)
       have hB2 : Below wc.heap.size wc ((wc.alloc (.cells #[.string ⟨#[49, 48, 48, 54, 52, 52]⟩, .string ⟨#[97]⟩, .string (bk blob)] 116)).alloc (.cells (treV 2 ⟨#[]⟩ (.slice (some ⟨wc.heap.size, 0, none⟩) 1 1)) 67)) := hB1.trans (((Below.refl _ _).alloc (Nat.le_refl _) _).mono hB1.size)
       unfold treV at hV hE1 hB2
       go_upto_region 13 with (fail)
       generalize (wc.alloc (.cells #[.string ⟨#[49, 48, 48, 54, 52, 52]⟩, .string ⟨#[97]⟩, .string (bk blob)] 116)).alloc (.cells #[.int .i64 2, .string ⟨#[]⟩, .slice (some ⟨wc.heap.size, 0, none⟩) 1 1, .string ⟨#[]⟩, .slice none 0 0, .string ⟨#[]⟩, .string ⟨#[]⟩, .string ⟨#[]⟩, .string ⟨#[]⟩, .int .i64 0, .string ⟨#[]⟩, .string ⟨#[]⟩] 67) = w8 at *
       have HV : Hid (CelV w8 (wc.heap.size + 1) (treV 2 ⟨#[]⟩ (.slice (some ⟨wc.heap.size, 0, none⟩) 1 1))) := Lib.hid hV
       have HE1 : Hid (OwnS w8 wc.heap.size 116 3 (.slice (some ⟨wc.heap.size, 0, none⟩) 1 1) 1 (entVs [entA blob])) := Lib.hid hE1
       have HB8 := Lib.hid hB2
       clear hE0 hB1 hs1 hV hE1 hB2
       have HTR1 : Hid (TrI wc.heap.size (wc.heap.size + 1) [entA blob] w8) := Lib.hid ⟨_, _, HV.out, HE1.out⟩
       generalize hgg : wc.heap.size + 1 = g8 at *
       have HEQ8 := Lib.hid hgg
       clear hgg
       by_cases ht : tree = []
       · have q0 : ((bk tree).toList == []) = true := by rw [Lib.toList_data, bk_list, ht]; rfl
         have q0' : (bk tree).toList.isEmpty = true := by rw [Lib.toList_data, bk_list, ht]; rfl
         clear ht
         obtain ⟨Al, cl, hcv, hol⟩ := HTR1.out
         have hsz : (treeL [entA blob]).length ≤ 1000 := tree1_len _
         have HCVV := Lib.hid hcv
         have HREF := Lib.hid (refTree_any ⟨#[]⟩ Al 1 cl [entA blob] ⟨#[]⟩ (.slice none 0 0) ⟨#[]⟩ ⟨#[]⟩ ⟨#[]⟩ ⟨#[]⟩ 0 ⟨#[]⟩ ⟨#[]⟩ w8 hol.entsAt rfl (by decide) (fun x hx => by have h := HLN.out; simp only [List.mem_cons, List.not_mem_nil, or_false] at hx; subst hx; unfold entA; show (bk blob).size ≤ _; rw [bk_size]; omega) (by omega))
         have hm : MadeIn R ⟨2, (strOfNums (treeL [entA blob])).data.toList, idK 2 (strOfNums (treeL [entA blob])).data.toList⟩ := .inr (.inl ⟨rfl, blob, HBK.out, .inl rfl⟩)
         have hbl : (strOfNums (treeL [entA blob])).data.toList.length ≤ 2000 := by rw [← Lib.size_eq, strOfNums_size]; omega
         have HADH := Lib.hid (fun w3 (hb3 : Below wc.heap.size wc w3) => HA.out 2 (strOfNums (treeL [entA blob])).data.toList w3 (HR2.out.below hb3) (fun k hk => HKB.out k (by have := hb3.size; omega)) hbl)
         rw [bk_of] at HADH
         have HE := Lib.hid (fun w3 (hb3 : Below wc.heap.size wc w3) e w4 => HEND.out 2 _ e w3 w4 hb3 hm hbl)
         clear hcv hol hm hbl hsz
         go_upto_region 15 with (fail)
         go_wp2_with (refine wpList_load_part (vs := treV 2 ⟨#[]⟩ (.slice Al 1 cl)) (off := 0) rfl (.tmp 8) rfl rfl HCVV.out Tryz.underlying67 rfl info_o8 (Nat.le_refl 12) (fun j hj => by rw [Nat.zero_add]; exact getD_some hj) ?_)
         refine HREF.out.mono ?_
         rintro e w10 ⟨rfl, hb10⟩
         have HB10 := Lib.hid (HB8.out.trans (hb10.mono HB8.out.size))
         clear hb10
         go_wp2_with fail
         refine (HADH.out w10 HB10.out).mono ?_
         intro e w4 ha
         have HF := Lib.hid (HE.out w10 HB10.out e w4 ha)
         obtain rfl := ha.1
         clear ha
         go_wp2
         refine ⟨rfl, _, results_none rfl _ _ _, ?_⟩
         exact HF.out
       · have HHT : Hid (HasK R 2 tree) := Lib.hid (by
          rcases HP2.out with h | ⟨y, hy, h1, h2⟩
          · exact absurd h ht
          · exact ⟨y, hy, h1, h2⟩)
         have q0 : ((bk tree).toList == []) = false := by rw [Lib.toList_data, bk_list, beq_eq_false_iff_ne]; exact ht
         have q0' : (bk tree).toList.isEmpty = false := by rw [Lib.toList_data, bk_list, List.isEmpty_eq_false_iff]; exact ht
         clear ht
         by_cases hb1 : bits .and .i64 (n : Int) 1 = 0
         · obtain ⟨N, hN, hN2⟩ := and7 (n : Int)
           have HNN := Lib.hid hN2
           clear hN2
           go_upto_region 14 with (fail)
           have HDG := Lib.hid (fun W => digits_any N W (by have := HNN.out; omega))
           have hsd := digN_size N (by have := HNN.out; omega)
           have HSD := Lib.hid hsd
           obtain ⟨i0, hi, hz0, hz1, hz2⟩ := info_parts info_en3
           have HI0 := Lib.hid (show ITe w8 wc.heap.size g8 (.slice (some ⟨wc.heap.size, 0, none⟩) 1 1) (strOfNums (digL N)) (entA blob) (entB N tree) [] w8.drew from (Below.refl _ _).drew)
           have HNN3 := Lib.hid hN
           clear hsd
           refine wp_region_ph (by kernel_rfl) [4, 8, 9, 11] [.span 0 2, .span 0 2, .span 0 0, .span 0 0, .phase 0, .span 1 1, .span 0 1, .span 1 1, .phase 1, .phase 2, .span 3 3, .phase 3] [fun z9 => z9 = .pointer (some ⟨g8, 2, none⟩), fun z9 => z9 = .slice (some ⟨wc.heap.size, 0, none⟩) 1 1, fun z9 => z9 = .int .i64 (n : Int), fun z9 => z9 = .int .i64 (N : Int), fun z9 => z9 = .string (strOfNums (digL N)), fun z9 => z9 = .string ((⟨#[98]⟩ : ByteArray) ++ strOfNums (digL N)), fun z9 => z9 = .string (bk tree), fun z9 => z9 = .agg #[.string ⟨#[52, 48, 48, 48, 48]⟩, .string ((⟨#[98]⟩ : ByteArray) ++ strOfNums (digL N)), .string (bk tree)], fun _ => True, fun _ => True, fun z9 => z9 = .pointer (some ⟨g8, 2, none⟩), fun _ => True] ((ITe w8 wc.heap.size g8 (.slice (some ⟨wc.heap.size, 0, none⟩) 1 1) (strOfNums (digL N)) (entA blob) (entB N tree))) (by kernel_rfl) (by kernel_rfl) (by kernel_rfl) (by kernel_rfl) (by kernel_rfl) (by kernel_rfl) rfl rfl (HI0.out) ?steps ?done
           case steps =>
            refine ⟨?_, ?_, ?_, ?_, ?_, ?_, ?_, ?_, ?_, ?_, ?_, ?_, trivial⟩
            · intro us au w1 k0 hlo hhi ha hd hst hI
              have q8 := slot_far (t := 8) (v := .pointer (some ⟨g8, 0, none⟩)) ha (by kernel_rfl) (by kernel_rfl)
              have p8 := slot_norm q8
              clear ha hd hst
              exact StepI.pure (v := .pointer (some ⟨g8, 2, none⟩)) rfl rfl (by go_simp) ⟨rfl, hI⟩
            · intro us au w1 k1 hlo hhi ha hd hst hI
              have e0 := hd 0 _ (by kernel_rfl) rfl
              have q98 := slot_at (t := 98) 0 ha (by kernel_rfl) (by kernel_rfl) (by kernel_rfl) e0
              have p98 := slot_norm q98
              clear ha hd hst
              have hb : Below w8.heap.size w8 w1 := by rcases (show k1 = 0 ∨ k1 = 1 ∨ k1 = 2 by omega) with rfl | rfl | rfl <;> first | exact hI | exact hI.2
              have kk : w1.cell? ⟨g8, 2, none⟩ = some (.slice (some ⟨wc.heap.size, 0, none⟩) 1 1) := (HV.out.below hb HV.out.blk).cell 2 (by decide)
              exact StepI.pure (v := .slice (some ⟨wc.heap.size, 0, none⟩) 1 1) rfl rfl (by go_simp) ⟨rfl, hI⟩
            · intro us au w1 k2 hlo hhi ha hd hst hI
              obtain rfl : k2 = 0 := by omega
              have q2 := slot_far (t := 2) (v := .int .i64 (n : Int)) ha (by kernel_rfl) (by kernel_rfl)
              have p2 := slot_norm q2
              clear ha hd hst
              exact StepI.pure (v := .int .i64 (n : Int)) rfl rfl (by go_simp) ⟨rfl, hI⟩
            · intro us au w1 k3 hlo hhi ha hd hst hI
              obtain rfl : k3 = 0 := by omega
              have e2 := hd 2 _ (by kernel_rfl) rfl
              have q100 := slot_at (t := 100) 2 ha (by kernel_rfl) (by kernel_rfl) (by kernel_rfl) e2
              have p100 := slot_norm q100
              clear ha hd hst
              exact StepI.pure (v := .int .i64 (N : Int)) rfl rfl (by go_simp) ⟨rfl, hI⟩
            · intro us au w1 ha hd hst hI
              have e3 := hd 3 _ (by kernel_rfl) rfl
              have q101 := slot_at (t := 101) 3 ha (by kernel_rfl) (by kernel_rfl) (by kernel_rfl) e3
              have p101 := slot_norm q101
              clear ha hd hst
              refine StepI.call (f := 53) (args := #[.int .i64 (N : Int)]) rfl rfl (by go_simp) ?_
              refine (HDG.out w1).mono ?_
              rintro e w5 ⟨rfl, hb⟩
              exact ⟨_, rfl, rfl, rfl, Below.trans hI (hb.mono (Below.size hI))⟩
            · intro us au w1 k5 hlo hhi ha hd hst hI
              obtain rfl : k5 = 1 := by omega
              have e4 := hd 4 _ (by kernel_rfl) rfl
              have q102 := slot_at (t := 102) 4 ha (by kernel_rfl) (by kernel_rfl) (by kernel_rfl) e4
              have p102 := slot_norm q102
              clear ha hd hst
              exact StepI.pure (v := .string ((⟨#[98]⟩ : ByteArray) ++ strOfNums (digL N))) rfl rfl (by go_simp; try (have := HSD.out; omega)) ⟨rfl, hI⟩
            · intro us au w1 k6 hlo hhi ha hd hst hI
              have q7 := slot_far (t := 7) (v := .string (bk tree)) ha (by kernel_rfl) (by kernel_rfl)
              have p7 := slot_norm q7
              clear ha hd hst
              exact StepI.pure (v := .string (bk tree)) rfl rfl (by go_simp) ⟨rfl, hI⟩
            · intro us au w1 k7 hlo hhi ha hd hst hI
              obtain rfl : k7 = 1 := by omega
              have e5 := hd 5 _ (by kernel_rfl) rfl
              have e6 := hd 6 _ (by kernel_rfl) rfl
              have q103 := slot_at (t := 103) 5 ha (by kernel_rfl) (by kernel_rfl) (by kernel_rfl) e5
              have p103 := slot_norm q103
              have q104 := slot_at (t := 104) 6 ha (by kernel_rfl) (by kernel_rfl) (by kernel_rfl) e6
              have p104 := slot_norm q104
              clear ha hd hst
              exact StepI.pure (v := .agg #[.string ⟨#[52, 48, 48, 48, 48]⟩, .string ((⟨#[98]⟩ : ByteArray) ++ strOfNums (digL N)), .string (bk tree)]) rfl rfl (by go_simp) ⟨rfl, hI⟩
            · intro us au w1 ha hd hst hI
              have e7 := hd 7 _ (by kernel_rfl) rfl
              have q105 := slot_at (t := 105) 7 ha (by kernel_rfl) (by kernel_rfl) (by kernel_rfl) e7
              have p105 := slot_norm q105
              clear ha hd hst
              obtain ⟨hv4, hb4⟩ := hI
              exact StepI.runs (v := .slice (some ⟨w1.heap.size, 0, none⟩) 1 1) (w' := w1.alloc (.cells #[.string ⟨#[52, 48, 48, 48, 48]⟩, .string ((⟨#[98]⟩ : ByteArray) ++ strOfNums (digL N)), .string (bk tree)] 116)) rfl rfl (by go_simp) ⟨trivial, ⟨w1.heap.size, rfl, Src.ent w1 (entB N tree) _⟩, hb4.trans (((Below.refl _ _).alloc (Nat.le_refl _) _).mono hb4.size)⟩
            · intro us au w1 ha hd hst hI
              have e1 := hd 1 _ (by kernel_rfl) rfl
              obtain ⟨e8⟩ := hd 8 _ (by kernel_rfl) rfl
              have q99 := slot_at (t := 99) 1 ha (by kernel_rfl) (by kernel_rfl) (by kernel_rfl) e1
              have p99 := slot_norm q99
              have q106 := slot_at (t := 106) 8 ha (by kernel_rfl) (by kernel_rfl) (by kernel_rfl) (Eq.refl (us 8))
              have p106 := slot_norm q106
              clear ha hd hst
              obtain ⟨⟨gs, hv8, hsrc⟩, hb8⟩ := hI
              rw [hv8] at p106 hsrc
              refine StepI.wp rfl rfl ?_
              intro K9 hK9
              have ho8 := HE1.out.lowB hb8
              refine wp_append_S (.tmp 99) (.tmp 106) 65 65 rfl i0 (.agg #[.string ⟨#[]⟩, .string ⟨#[]⟩, .string ⟨#[]⟩]) 48 (.slice 116) Tryz.underlying65 Tryz.underlying65 (fun _ h => by cases h) hi hz0 hz1 hz2 rfl (by go_simp) (by go_simp) ho8 hsrc (by unfold maxLen; omega) (by omega) (by have := hb8.size; have := HE1.out.lt _ rfl; omega) ?_
              intro A9 c9 w9 ho9 hg9 hw9
              refine hK9 _ _ ⟨trivial, ⟨A9, c9, rfl, ho9⟩, (HV.out.below hb8 HV.out.blk).grown hg9 ?_, ?_⟩
              · intro h; have h2 : some wc.heap.size = some g8 := h; injection h2 with h2; have := HEQ8.out; omega
              · exact (hb8.mono (by have := HE1.out.lt _ rfl; omega)).grown hg9 (by have := hb8.size; have := HE1.out.lt _ rfl; omega) (fun q h => by have h2 : some wc.heap.size = some q := h; injection h2 with h2; omega)
            · intro us au w1 k10 hlo hhi ha hd hst hI
              obtain rfl : k10 = 3 := by omega
              have q8 := slot_far (t := 8) (v := .pointer (some ⟨g8, 0, none⟩)) ha (by kernel_rfl) (by kernel_rfl)
              have p8 := slot_norm q8
              clear ha hd hst
              exact StepI.pure (v := .pointer (some ⟨g8, 2, none⟩)) rfl rfl (by go_simp) ⟨rfl, hI⟩
            · intro us au w1 ha hd hst hI
              have e10 := hd 10 _ (by kernel_rfl) rfl
              obtain ⟨e9⟩ := hd 9 _ (by kernel_rfl) rfl
              have q108 := slot_at (t := 108) 10 ha (by kernel_rfl) (by kernel_rfl) (by kernel_rfl) e10
              have p108 := slot_norm q108
              have q107 := slot_at (t := 107) 9 ha (by kernel_rfl) (by kernel_rfl) (by kernel_rfl) (Eq.refl (us 9))
              have p107 := slot_norm q107
              clear ha hd hst
              obtain ⟨⟨A9, c9, hv9, ho9⟩, hcv9, hb9⟩ := hI
              rw [hv9] at p107 ho9
              have fz := Cel.frozen hcv9 2
              have kk := Cel.cell hcv9 2 (by decide)
              refine StepI.stored (w' := w1.setCell ⟨g8, 2, none⟩ (.slice A9 2 c9)) rfl rfl (by go_simp) ⟨trivial, ⟨A9, c9, ?_, ho9.setFar ?_ _⟩, hb9.setCell (p := ⟨g8, 2, none⟩) ?_ _⟩
              · exact celSet2 hcv9 _
              · exact ho9.ne_cel hcv9 (by decide)
              · show wc.heap.size ≤ g8; have := HEQ8.out; omega
           case done =>
            intro us w1 hI hd
            have HIF : Hid (TrI wc.heap.size g8 [entA blob, entB N tree] w1 ∧ Below wc.heap.size w8 w1) := Lib.hid hI
            clear hI hd
            simp only [putAll]
            go_simp
            have HTR2 := Lib.hid HIF.out.1
            have HB14 := Lib.hid (HB8.out.trans HIF.out.2)
            obtain ⟨Al, cl, hcv, hol⟩ := HTR2.out
            have hsz : (treeL [entA blob, entB N tree]).length ≤ 1000 := tree2_len _ _ _ (by have := HNN.out; omega)
            have HCVV := Lib.hid hcv
            have HREF := Lib.hid (refTree_any ⟨#[]⟩ Al 2 cl [entA blob, entB N tree] ⟨#[]⟩ (.slice none 0 0) ⟨#[]⟩ ⟨#[]⟩ ⟨#[]⟩ ⟨#[]⟩ 0 ⟨#[]⟩ ⟨#[]⟩ w1 hol.entsAt rfl (by decide) (fun x hx => by have h := HLN.out; simp only [List.mem_cons, List.not_mem_nil, or_false] at hx; rcases hx with rfl | rfl; unfold entA; show (bk blob).size ≤ _; rw [bk_size]; omega; unfold entB; show (bk tree).size ≤ _; rw [bk_size]; omega) (by omega))
            have hm : MadeIn R ⟨2, (strOfNums (treeL [entA blob, entB N tree])).data.toList, idK 2 (strOfNums (treeL [entA blob, entB N tree])).data.toList⟩ := .inr (.inl ⟨rfl, blob, HBK.out, .inr ⟨N, tree, HNN.out, HHT.out, rfl⟩⟩)
            have hbl : (strOfNums (treeL [entA blob, entB N tree])).data.toList.length ≤ 2000 := by rw [← Lib.size_eq, strOfNums_size]; omega
            have HADH := Lib.hid (fun w3 (hb3 : Below wc.heap.size wc w3) => HA.out 2 (strOfNums (treeL [entA blob, entB N tree])).data.toList w3 (HR2.out.below hb3) (fun k hk => HKB.out k (by have := hb3.size; omega)) hbl)
            rw [bk_of] at HADH
            have HE := Lib.hid (fun w3 (hb3 : Below wc.heap.size wc w3) e w4 => HEND.out 2 _ e w3 w4 hb3 hm hbl)
            clear hcv hol hm hbl hsz
            go_upto_region 15 with (fail)
            go_wp2_with (refine wpList_load_part (vs := treV 2 ⟨#[]⟩ (.slice Al 2 cl)) (off := 0) rfl (.tmp 8) rfl rfl HCVV.out Tryz.underlying67 rfl info_o8 (Nat.le_refl 12) (fun j hj => by rw [Nat.zero_add]; exact getD_some hj) ?_)
            refine HREF.out.mono ?_
            rintro e w10 ⟨rfl, hb10⟩
            have HB10 := Lib.hid (HB14.out.trans (hb10.mono HB14.out.size))
            clear hb10
            go_wp2_with fail
            refine (HADH.out w10 HB10.out).mono ?_
            intro e w4 ha
            have HF := Lib.hid (HE.out w10 HB10.out e w4 ha)
            obtain rfl := ha.1
            clear ha
            go_wp2
            refine ⟨rfl, _, results_none rfl _ _ _, ?_⟩
            exact HF.out
         · clear HHT
           obtain ⟨Al, cl, hcv, hol⟩ := HTR1.out
           have hsz : (treeL [entA blob]).length ≤ 1000 := tree1_len _
           have HCVV := Lib.hid hcv
           have HREF := Lib.hid (refTree_any ⟨#[]⟩ Al 1 cl [entA blob] ⟨#[]⟩ (.slice none 0 0) ⟨#[]⟩ ⟨#[]⟩ ⟨#[]⟩ ⟨#[]⟩ 0 ⟨#[]⟩ ⟨#[]⟩ w8 hol.entsAt rfl (by decide) (fun x hx => by have h := HLN.out; simp only [List.mem_cons, List.not_mem_nil, or_false] at hx; subst hx; unfold entA; show (bk blob).size ≤ _; rw [bk_size]; omega) (by omega))
           have hm : MadeIn R ⟨2, (strOfNums (treeL [entA blob])).data.toList, idK 2 (strOfNums (treeL [entA blob])).data.toList⟩ := .inr (.inl ⟨rfl, blob, HBK.out, .inl rfl⟩)
           have hbl : (strOfNums (treeL [entA blob])).data.toList.length ≤ 2000 := by rw [← Lib.size_eq, strOfNums_size]; omega
           have HADH := Lib.hid (fun w3 (hb3 : Below wc.heap.size wc w3) => HA.out 2 (strOfNums (treeL [entA blob])).data.toList w3 (HR2.out.below hb3) (fun k hk => HKB.out k (by have := hb3.size; omega)) hbl)
           rw [bk_of] at HADH
           have HE := Lib.hid (fun w3 (hb3 : Below wc.heap.size wc w3) e w4 => HEND.out 2 _ e w3 w4 hb3 hm hbl)
           clear hcv hol hm hbl hsz
           go_upto_region 15 with (fail)
           go_wp2_with (refine wpList_load_part (vs := treV 2 ⟨#[]⟩ (.slice Al 1 cl)) (off := 0) rfl (.tmp 8) rfl rfl HCVV.out Tryz.underlying67 rfl info_o8 (Nat.le_refl 12) (fun j hj => by rw [Nat.zero_add]; exact getD_some hj) ?_)
           refine HREF.out.mono ?_
           rintro e w10 ⟨rfl, hb10⟩
           have HB10 := Lib.hid (HB8.out.trans (hb10.mono HB8.out.size))
           clear hb10
           go_wp2_with fail
           refine (HADH.out w10 HB10.out).mono ?_
           intro e w4 ha
           have HF := Lib.hid (HE.out w10 HB10.out e w4 ha)
           obtain rfl := ha.1
           clear ha
           go_wp2
           refine ⟨rfl, _, results_none rfl _ _ _, ?_⟩
           exact HF.out
     · obtain rfl : bb = false := hbb.trans (decide_eq_false c2)
       have HTK : Hid (HasK R 2 tree) := Lib.hid (by
        rcases HP2.out with h | ⟨y, hy, h1, h2⟩
        · exact absurd (.inr h) c2
        · exact ⟨y, hy, h1, h2⟩)
       clear c2 hbb
       have ht5 : ((n : Int).tmod 5) = ((n % 5 : Nat) : Int) := by rw [Int.tmod_eq_emod_of_nonneg (by omega)]; rfl
       go_upto_region 16 with (fail)
       go_cut [113] (fun v113 wx => (∃ bb : Bool, v113 = .bool bb) ∧ wx = wc)
       case first => as_aux_lemma =>
        by_cases hk0 : kind = 2
        · have d1 : ((kind : Int) == 2) = true := by rw [beq_iff_eq]; omega
          by_cases h5 : n % 5 = 0
          · rw [h5] at ht5
            go_wp2_with fail
            go_meet
            exact ⟨⟨_, rfl⟩, rfl⟩
          · have d5 : ¬ ((n % 5 : Nat) : Int) = 0 := by omega
            generalize n % 5 = q5 at *
            go_wp2_with fail
            go_meet
            exact ⟨⟨_, rfl⟩, rfl⟩
        · have d1 : ((kind : Int) == 2) = false := by rw [beq_eq_false_iff_ne]; omega
          have d1' : ¬ (kind : Int) = 2 := by omega
          go_wp2_with fail
          go_meet
          exact ⟨⟨_, rfl⟩, rfl⟩
       case rest =>
        obtain ⟨⟨bb, rfl⟩, hwc⟩ := hcut
        rw [← hwc] at HB2 HR2 HKB HEND
        clear hwc
        cases bb with
        | true =>
         go_wp2_with fail
         refine (HP.out 1 n wc HR2.out HN.out).mono ?_
         rintro e w3 ⟨rfl, hb3⟩
         have hp1 := pickK_of R 1 n
         generalize pickK R 1 n = cid at *
         have HB3 := Lib.hid hb3
         clear hb3
         by_cases hc0 : cid = []
         · have q0 : ((bk cid).toList == []) = true := by rw [Lib.toList_data, bk_list, hc0]; rfl
           have q0' : (bk cid).toList.isEmpty = true := by rw [Lib.toList_data, bk_list, hc0]; rfl
           clear hc0 hp1
           go_wp2
           refine ⟨rfl, _, results_none rfl _ _ _, ?_⟩
           exact ⟨rfl, R, HR2.out.below HB3.out, (Chg.of_below (S := K) HB2.out).trans (Chg.of_below (S := K) HB3.out) (fun _ _ h => h), .inl rfl⟩
         · have HCK : Hid (HasK R 1 cid) := Lib.hid (by
            rcases hp1 with h | ⟨y, hy, h1, h2⟩
            · exact absurd h hc0
            · exact ⟨y, hy, h1, h2⟩)
           have q0 : ((bk cid).toList == []) = false := by rw [Lib.toList_data, bk_list, beq_eq_false_iff_ne]; exact hc0
           have q0' : (bk cid).toList.isEmpty = false := by rw [Lib.toList_data, bk_list, List.isEmpty_eq_false_iff]; exact hc0
           obtain ⟨N, hN, hN2⟩ := and7 (n : Int)
           have HNN := Lib.hid hN2
           have hcl := HCK.out.len HR.out
           have hsz := tag_len cid N (by omega) (by omega)
           have HRT : Hid (∀ w, Calls Tryz.prog 33 #[.agg #[.int .i64 4, .string ⟨#[]⟩, .slice none 0 0, .string ⟨#[]⟩, .slice none 0 0, .string ⟨#[]⟩, .string ⟨#[]⟩, .string (bk cid), .string ((⟨#[118]⟩ : ByteArray) ++ strOfNums (digL N)), .int .i64 1, .string perW, .string ⟨#[116]⟩]] w fun e w' => e = .returned (.string (tagBt cid N)) ∧ Below w.heap.size w w') := Lib.hid (fun w => by
            unfold tagBt at hsz ⊢
            exact refTag_any ⟨#[]⟩ (.slice none 0 0) ⟨#[]⟩ (.slice none 0 0) ⟨#[]⟩ ⟨#[]⟩ (bk cid) _ 1 perW ⟨#[116]⟩ w (by omega))
           have hm : MadeIn R ⟨4, (tagBt cid N).data.toList, idK 4 (tagBt cid N).data.toList⟩ := .inr (.inr (.inl ⟨rfl, cid, N, HCK.out, hN2, rfl⟩))
           have hbl : (tagBt cid N).data.toList.length ≤ 2000 := by rw [← Lib.size_eq]; omega
           have HADH := Lib.hid (fun w3 (hb3 : Below wc.heap.size wc w3) => HA.out 4 (tagBt cid N).data.toList w3 (HR2.out.below hb3) (fun k hk => HKB.out k (by have := hb3.size; omega)) hbl)
           rw [bk_of] at HADH
           have HE := Lib.hid (fun w3 (hb3 : Below wc.heap.size wc w3) e w4 => HEND.out 4 _ e w3 w4 hb3 hm hbl)
           have hsd := digN_size N (by omega)
           have HDG := Lib.hid (fun W => digits_any N W (by have := HNN.out; omega))
           generalize tagBt cid N = TGB at *
           unfold perW at HRT
           clear hc0 hp1 hN2 hcl hsz hm hbl
           go_wp2_with fail
           refine (HDG.out w3).mono ?_
           rintro e w5 ⟨rfl, hb5⟩
           have HB5 := Lib.hid (HB3.out.trans (hb5.mono HB3.out.size))
           clear hb5
           go_wp2_with fail
           refine (HRT.out _).mono ?_
           rintro e w6 ⟨rfl, hb6⟩
           have HB6 := Lib.hid (HB5.out.trans (hb6.mono HB5.out.size))
           clear hb6 hsd
           go_wp2_with fail
           refine (HADH.out w6 HB6.out).mono ?_
           intro e w7 ha
           have HF := Lib.hid (HE.out w6 HB6.out e w7 ha)
           obtain rfl := ha.1
           clear ha
           go_wp2
           refine ⟨rfl, _, results_none rfl _ _ _, ?_⟩
           exact HF.out
        | false =>
         generalize wc = wd at *
         obtain ⟨N, hN, hN2⟩ := and15 (n : Int)
         have HNN := Lib.hid hN2
         have HDG := Lib.hid (fun W => digits_any N W (by have := HNN.out; omega))
         have hd7 : IntKind.i64.wrap ((n : Int) / 7) = ((n / 7 : Nat) : Int) := by rw [IntWalk.i64_in _ (by have := HN.out; omega)]; rfl
         obtain ⟨i0, hi, hz0, hz1, hz2⟩ := info_parts info_str1
         clear hN2 ht5
         go_wp2_with fail
         refine (HDG.out wd).mono ?_
         rintro e w3 ⟨rfl, hb3⟩
         have HDN : Hid (comBt tree [] N = comBt tree [] N) := Lib.hid rfl
         generalize hdg : strOfNums (digL N) = dg at *
         have HDG2 := Lib.hid hdg
         have hV := CelV.new w3 (comV (bk tree) (.slice none 0 0) perW perW dg) rfl
         have hBB : Below wd.heap.size wd (w3.alloc (.cells (comV (bk tree) (.slice none 0 0) perW perW dg) 67)) := hb3.trans (((Below.refl _ _).alloc (Nat.le_refl _) _).mono hb3.size)
         have hg3 := hb3.size
         unfold comV perW at hV hBB
         clear hdg hb3
         go_upto_region 3 with (fail)
         generalize w3.alloc (.cells #[.int .i64 1, .string ⟨#[]⟩, .slice none 0 0, .string (bk tree), .slice none 0 0, .string ⟨#[65, 32, 60, 97, 62, 32, 49, 32, 43, 48, 48, 48, 48]⟩, .string ⟨#[65, 32, 60, 97, 62, 32, 49, 32, 43, 48, 48, 48, 48]⟩, .string ⟨#[]⟩, .string ⟨#[]⟩, .int .i64 0, .string ⟨#[]⟩, .string dg] 67) = w4 at *
         generalize w3.heap.size = g10 at *
         have HV4 : Hid (CelV w4 g10 (comV (bk tree) (.slice none 0 0) perW perW dg)) := Lib.hid hV
         have HB4 := Lib.hid hBB
         have HGE := Lib.hid hg3
         clear hV hBB hg3
         go_wp2_with fail
         refine (HP.out 1 n w4 (HR2.out.below HB4.out) HN.out).mono ?_
         rintro e w5 ⟨rfl, hb5⟩
         have HV5 := Lib.hid (Cel.below HV4.out hb5 HV4.out.blk)
         have HB5 := Lib.hid (HB4.out.trans (hb5.mono HB4.out.size))
         clear hb5
         go_wp2_with fail
         refine (HP.out 1 (n / 7) w5 (HR2.out.below HB5.out) (by have := HN.out; omega)).mono ?_
         rintro e w6 ⟨rfl, hb6⟩
         have HV6 : Hid (CelV w6 g10 (comV (bk tree) (.slice none 0 0) perW perW dg)) := Lib.hid (Cel.below HV5.out hb6 HV5.out.blk)
         have HB6 := Lib.hid (HB5.out.trans (hb6.mono HB5.out.size))
         have hpa := pickK_of R 1 n
         have hpb := pickK_of R 1 (n / 7)
         generalize pickK R 1 n = pa at *
         generalize pickK R 1 (n / 7) = pb at *
         have HPA := Lib.hid hpa
         have HPB := Lib.hid hpb
         have HC0 : Hid (CmI wd.heap.size g10 tree [] dg 0 none 0 w6) := Lib.hid ⟨HV6.out, OwnS.nil _ _ _ _⟩
         have ht4 : ((n : Int).tmod 4) = ((n % 4 : Nat) : Int) := by rw [Int.tmod_eq_emod_of_nonneg (by omega)]; rfl
         have ht3 : ((n : Int).tmod 3) = ((n % 3 : Nat) : Int) := by rw [Int.tmod_eq_emod_of_nonneg (by omega)]; rfl
         clear hb6 hpa hpb hd7
         go_upto_region 4 with (fail)
         go_cut [38] (fun v38 wx => (∃ bb : Bool, v38 = .bool bb ∧ (bb = true → HasK R 1 pa)) ∧ wx = w6)
         case first => as_aux_lemma =>
          by_cases ha0 : pa = []
          · have q0 : ((bk pa).toList == []) = true := by rw [Lib.toList_data, bk_list, ha0]; rfl
            have q0' : (bk pa).toList.isEmpty = true := by rw [Lib.toList_data, bk_list, ha0]; rfl
            clear ha0
            go_wp2_with fail
            go_meet
            exact ⟨⟨false, rfl, fun h => by cases h⟩, rfl⟩
          · have HPK : Hid (HasK R 1 pa) := Lib.hid (by
             rcases HPA.out with h | ⟨y, hy, h1, h2⟩
             · exact absurd h ha0
             · exact ⟨y, hy, h1, h2⟩)
            have q0 : ((bk pa).toList == []) = false := by rw [Lib.toList_data, bk_list, beq_eq_false_iff_ne]; exact ha0
            have q0' : (bk pa).toList.isEmpty = false := by rw [Lib.toList_data, bk_list, List.isEmpty_eq_false_iff]; exact ha0
            clear ha0
            by_cases h4 : n % 4 = 0
            · rw [h4] at ht4
              go_wp2_with fail
              go_meet
              exact ⟨⟨_, rfl, fun _ => HPK.out⟩, rfl⟩
            · have d4 : ¬ ((n % 4 : Nat) : Int) = 0 := by omega
              generalize n % 4 = q4 at *
              go_wp2_with fail
              go_meet
              exact ⟨⟨_, rfl, fun _ => HPK.out⟩, rfl⟩
         case rest =>
          obtain ⟨⟨bb, rfl, hbk⟩, hwc6⟩ := hcut
          rw [← hwc6] at HB6 HC0
          clear hwc6
          generalize wc = w7 at *
          have HBK2 := Lib.hid hbk
          clear hbk
          cases bb with
          | true =>
           have HPK : Hid (HasK R 1 pa) := Lib.hid (HBK2.out rfl)
           obtain ⟨hcv, hol⟩ := HC0.out
           have k4 : w7.cell? ⟨g10, 4, none⟩ = some (.slice none 0 0) := hcv.cell 4 (by decide)
           have HCVX := Lib.hid hcv
           have hne : Value.ownBlock (.slice none 0 0) ≠ some g10 := hol.ne_cel hcv (by decide)
           have HNE := Lib.hid hne
           have HSRC := Lib.hid (Src.one_new (P := Tryz.prog) (w := w7) (u := .string (bk pa)) (t := 9) rfl)
           have HOA := Lib.hid (hol.alloc (.cells #[.string (bk pa)] 9))
           have HBA : Hid (Below wd.heap.size wd (w7.alloc (.cells #[.string (bk pa)] 9))) := Lib.hid (HB6.out.trans (((Below.refl _ _).alloc (Nat.le_refl _) _).mono HB6.out.size))
           clear hcv hol hne
           go_upto_region 6 with (at_builtin; go_loud (refine wpList_append_S rfl (.tmp 40) (.tmp 42) 32 32 rfl i0 (.string ⟨#[]⟩) 16 (.slice 9) Tryz.underlying32 Tryz.underlying32 (fun _ h => by cases h) hi hz0 hz1 hz2 rfl rfl rfl HOA.out HSRC.out (by unfold maxLen; omega) (by omega) HBA.out.size ?_; intro A8 c8 w8; intro ho8 hg8 hw8; have hcv8 := (HCVX.out.alloc (.cells #[.string (bk pa)] 9)).grown hg8 HNE.out; have q8 := Cel.cell hcv8 4 (by decide); have z8 := Cel.frozen hcv8 4; have HX8 := Lib.hid (And.intro hcv8 (And.intro ho8 hg8)); clear ho8 hg8 hw8 hcv8))
           have HC1 : Hid (CmI wd.heap.size g10 tree [pa] dg 1 A8 c8 (w8.setCell ⟨g10, 4, none⟩ (.slice A8 1 c8))) := Lib.hid ⟨celSet4 HX8.out.1 _, HX8.out.2.1.setFar (HX8.out.2.1.ne_cel HX8.out.1 (by decide)) _⟩
           have HB8 : Hid (Below wd.heap.size wd (w8.setCell ⟨g10, 4, none⟩ (.slice A8 1 c8))) := Lib.hid ((HBA.out.grown HX8.out.2.2 HBA.out.size (fun j hj => (HOA.out.lt j hj).1)).setCell (p := ⟨g10, 4, none⟩) HGE.out _)
           clear k4 q8 z8
           generalize w8.setCell ⟨g10, 4, none⟩ (.slice A8 1 c8) = w9 at *
           clear HX8 HOA HSRC HBA HNE HCVX
           generalize w9 = w8 at *
           generalize A8 = A1 at *
           generalize c8 = c1 at *
           go_upto_region 6 with (fail)
           go_cut [56] (fun v56 wx => (∃ bb : Bool, v56 = .bool bb ∧ (bb = true → HasK R 1 pb)) ∧ wx = w8)
           case first => as_aux_lemma =>
            by_cases ha0 : pb = []
            · have q0 : ((bk pb).toList == []) = true := by rw [Lib.toList_data, bk_list, ha0]; rfl
              have q0' : (bk pb).toList.isEmpty = true := by rw [Lib.toList_data, bk_list, ha0]; rfl
              clear ha0
              go_wp2_with fail
              go_meet
              exact ⟨⟨false, rfl, fun h => by cases h⟩, rfl⟩
            · have HPKb : Hid (HasK R 1 pb) := Lib.hid (by
               rcases HPB.out with h | ⟨y, hy, h1, h2⟩
               · exact absurd h ha0
               · exact ⟨y, hy, h1, h2⟩)
              have q0 : ((bk pb).toList == []) = false := by rw [Lib.toList_data, bk_list, beq_eq_false_iff_ne]; exact ha0
              have q0' : (bk pb).toList.isEmpty = false := by rw [Lib.toList_data, bk_list, List.isEmpty_eq_false_iff]; exact ha0
              clear ha0
              by_cases hab : pb = pa
              · have q1 : ((bk pb).toList == (bk pa).toList) = true := by rw [hab]; simp
                clear hab
                go_wp2_with fail
                go_meet
                exact ⟨⟨_, rfl, fun _ => HPKb.out⟩, rfl⟩
              · have q1 : ((bk pb).toList == (bk pa).toList) = false := by rw [Lib.toList_data, Lib.toList_data, bk_list, bk_list, beq_eq_false_iff_ne]; exact hab
                clear hab
                by_cases h3 : n % 3 = 0
                · rw [h3] at ht3
                  go_wp2_with fail
                  go_meet
                  exact ⟨⟨_, rfl, fun _ => HPKb.out⟩, rfl⟩
                · have d3 : ¬ ((n % 3 : Nat) : Int) = 0 := by omega
                  generalize n % 3 = q3 at *
                  go_wp2_with fail
                  go_meet
                  exact ⟨⟨_, rfl, fun _ => HPKb.out⟩, rfl⟩
           case rest =>
            obtain ⟨⟨bb, rfl, hbk⟩, hwc6⟩ := hcut
            rw [← hwc6] at HB8 HC1
            clear hwc6
            generalize wc = wz at *
            have HBK3 := Lib.hid hbk
            clear hbk
            cases bb with
            | true =>
             have HPKb : Hid (HasK R 1 pb) := Lib.hid (HBK3.out rfl)
             obtain ⟨hcv, hol⟩ := HC1.out
             have k4 : wz.cell? ⟨g10, 4, none⟩ = some (.slice A1 1 c1) := hcv.cell 4 (by decide)
             have HCVX := Lib.hid hcv
             have hne : Value.ownBlock (.slice A1 1 c1) ≠ some g10 := hol.ne_cel hcv (by decide)
             have HNE := Lib.hid hne
             have HSRC := Lib.hid (Src.one_new (P := Tryz.prog) (w := wz) (u := .string (bk pb)) (t := 9) rfl)
             have HOA := Lib.hid (hol.alloc (.cells #[.string (bk pb)] 9))
             have HBA : Hid (Below wd.heap.size wd (wz.alloc (.cells #[.string (bk pb)] 9))) := Lib.hid (HB8.out.trans (((Below.refl _ _).alloc (Nat.le_refl _) _).mono HB8.out.size))
             clear hcv hol hne
             go_upto_region 8 with (at_builtin; go_loud (refine wpList_append_S rfl (.tmp 58) (.tmp 60) 32 32 rfl i0 (.string ⟨#[]⟩) 16 (.slice 9) Tryz.underlying32 Tryz.underlying32 (fun _ h => by cases h) hi hz0 hz1 hz2 rfl rfl rfl HOA.out HSRC.out (by unfold maxLen; omega) (by omega) HBA.out.size ?_; intro A8 c8 w8; intro ho8 hg8 hw8; have hcv8 := (HCVX.out.alloc (.cells #[.string (bk pb)] 9)).grown hg8 HNE.out; have q8 := Cel.cell hcv8 4 (by decide); have z8 := Cel.frozen hcv8 4; have HX8 := Lib.hid (And.intro hcv8 (And.intro ho8 hg8)); clear ho8 hg8 hw8 hcv8))
             have HC2 : Hid (CmI wd.heap.size g10 tree [pa, pb] dg 2 A8 c8 (w8.setCell ⟨g10, 4, none⟩ (.slice A8 2 c8))) := Lib.hid ⟨celSet4 HX8.out.1 _, HX8.out.2.1.setFar (HX8.out.2.1.ne_cel HX8.out.1 (by decide)) _⟩
             have HB8b : Hid (Below wd.heap.size wd (w8.setCell ⟨g10, 4, none⟩ (.slice A8 2 c8))) := Lib.hid ((HBA.out.grown HX8.out.2.2 HBA.out.size (fun j hj => (HOA.out.lt j hj).1)).setCell (p := ⟨g10, 4, none⟩) HGE.out _)
             clear k4 q8 z8
             generalize w8.setCell ⟨g10, 4, none⟩ (.slice A8 2 c8) = w9 at *
             clear HX8 HOA HSRC HBA HNE HCVX
             generalize w9 = w8b at *
             generalize A8 = A2 at *
             generalize c8 = c2 at *
             obtain ⟨hcv, hol⟩ := HC2.out
             have htl := HTK.out.len HR.out
             have hPl : ∀ p ∈ ([pa, pb] : List Gid), HasK R 1 p := by simp only [List.mem_cons, List.not_mem_nil, or_false, forall_eq_or_imp, forall_eq, List.not_mem_nil, false_implies, implies_true]; exact ⟨HPK.out, HPKb.out⟩
             have hsz : (commitL (bk tree) (([pa, pb] : List Gid).map bk) perW perW dg).length ≤ 1000 := by rw [← HDG2.out]; exact com_len tree [pa, pb] N (by omega) (by simp) (fun p hp => by rw [(hPl p hp).len HR.out]; omega) (by have := HNN.out; omega)
             have hstr : StrsAt w8b A2 (([pa, pb] : List Gid).map bk) := hol.strsAt
             have hcb : strOfNums (commitL (bk tree) (([pa, pb] : List Gid).map bk) perW perW dg) = comBt tree [pa, pb] N := by unfold comBt; rw [HDG2.out]
             have HREF : Hid (Calls Tryz.prog 33 #[.agg (comV (bk tree) (.slice A2 2 c2) perW perW dg)] w8b fun e w' => e = .returned (.string (comBt tree [pa, pb] N)) ∧ Below w8b.heap.size w8b w') := Lib.hid (by
              rw [← hcb]
              exact refCommit_any ⟨#[]⟩ (.slice none 0 0) (bk tree) A2 2 c2 (([pa, pb] : List Gid).map bk) perW perW ⟨#[]⟩ ⟨#[]⟩ 0 ⟨#[]⟩ dg w8b hstr rfl (by decide) (by omega))
             have hm : MadeIn R ⟨1, (comBt tree [pa, pb] N).data.toList, idK 1 (comBt tree [pa, pb] N).data.toList⟩ := .inr (.inr (.inr ⟨rfl, tree, [pa, pb], N, HTK.out, hPl, by simp, HNN.out, rfl⟩))
             have hbl : (comBt tree [pa, pb] N).data.toList.length ≤ 2000 := by rw [← hcb, ← Lib.size_eq, strOfNums_size]; omega
             have HADH := Lib.hid (fun w3 (hb3 : Below wd.heap.size wd w3) => HA.out 1 (comBt tree [pa, pb] N).data.toList w3 (HR2.out.below hb3) (fun k hk => HKB.out k (by have := hb3.size; omega)) hbl)
             rw [bk_of] at HADH
             have HE := Lib.hid (fun w3 (hb3 : Below wd.heap.size wd w3) e w4 => HEND.out 1 _ e w3 w4 hb3 hm hbl)
             have HCVV := Lib.hid hcv
             generalize comBt tree [pa, pb] N = CB at *
             clear hcv hol hm hbl hsz hstr hcb hPl htl
             go_upto_region 8 with (fail)
             go_wp2_with (refine wpList_load_part (vs := comV (bk tree) (.slice A2 2 c2) perW perW dg) (off := 0) rfl (.tmp 10) rfl rfl HCVV.out Tryz.underlying67 rfl info_o8 (Nat.le_refl 12) (fun j hj => by rw [Nat.zero_add]; exact getD_some hj) ?_)
             refine HREF.out.mono ?_
             rintro e w10 ⟨rfl, hb10⟩
             have HB10 := Lib.hid (HB8b.out.trans (hb10.mono HB8b.out.size))
             clear hb10
             go_wp2_with fail
             refine (HADH.out w10 HB10.out).mono ?_
             intro e w14 ha
             have HF := Lib.hid (HE.out w10 HB10.out e w14 ha)
             obtain rfl := ha.1
             clear ha
             go_wp2
             refine ⟨rfl, _, results_none rfl _ _ _, ?_⟩
             exact HF.out
            | false =>
             obtain ⟨hcv, hol⟩ := HC1.out
             have htl := HTK.out.len HR.out
             have hPl : ∀ p ∈ ([pa] : List Gid), HasK R 1 p := by simp only [List.mem_cons, List.not_mem_nil, or_false, forall_eq_or_imp, forall_eq, List.not_mem_nil, false_implies, implies_true]; exact HPK.out
             have hsz : (commitL (bk tree) (([pa] : List Gid).map bk) perW perW dg).length ≤ 1000 := by rw [← HDG2.out]; exact com_len tree [pa] N (by omega) (by simp) (fun p hp => by rw [(hPl p hp).len HR.out]; omega) (by have := HNN.out; omega)
             have hstr : StrsAt wz A1 (([pa] : List Gid).map bk) := hol.strsAt
             have hcb : strOfNums (commitL (bk tree) (([pa] : List Gid).map bk) perW perW dg) = comBt tree [pa] N := by unfold comBt; rw [HDG2.out]
             have HREF : Hid (Calls Tryz.prog 33 #[.agg (comV (bk tree) (.slice A1 1 c1) perW perW dg)] wz fun e w' => e = .returned (.string (comBt tree [pa] N)) ∧ Below wz.heap.size wz w') := Lib.hid (by
              rw [← hcb]
              exact refCommit_any ⟨#[]⟩ (.slice none 0 0) (bk tree) A1 1 c1 (([pa] : List Gid).map bk) perW perW ⟨#[]⟩ ⟨#[]⟩ 0 ⟨#[]⟩ dg wz hstr rfl (by decide) (by omega))
             have hm : MadeIn R ⟨1, (comBt tree [pa] N).data.toList, idK 1 (comBt tree [pa] N).data.toList⟩ := .inr (.inr (.inr ⟨rfl, tree, [pa], N, HTK.out, hPl, by simp, HNN.out, rfl⟩))
             have hbl : (comBt tree [pa] N).data.toList.length ≤ 2000 := by rw [← hcb, ← Lib.size_eq, strOfNums_size]; omega
             have HADH := Lib.hid (fun w3 (hb3 : Below wd.heap.size wd w3) => HA.out 1 (comBt tree [pa] N).data.toList w3 (HR2.out.below hb3) (fun k hk => HKB.out k (by have := hb3.size; omega)) hbl)
             rw [bk_of] at HADH
             have HE := Lib.hid (fun w3 (hb3 : Below wd.heap.size wd w3) e w4 => HEND.out 1 _ e w3 w4 hb3 hm hbl)
             have HCVV := Lib.hid hcv
             generalize comBt tree [pa] N = CB at *
             clear hcv hol hm hbl hsz hstr hcb hPl htl
             go_upto_region 8 with (fail)
             go_wp2_with (refine wpList_load_part (vs := comV (bk tree) (.slice A1 1 c1) perW perW dg) (off := 0) rfl (.tmp 10) rfl rfl HCVV.out Tryz.underlying67 rfl info_o8 (Nat.le_refl 12) (fun j hj => by rw [Nat.zero_add]; exact getD_some hj) ?_)
             refine HREF.out.mono ?_
             rintro e w10 ⟨rfl, hb10⟩
             have HB10 := Lib.hid (HB8.out.trans (hb10.mono HB8.out.size))
             clear hb10
             go_wp2_with fail
             refine (HADH.out w10 HB10.out).mono ?_
             intro e w14 ha
             have HF := Lib.hid (HE.out w10 HB10.out e w14 ha)
             obtain rfl := ha.1
             clear ha
             go_wp2
             refine ⟨rfl, _, results_none rfl _ _ _, ?_⟩
             exact HF.out
          | false =>
           go_upto_region 6 with (fail)
           go_cut [56] (fun v56 wx => (∃ bb : Bool, v56 = .bool bb ∧ (bb = true → HasK R 1 pb)) ∧ wx = w7)
           case first => as_aux_lemma =>
            by_cases ha0 : pb = []
            · have q0 : ((bk pb).toList == []) = true := by rw [Lib.toList_data, bk_list, ha0]; rfl
              have q0' : (bk pb).toList.isEmpty = true := by rw [Lib.toList_data, bk_list, ha0]; rfl
              clear ha0
              go_wp2_with fail
              go_meet
              exact ⟨⟨false, rfl, fun h => by cases h⟩, rfl⟩
            · have HPKb : Hid (HasK R 1 pb) := Lib.hid (by
               rcases HPB.out with h | ⟨y, hy, h1, h2⟩
               · exact absurd h ha0
               · exact ⟨y, hy, h1, h2⟩)
              have q0 : ((bk pb).toList == []) = false := by rw [Lib.toList_data, bk_list, beq_eq_false_iff_ne]; exact ha0
              have q0' : (bk pb).toList.isEmpty = false := by rw [Lib.toList_data, bk_list, List.isEmpty_eq_false_iff]; exact ha0
              clear ha0
              by_cases hab : pb = pa
              · have q1 : ((bk pb).toList == (bk pa).toList) = true := by rw [hab]; simp
                clear hab
                go_wp2_with fail
                go_meet
                exact ⟨⟨_, rfl, fun _ => HPKb.out⟩, rfl⟩
              · have q1 : ((bk pb).toList == (bk pa).toList) = false := by rw [Lib.toList_data, Lib.toList_data, bk_list, bk_list, beq_eq_false_iff_ne]; exact hab
                clear hab
                by_cases h3 : n % 3 = 0
                · rw [h3] at ht3
                  go_wp2_with fail
                  go_meet
                  exact ⟨⟨_, rfl, fun _ => HPKb.out⟩, rfl⟩
                · have d3 : ¬ ((n % 3 : Nat) : Int) = 0 := by omega
                  generalize n % 3 = q3 at *
                  go_wp2_with fail
                  go_meet
                  exact ⟨⟨_, rfl, fun _ => HPKb.out⟩, rfl⟩
           case rest =>
            obtain ⟨⟨bb, rfl, hbk⟩, hwc6⟩ := hcut
            rw [← hwc6] at HB6 HC0
            clear hwc6
            generalize wc = wz at *
            have HBK3 := Lib.hid hbk
            clear hbk
            cases bb with
            | true =>
             have HPKb : Hid (HasK R 1 pb) := Lib.hid (HBK3.out rfl)
             obtain ⟨hcv, hol⟩ := HC0.out
             have k4 : wz.cell? ⟨g10, 4, none⟩ = some (.slice none 0 0) := hcv.cell 4 (by decide)
             have HCVX := Lib.hid hcv
             have hne : Value.ownBlock (.slice none 0 0) ≠ some g10 := hol.ne_cel hcv (by decide)
             have HNE := Lib.hid hne
             have HSRC := Lib.hid (Src.one_new (P := Tryz.prog) (w := wz) (u := .string (bk pb)) (t := 9) rfl)
             have HOA := Lib.hid (hol.alloc (.cells #[.string (bk pb)] 9))
             have HBA : Hid (Below wd.heap.size wd (wz.alloc (.cells #[.string (bk pb)] 9))) := Lib.hid (HB6.out.trans (((Below.refl _ _).alloc (Nat.le_refl _) _).mono HB6.out.size))
             clear hcv hol hne
             go_upto_region 8 with (at_builtin; go_loud (refine wpList_append_S rfl (.tmp 58) (.tmp 60) 32 32 rfl i0 (.string ⟨#[]⟩) 16 (.slice 9) Tryz.underlying32 Tryz.underlying32 (fun _ h => by cases h) hi hz0 hz1 hz2 rfl rfl rfl HOA.out HSRC.out (by unfold maxLen; omega) (by omega) HBA.out.size ?_; intro A8 c8 w8; intro ho8 hg8 hw8; have hcv8 := (HCVX.out.alloc (.cells #[.string (bk pb)] 9)).grown hg8 HNE.out; have q8 := Cel.cell hcv8 4 (by decide); have z8 := Cel.frozen hcv8 4; have HX8 := Lib.hid (And.intro hcv8 (And.intro ho8 hg8)); clear ho8 hg8 hw8 hcv8))
             have HC2 : Hid (CmI wd.heap.size g10 tree [pb] dg 1 A8 c8 (w8.setCell ⟨g10, 4, none⟩ (.slice A8 1 c8))) := Lib.hid ⟨celSet4 HX8.out.1 _, HX8.out.2.1.setFar (HX8.out.2.1.ne_cel HX8.out.1 (by decide)) _⟩
             have HB8b : Hid (Below wd.heap.size wd (w8.setCell ⟨g10, 4, none⟩ (.slice A8 1 c8))) := Lib.hid ((HBA.out.grown HX8.out.2.2 HBA.out.size (fun j hj => (HOA.out.lt j hj).1)).setCell (p := ⟨g10, 4, none⟩) HGE.out _)
             clear k4 q8 z8
             generalize w8.setCell ⟨g10, 4, none⟩ (.slice A8 1 c8) = w9 at *
             clear HX8 HOA HSRC HBA HNE HCVX
             generalize w9 = w8b at *
             generalize A8 = A2 at *
             generalize c8 = c2 at *
             obtain ⟨hcv, hol⟩ := HC2.out
             have htl := HTK.out.len HR.out
             have hPl : ∀ p ∈ ([pb] : List Gid), HasK R 1 p := by simp only [List.mem_cons, List.not_mem_nil, or_false, forall_eq_or_imp, forall_eq, List.not_mem_nil, false_implies, implies_true]; exact HPKb.out
             have hsz : (commitL (bk tree) (([pb] : List Gid).map bk) perW perW dg).length ≤ 1000 := by rw [← HDG2.out]; exact com_len tree [pb] N (by omega) (by simp) (fun p hp => by rw [(hPl p hp).len HR.out]; omega) (by have := HNN.out; omega)
             have hstr : StrsAt w8b A2 (([pb] : List Gid).map bk) := hol.strsAt
             have hcb : strOfNums (commitL (bk tree) (([pb] : List Gid).map bk) perW perW dg) = comBt tree [pb] N := by unfold comBt; rw [HDG2.out]
             have HREF : Hid (Calls Tryz.prog 33 #[.agg (comV (bk tree) (.slice A2 1 c2) perW perW dg)] w8b fun e w' => e = .returned (.string (comBt tree [pb] N)) ∧ Below w8b.heap.size w8b w') := Lib.hid (by
              rw [← hcb]
              exact refCommit_any ⟨#[]⟩ (.slice none 0 0) (bk tree) A2 1 c2 (([pb] : List Gid).map bk) perW perW ⟨#[]⟩ ⟨#[]⟩ 0 ⟨#[]⟩ dg w8b hstr rfl (by decide) (by omega))
             have hm : MadeIn R ⟨1, (comBt tree [pb] N).data.toList, idK 1 (comBt tree [pb] N).data.toList⟩ := .inr (.inr (.inr ⟨rfl, tree, [pb], N, HTK.out, hPl, by simp, HNN.out, rfl⟩))
             have hbl : (comBt tree [pb] N).data.toList.length ≤ 2000 := by rw [← hcb, ← Lib.size_eq, strOfNums_size]; omega
             have HADH := Lib.hid (fun w3 (hb3 : Below wd.heap.size wd w3) => HA.out 1 (comBt tree [pb] N).data.toList w3 (HR2.out.below hb3) (fun k hk => HKB.out k (by have := hb3.size; omega)) hbl)
             rw [bk_of] at HADH
             have HE := Lib.hid (fun w3 (hb3 : Below wd.heap.size wd w3) e w4 => HEND.out 1 _ e w3 w4 hb3 hm hbl)
             have HCVV := Lib.hid hcv
             generalize comBt tree [pb] N = CB at *
             clear hcv hol hm hbl hsz hstr hcb hPl htl
             go_upto_region 8 with (fail)
             go_wp2_with (refine wpList_load_part (vs := comV (bk tree) (.slice A2 1 c2) perW perW dg) (off := 0) rfl (.tmp 10) rfl rfl HCVV.out Tryz.underlying67 rfl info_o8 (Nat.le_refl 12) (fun j hj => by rw [Nat.zero_add]; exact getD_some hj) ?_)
             refine HREF.out.mono ?_
             rintro e w10 ⟨rfl, hb10⟩
             have HB10 := Lib.hid (HB8b.out.trans (hb10.mono HB8b.out.size))
             clear hb10
             go_wp2_with fail
             refine (HADH.out w10 HB10.out).mono ?_
             intro e w14 ha
             have HF := Lib.hid (HE.out w10 HB10.out e w14 ha)
             obtain rfl := ha.1
             clear ha
             go_wp2
             refine ⟨rfl, _, results_none rfl _ _ _, ?_⟩
             exact HF.out
            | false =>
             obtain ⟨hcv, hol⟩ := HC0.out
             have htl := HTK.out.len HR.out
             have hPl : ∀ p ∈ ([] : List Gid), HasK R 1 p := by simp only [List.mem_cons, List.not_mem_nil, or_false, forall_eq_or_imp, forall_eq, List.not_mem_nil, false_implies, implies_true]
             have hsz : (commitL (bk tree) (([] : List Gid).map bk) perW perW dg).length ≤ 1000 := by rw [← HDG2.out]; exact com_len tree [] N (by omega) (by simp) (fun p hp => by rw [(hPl p hp).len HR.out]; omega) (by have := HNN.out; omega)
             have hstr : StrsAt wz none (([] : List Gid).map bk) := hol.strsAt
             have hcb : strOfNums (commitL (bk tree) (([] : List Gid).map bk) perW perW dg) = comBt tree [] N := by unfold comBt; rw [HDG2.out]
             have HREF : Hid (Calls Tryz.prog 33 #[.agg (comV (bk tree) (.slice none 0 0) perW perW dg)] wz fun e w' => e = .returned (.string (comBt tree [] N)) ∧ Below wz.heap.size wz w') := Lib.hid (by
              rw [← hcb]
              exact refCommit_any ⟨#[]⟩ (.slice none 0 0) (bk tree) none 0 0 (([] : List Gid).map bk) perW perW ⟨#[]⟩ ⟨#[]⟩ 0 ⟨#[]⟩ dg wz hstr rfl (by decide) (by omega))
             have hm : MadeIn R ⟨1, (comBt tree [] N).data.toList, idK 1 (comBt tree [] N).data.toList⟩ := .inr (.inr (.inr ⟨rfl, tree, [], N, HTK.out, hPl, by simp, HNN.out, rfl⟩))
             have hbl : (comBt tree [] N).data.toList.length ≤ 2000 := by rw [← hcb, ← Lib.size_eq, strOfNums_size]; omega
             have HADH := Lib.hid (fun w3 (hb3 : Below wd.heap.size wd w3) => HA.out 1 (comBt tree [] N).data.toList w3 (HR2.out.below hb3) (fun k hk => HKB.out k (by have := hb3.size; omega)) hbl)
             rw [bk_of] at HADH
             have HE := Lib.hid (fun w3 (hb3 : Below wd.heap.size wd w3) e w4 => HEND.out 1 _ e w3 w4 hb3 hm hbl)
             have HCVV := Lib.hid hcv
             generalize comBt tree [] N = CB at *
             clear hcv hol hm hbl hsz hstr hcb hPl htl
             go_upto_region 8 with (fail)
             go_wp2_with (refine wpList_load_part (vs := comV (bk tree) (.slice none 0 0) perW perW dg) (off := 0) rfl (.tmp 10) rfl rfl HCVV.out Tryz.underlying67 rfl info_o8 (Nat.le_refl 12) (fun j hj => by rw [Nat.zero_add]; exact getD_some hj) ?_)
             refine HREF.out.mono ?_
             rintro e w10 ⟨rfl, hb10⟩
             have HB10 := Lib.hid (HB6.out.trans (hb10.mono HB6.out.size))
             clear hb10
             go_wp2_with fail
             refine (HADH.out w10 HB10.out).mono ?_
             intro e w14 ha
             have HF := Lib.hid (HE.out w10 HB10.out e w14 ha)
             obtain rfl := ha.1
             clear ha
             go_wp2
             refine ⟨rfl, _, results_none rfl _ _ _, ?_⟩
             exact HF.out
end Go.Proofs.YtihanglnjghcfaaGreatDoor
