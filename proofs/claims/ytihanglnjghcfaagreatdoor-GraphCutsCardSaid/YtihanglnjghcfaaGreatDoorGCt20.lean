/- The document's Bytes (printed by genobp.py). -/
import Derived.Test.YtihanglnjghcfaaGreatDoorGCt18
import Derived.Test.YtihanglnjghcfaaGreatDoorGCt19
namespace Go.Proofs.YtihanglnjghcfaaGreatDoor
open Go.RowKit
set_option linter.unusedVariables false
set_option linter.unusedSimpArgs false

set_option maxRecDepth 100000 in
set_option maxHeartbeats 4000000 in
theorem refTree_any (d : ByteArray) (A : Option Addr) (N cL : Nat) (L : List Ent) (t : ByteArray) (vP : Value) (a c o n : ByteArray) (ty : Int) (g m : ByteArray) (w : World) (hE : EntsAt w A L) (hN : L.length = N) (hNb : N ≤ 140737488355328) (hid : ∀ x ∈ L, x.i.size ≤ 140737488351232) (hsz : (treeL L).length ≤ 140737488351300) :
 Calls Tryz.prog 33 #[.agg #[.int .i64 2, .string d, .slice A N cL, .string t, vP, .string a, .string c, .string o, .string n, .int .i64 ty, .string g, .string m]] w fun e w' => e = .returned (.string (strOfNums (treeL L))) ∧ Below w.heap.size w w' := by
 have HN := Lib.hid hN
 have HSZ := Lib.hid hsz
 have HID := Lib.hid hid
 clear hN hsz hid
 have hl0 : Below w.heap.size w (w.alloc (.cells #[.int .i64 2, .string d, (.slice A N cL), .string t, vP, .string a, .string c, .string o, .string n, .int .i64 ty, .string g, .string m] 67)) := (Below.refl _ _).alloc (Nat.le_refl _) _
 have ho0 := O8At.new w 2 d (.slice A N cL) t vP a c o n ty g m
 have HE := Lib.hid (hE.below hl0)
 clear hE
 go_enter Tryz.func33, Tryz.ntmps33
 go_upto_region 1 with (fail)
 generalize w.alloc (.cells #[.int .i64 2, .string d, (.slice A N cL), .string t, vP, .string a, .string c, .string o, .string n, .int .i64 ty, .string g, .string m] 67) = w0 at *
 have k0 := ho0.c0
 have HO := Lib.hid ho0
 have HL := Lib.hid hl0
 clear ho0 hl0
 generalize hog : w.heap.size = og at *
 have HOG := Lib.hid hog
 clear hog
 have k2 := HO.out.c2
 go_upto_region 6 with (fail)
 go_wp2
 go_loopw [4, 3] (fun vi vs wr => ∃ (k : Nat), vi = .int .i64 k ∧ vs = .string (strOfNums (treeL (L.take k))) ∧ k ≤ N ∧ Below w0.heap.size w0 wr) (fun vi _ _ => N - (intOf vi).toNat)
 case atStart => exact ⟨0, rfl, rfl, Nat.zero_le _, Below.refl _ _⟩
 case round =>
  obtain ⟨k, rfl, rfl, hk, hb⟩ := hrel
  have kr2 := (HO.out.below hb).c2
  have HOR := Lib.hid (HO.out.below hb)
  have HB := Lib.hid hb
  have HER := Lib.hid (HE.out.below hb)
  clear hb
  by_cases hlt : k < N
  · obtain ⟨x, hx⟩ : ∃ x, L[k]? = some x := ⟨_, List.getElem?_eq_getElem (by rw [HN.out]; exact hlt)⟩
    have hsz1 := treeL_pre L (k + 1)
    have hsx := treeL_succ hx
    rw [hsx, List.length_append, entL_len] at hsz1
    have hsz2 := HSZ.out
    obtain ⟨eb, eo, rfl, heb, hcell⟩ := HER.out (by rw [HN.out]; omega)
    have HX0 := Lib.hid (fun w1 (hI : Below wr.heap.size wr w1) => (hI.cell (p := ⟨eb, eo + k * 3, none⟩) heb).trans (hcell k x hx).1)
    have HX1 := Lib.hid (fun w1 (hI : Below wr.heap.size wr w1) => (hI.cell (p := ⟨eb, eo + k * 3 + 1, none⟩) heb).trans (hcell k x hx).2.1)
    have HX2 := Lib.hid (fun w1 (hI : Below wr.heap.size wr w1) => (hI.cell (p := ⟨eb, eo + k * 3 + 2, none⟩) heb).trans (hcell k x hx).2.2)
    have HZI : Hid (x.i.size ≤ 140737488355328) := Lib.hid (Nat.le_trans (HID.out x (List.mem_of_getElem? hx)) (by decide))
    have d2 : decide ((k : Int) < (N : Int)) = true := decide_eq_true (by omega)
    clear hcell hx
    have z0 : (strOfNums (treeL (L.take k))).size = (treeL (L.take k)).length := strOfNums_size _
    have HSX := Lib.hid hsx
    clear hsx
    generalize hS : strOfNums (treeL (L.take k)) = S at *
    have HS := Lib.hid hS
    clear hS
    have z1 : (S ++ x.m).size = S.size + x.m.size := by rw [ByteArray.size_append]
    have z2 : (S ++ x.m ++ (⟨#[32]⟩ : ByteArray)).size = S.size + x.m.size + 1 := by rw [ByteArray.size_append, z1]; rfl
    have z3 : (S ++ x.m ++ (⟨#[32]⟩ : ByteArray) ++ x.n).size = S.size + x.m.size + 1 + x.n.size := by rw [ByteArray.size_append, z2]
    have z4 : (S ++ x.m ++ (⟨#[32]⟩ : ByteArray) ++ x.n ++ (⟨#[0]⟩ : ByteArray)).size = S.size + x.m.size + 1 + x.n.size + 1 := by rw [ByteArray.size_append, z3]; rfl
    have z5 : (S ++ x.m ++ (⟨#[32]⟩ : ByteArray) ++ x.n ++ (⟨#[0]⟩ : ByteArray) ++ strOfNums (rawL x.i)).size = S.size + x.m.size + 1 + x.n.size + 1 + 20 := by rw [ByteArray.size_append, z4, strOfNums_size, rawL_len]
    have z6 : (strOfNums (rawL x.i)).size = 20 := by rw [strOfNums_size, rawL_len]
    go_upto_region 9 with (fail)
    refine wp_region_ph (by kernel_rfl) [] [.span 0 0, .span 0 0, .span 0 0, .span 0 0, .span 0 0, .span 0 0, .span 0 0, .span 0 0, .span 0 0, .span 0 0, .span 0 0, .span 0 0, .span 0 0, .span 0 0, .span 0 0, .span 0 0, .span 0 0, .span 0 0, .span 0 0, .span 0 0, .span 0 0, .span 0 0, .span 0 0, .span 0 0, .span 0 0, .span 0 0] [fun z9 => z9 = .string (S), fun z9 => z9 = .pointer (some ⟨og, 2, none⟩), fun z9 => z9 = .slice (some ⟨eb, eo, none⟩) N cL, fun z9 => z9 = .int .i64 k, fun z9 => z9 = .pointer (some ⟨eb, eo + k * 3, none⟩), fun z9 => z9 = .pointer (some ⟨eb, eo + k * 3, none⟩), fun z9 => z9 = .string x.m, fun z9 => z9 = .string (S ++ x.m), fun z9 => z9 = .string (S ++ x.m ++ (⟨#[32]⟩ : ByteArray)), fun z9 => z9 = .pointer (some ⟨og, 2, none⟩), fun z9 => z9 = .slice (some ⟨eb, eo, none⟩) N cL, fun z9 => z9 = .int .i64 k, fun z9 => z9 = .pointer (some ⟨eb, eo + k * 3, none⟩), fun z9 => z9 = .pointer (some ⟨eb, eo + k * 3 + 1, none⟩), fun z9 => z9 = .string x.n, fun z9 => z9 = .string (S ++ x.m ++ (⟨#[32]⟩ : ByteArray) ++ x.n), fun z9 => z9 = .string (S ++ x.m ++ (⟨#[32]⟩ : ByteArray) ++ x.n ++ (⟨#[0]⟩ : ByteArray)), fun z9 => z9 = .pointer (some ⟨og, 2, none⟩), fun z9 => z9 = .slice (some ⟨eb, eo, none⟩) N cL, fun z9 => z9 = .int .i64 k, fun z9 => z9 = .pointer (some ⟨eb, eo + k * 3, none⟩), fun z9 => z9 = .pointer (some ⟨eb, eo + k * 3 + 2, none⟩), fun z9 => z9 = .string x.i, fun z9 => z9 = .string (strOfNums (rawL x.i)), fun z9 => z9 = .string (S ++ x.m ++ (⟨#[32]⟩ : ByteArray) ++ x.n ++ (⟨#[0]⟩ : ByteArray) ++ strOfNums (rawL x.i)), fun z9 => z9 = .string (S ++ x.m ++ (⟨#[32]⟩ : ByteArray) ++ x.n ++ (⟨#[0]⟩ : ByteArray) ++ strOfNums (rawL x.i))] ((fun _ w => Below wr.heap.size wr w)) (by kernel_rfl) (by kernel_rfl) (by kernel_rfl) (by kernel_rfl) (by kernel_rfl) (by kernel_rfl) rfl rfl ((Below.refl _ _).drew) ?steps ?done
    case steps =>
     refine ⟨?_, ?_, ?_, ?_, ?_, ?_, ?_, ?_, ?_, ?_, ?_, ?_, ?_, ?_, ?_, ?_, ?_, ?_, ?_, ?_, ?_, ?_, ?_, ?_, ?_, ?_, trivial⟩
     · intro us au w1 k0 hlo hhi ha hd hst hI
       obtain rfl : k0 = 0 := by omega
       have q3 := slot_start (t := 3) (v := .string S) 25 ha (hst 25 (by decide) (by kernel_rfl)) (by kernel_rfl) (by kernel_rfl) (by kernel_rfl) (by kernel_rfl)
       have p3 := slot_norm q3
       clear ha hd hst
       exact StepI.pure (v := .string (S)) rfl rfl (by go_simp; try omega) ⟨rfl, hI⟩
     · intro us au w1 k1 hlo hhi ha hd hst hI
       obtain rfl : k1 = 0 := by omega
       have q1 := slot_far (t := 1) (v := .pointer (some ⟨og, 0, none⟩)) ha (by kernel_rfl) (by kernel_rfl)
       have p1 := slot_norm q1
       clear ha hd hst
       exact StepI.pure (v := .pointer (some ⟨og, 2, none⟩)) rfl rfl (by go_simp) ⟨rfl, hI⟩
     · intro us au w1 k2 hlo hhi ha hd hst hI
       obtain rfl : k2 = 0 := by omega
       have e1 := hd 1 _ (by kernel_rfl) rfl
       have q22 := slot_at (t := 22) 1 ha (by kernel_rfl) (by kernel_rfl) (by kernel_rfl) e1
       have p22 := slot_norm q22
       clear ha hd hst
       have kk := (HOR.out.below hI).c2
       exact StepI.pure (v := .slice (some ⟨eb, eo, none⟩) N cL) rfl rfl (by go_simp) ⟨rfl, hI⟩
     · intro us au w1 k3 hlo hhi ha hd hst hI
       obtain rfl : k3 = 0 := by omega
       have q4 := slot_far (t := 4) (v := .int .i64 k) ha (by kernel_rfl) (by kernel_rfl)
       have p4 := slot_norm q4
       clear ha hd hst
       exact StepI.pure (v := .int .i64 k) rfl rfl (by go_simp) ⟨rfl, hI⟩
     · intro us au w1 k4 hlo hhi ha hd hst hI
       obtain rfl : k4 = 0 := by omega
       have e2 := hd 2 _ (by kernel_rfl) rfl
       have e3 := hd 3 _ (by kernel_rfl) rfl
       have q23 := slot_at (t := 23) 2 ha (by kernel_rfl) (by kernel_rfl) (by kernel_rfl) e2
       have p23 := slot_norm q23
       have q24 := slot_at (t := 24) 3 ha (by kernel_rfl) (by kernel_rfl) (by kernel_rfl) e3
       have p24 := slot_norm q24
       clear ha hd hst
       exact StepI.pure (v := .pointer (some ⟨eb, eo + k * 3, none⟩)) rfl rfl (by go_simp) ⟨rfl, hI⟩
     · intro us au w1 k5 hlo hhi ha hd hst hI
       obtain rfl : k5 = 0 := by omega
       have e4 := hd 4 _ (by kernel_rfl) rfl
       have q25 := slot_at (t := 25) 4 ha (by kernel_rfl) (by kernel_rfl) (by kernel_rfl) e4
       have p25 := slot_norm q25
       clear ha hd hst
       exact StepI.pure (v := .pointer (some ⟨eb, eo + k * 3, none⟩)) rfl rfl (by go_simp) ⟨rfl, hI⟩
     · intro us au w1 k6 hlo hhi ha hd hst hI
       obtain rfl : k6 = 0 := by omega
       have e5 := hd 5 _ (by kernel_rfl) rfl
       have q26 := slot_at (t := 26) 5 ha (by kernel_rfl) (by kernel_rfl) (by kernel_rfl) e5
       have p26 := slot_norm q26
       clear ha hd hst
       have kk := HX0.out w1 hI
       exact StepI.pure (v := .string x.m) rfl rfl (by go_simp) ⟨rfl, hI⟩
     · intro us au w1 k7 hlo hhi ha hd hst hI
       obtain rfl : k7 = 0 := by omega
       have e0 := hd 0 _ (by kernel_rfl) rfl
       have e6 := hd 6 _ (by kernel_rfl) rfl
       have q21 := slot_at (t := 21) 0 ha (by kernel_rfl) (by kernel_rfl) (by kernel_rfl) e0
       have p21 := slot_norm q21
       have q27 := slot_at (t := 27) 6 ha (by kernel_rfl) (by kernel_rfl) (by kernel_rfl) e6
       have p27 := slot_norm q27
       clear ha hd hst
       exact StepI.pure (v := .string (S ++ x.m)) rfl rfl (by go_simp; try omega) ⟨rfl, hI⟩
     · intro us au w1 k8 hlo hhi ha hd hst hI
       obtain rfl : k8 = 0 := by omega
       have e7 := hd 7 _ (by kernel_rfl) rfl
       have q28 := slot_at (t := 28) 7 ha (by kernel_rfl) (by kernel_rfl) (by kernel_rfl) e7
       have p28 := slot_norm q28
       clear ha hd hst
       exact StepI.pure (v := .string (S ++ x.m ++ (⟨#[32]⟩ : ByteArray))) rfl rfl (by go_simp; try omega) ⟨rfl, hI⟩
     · intro us au w1 k9 hlo hhi ha hd hst hI
       obtain rfl : k9 = 0 := by omega
       have q1 := slot_far (t := 1) (v := .pointer (some ⟨og, 0, none⟩)) ha (by kernel_rfl) (by kernel_rfl)
       have p1 := slot_norm q1
       clear ha hd hst
       exact StepI.pure (v := .pointer (some ⟨og, 2, none⟩)) rfl rfl (by go_simp) ⟨rfl, hI⟩
     · intro us au w1 k10 hlo hhi ha hd hst hI
       obtain rfl : k10 = 0 := by omega
       have e9 := hd 9 _ (by kernel_rfl) rfl
       have q30 := slot_at (t := 30) 9 ha (by kernel_rfl) (by kernel_rfl) (by kernel_rfl) e9
       have p30 := slot_norm q30
       clear ha hd hst
       have kk := (HOR.out.below hI).c2
       exact StepI.pure (v := .slice (some ⟨eb, eo, none⟩) N cL) rfl rfl (by go_simp) ⟨rfl, hI⟩
     · intro us au w1 k11 hlo hhi ha hd hst hI
       obtain rfl : k11 = 0 := by omega
       have q4 := slot_far (t := 4) (v := .int .i64 k) ha (by kernel_rfl) (by kernel_rfl)
       have p4 := slot_norm q4
       clear ha hd hst
       exact StepI.pure (v := .int .i64 k) rfl rfl (by go_simp) ⟨rfl, hI⟩
     · intro us au w1 k12 hlo hhi ha hd hst hI
       obtain rfl : k12 = 0 := by omega
       have e10 := hd 10 _ (by kernel_rfl) rfl
       have e11 := hd 11 _ (by kernel_rfl) rfl
       have q31 := slot_at (t := 31) 10 ha (by kernel_rfl) (by kernel_rfl) (by kernel_rfl) e10
       have p31 := slot_norm q31
       have q32 := slot_at (t := 32) 11 ha (by kernel_rfl) (by kernel_rfl) (by kernel_rfl) e11
       have p32 := slot_norm q32
       clear ha hd hst
       exact StepI.pure (v := .pointer (some ⟨eb, eo + k * 3, none⟩)) rfl rfl (by go_simp) ⟨rfl, hI⟩
     · intro us au w1 k13 hlo hhi ha hd hst hI
       obtain rfl : k13 = 0 := by omega
       have e12 := hd 12 _ (by kernel_rfl) rfl
       have q33 := slot_at (t := 33) 12 ha (by kernel_rfl) (by kernel_rfl) (by kernel_rfl) e12
       have p33 := slot_norm q33
       clear ha hd hst
       exact StepI.pure (v := .pointer (some ⟨eb, eo + k * 3 + 1, none⟩)) rfl rfl (by go_simp) ⟨rfl, hI⟩
     · intro us au w1 k14 hlo hhi ha hd hst hI
       obtain rfl : k14 = 0 := by omega
       have e13 := hd 13 _ (by kernel_rfl) rfl
       have q34 := slot_at (t := 34) 13 ha (by kernel_rfl) (by kernel_rfl) (by kernel_rfl) e13
       have p34 := slot_norm q34
       clear ha hd hst
       have kk := HX1.out w1 hI
       exact StepI.pure (v := .string x.n) rfl rfl (by go_simp) ⟨rfl, hI⟩
     · intro us au w1 k15 hlo hhi ha hd hst hI
       obtain rfl : k15 = 0 := by omega
       have e8 := hd 8 _ (by kernel_rfl) rfl
       have e14 := hd 14 _ (by kernel_rfl) rfl
       have q29 := slot_at (t := 29) 8 ha (by kernel_rfl) (by kernel_rfl) (by kernel_rfl) e8
       have p29 := slot_norm q29
       have q35 := slot_at (t := 35) 14 ha (by kernel_rfl) (by kernel_rfl) (by kernel_rfl) e14
       have p35 := slot_norm q35
       clear ha hd hst
       exact StepI.pure (v := .string (S ++ x.m ++ (⟨#[32]⟩ : ByteArray) ++ x.n)) rfl rfl (by go_simp; try omega) ⟨rfl, hI⟩
     · intro us au w1 k16 hlo hhi ha hd hst hI
       obtain rfl : k16 = 0 := by omega
       have e15 := hd 15 _ (by kernel_rfl) rfl
       have q36 := slot_at (t := 36) 15 ha (by kernel_rfl) (by kernel_rfl) (by kernel_rfl) e15
       have p36 := slot_norm q36
       clear ha hd hst
       exact StepI.pure (v := .string (S ++ x.m ++ (⟨#[32]⟩ : ByteArray) ++ x.n ++ (⟨#[0]⟩ : ByteArray))) rfl rfl (by go_simp; try omega) ⟨rfl, hI⟩
     · intro us au w1 k17 hlo hhi ha hd hst hI
       obtain rfl : k17 = 0 := by omega
       have q1 := slot_far (t := 1) (v := .pointer (some ⟨og, 0, none⟩)) ha (by kernel_rfl) (by kernel_rfl)
       have p1 := slot_norm q1
       clear ha hd hst
       exact StepI.pure (v := .pointer (some ⟨og, 2, none⟩)) rfl rfl (by go_simp) ⟨rfl, hI⟩
     · intro us au w1 k18 hlo hhi ha hd hst hI
       obtain rfl : k18 = 0 := by omega
       have e17 := hd 17 _ (by kernel_rfl) rfl
       have q38 := slot_at (t := 38) 17 ha (by kernel_rfl) (by kernel_rfl) (by kernel_rfl) e17
       have p38 := slot_norm q38
       clear ha hd hst
       have kk := (HOR.out.below hI).c2
       exact StepI.pure (v := .slice (some ⟨eb, eo, none⟩) N cL) rfl rfl (by go_simp) ⟨rfl, hI⟩
     · intro us au w1 k19 hlo hhi ha hd hst hI
       obtain rfl : k19 = 0 := by omega
       have q4 := slot_far (t := 4) (v := .int .i64 k) ha (by kernel_rfl) (by kernel_rfl)
       have p4 := slot_norm q4
       clear ha hd hst
       exact StepI.pure (v := .int .i64 k) rfl rfl (by go_simp) ⟨rfl, hI⟩
     · intro us au w1 k20 hlo hhi ha hd hst hI
       obtain rfl : k20 = 0 := by omega
       have e18 := hd 18 _ (by kernel_rfl) rfl
       have e19 := hd 19 _ (by kernel_rfl) rfl
       have q39 := slot_at (t := 39) 18 ha (by kernel_rfl) (by kernel_rfl) (by kernel_rfl) e18
       have p39 := slot_norm q39
       have q40 := slot_at (t := 40) 19 ha (by kernel_rfl) (by kernel_rfl) (by kernel_rfl) e19
       have p40 := slot_norm q40
       clear ha hd hst
       exact StepI.pure (v := .pointer (some ⟨eb, eo + k * 3, none⟩)) rfl rfl (by go_simp) ⟨rfl, hI⟩
     · intro us au w1 k21 hlo hhi ha hd hst hI
       obtain rfl : k21 = 0 := by omega
       have e20 := hd 20 _ (by kernel_rfl) rfl
       have q41 := slot_at (t := 41) 20 ha (by kernel_rfl) (by kernel_rfl) (by kernel_rfl) e20
       have p41 := slot_norm q41
       clear ha hd hst
       exact StepI.pure (v := .pointer (some ⟨eb, eo + k * 3 + 2, none⟩)) rfl rfl (by go_simp) ⟨rfl, hI⟩
     · intro us au w1 k22 hlo hhi ha hd hst hI
       obtain rfl : k22 = 0 := by omega
       have e21 := hd 21 _ (by kernel_rfl) rfl
       have q42 := slot_at (t := 42) 21 ha (by kernel_rfl) (by kernel_rfl) (by kernel_rfl) e21
       have p42 := slot_norm q42
       clear ha hd hst
       have kk := HX2.out w1 hI
       exact StepI.pure (v := .string x.i) rfl rfl (by go_simp) ⟨rfl, hI⟩
     · intro us au w1 k23 hlo hhi ha hd hst hI
       obtain rfl : k23 = 0 := by omega
       have e22 := hd 22 _ (by kernel_rfl) rfl
       have q43 := slot_at (t := 43) 22 ha (by kernel_rfl) (by kernel_rfl) (by kernel_rfl) e22
       have p43 := slot_norm q43
       clear ha hd hst
       refine StepI.call (f := 54) (args := #[.string x.i]) rfl rfl (by go_simp) ?_
       refine (rawR_any x.i w1 HZI.out).mono ?_
       rintro e w5 ⟨rfl, hb⟩
       exact ⟨_, rfl, rfl, Below.trans hI (hb.mono hI.size)⟩
     · intro us au w1 k24 hlo hhi ha hd hst hI
       obtain rfl : k24 = 0 := by omega
       have e16 := hd 16 _ (by kernel_rfl) rfl
       have e23 := hd 23 _ (by kernel_rfl) rfl
       have q37 := slot_at (t := 37) 16 ha (by kernel_rfl) (by kernel_rfl) (by kernel_rfl) e16
       have p37 := slot_norm q37
       have q44 := slot_at (t := 44) 23 ha (by kernel_rfl) (by kernel_rfl) (by kernel_rfl) e23
       have p44 := slot_norm q44
       clear ha hd hst
       exact StepI.pure (v := .string (S ++ x.m ++ (⟨#[32]⟩ : ByteArray) ++ x.n ++ (⟨#[0]⟩ : ByteArray) ++ strOfNums (rawL x.i))) rfl rfl (by go_simp; try omega) ⟨rfl, hI⟩
     · intro us au w1 k25 hlo hhi ha hd hst hI
       obtain rfl : k25 = 0 := by omega
       have e24 := hd 24 _ (by kernel_rfl) rfl
       have q45 := slot_at (t := 45) 24 ha (by kernel_rfl) (by kernel_rfl) (by kernel_rfl) e24
       have p45 := slot_norm q45
       clear ha hd hst
       exact StepI.pure (v := .string (S ++ x.m ++ (⟨#[32]⟩ : ByteArray) ++ x.n ++ (⟨#[0]⟩ : ByteArray) ++ strOfNums (rawL x.i))) rfl rfl (by go_simp; try omega) ⟨rfl, hI⟩
    case done =>
     intro us w1 hI hd
     have e25 := hd 25 _ (by decide) rfl
     have HW := Lib.hid (HB.out.trans (Below.mono hI HB.out.size))
     have HNX : Hid (S ++ x.m ++ (⟨#[32]⟩ : ByteArray) ++ x.n ++ (⟨#[0]⟩ : ByteArray) ++ strOfNums (rawL x.i) = strOfNums (treeL (L.take (k + 1)))) := Lib.hid (by
      rw [HSX.out, ← str_app, HS.out, entL, ← str_app, strOfNums_bytes]
      simp only [entS, ByteArray.append_assoc])
     clear hd hI
     simp only [putAll]
     go_simp
     go_wp2
     go_roundw
     case rel => exact ⟨k + 1, rfl, by rw [← HNX.out], by omega, HW.out⟩
     case measure => simp [intOf]; omega
  · obtain rfl : k = N := by omega
    have d2 : decide ((k : Int) < (k : Int)) = false := decide_eq_false (by omega)
    have d2' : decide (k < k) = false := decide_eq_false (by omega)
    rw [List.take_of_length_le (by rw [HN.out]; exact Nat.le_refl _)]
    go_wp2
    go_ret
    exact ⟨rfl, by rw [HOG.out]; exact HL.out.trans (HB.out.mono (by rw [← HOG.out]; exact HL.out.size))⟩
set_option maxRecDepth 100000 in
set_option maxHeartbeats 4000000 in
theorem refCommit_any (d : ByteArray) (vL : Value) (t : ByteArray) (A : Option Addr) (N cP : Nat) (P : List ByteArray) (a c o n : ByteArray) (ty : Int) (g m : ByteArray) (w : World) (hS : StrsAt w A P) (hN : P.length = N) (hNb : N ≤ 140737488355328) (hsz : (commitL t P a c m).length ≤ 140737488351300) :
 Calls Tryz.prog 33 #[.agg #[.int .i64 1, .string d, vL, .string t, .slice A N cP, .string a, .string c, .string o, .string n, .int .i64 ty, .string g, .string m]] w fun e w' => e = .returned (.string (strOfNums (commitL t P a c m))) ∧ Below w.heap.size w w' := by
 have HN := Lib.hid hN
 have hz : t.size + 6 + (parL P).length + (a.size + c.size + m.size + 20) ≤ 140737488351300 := by
  unfold commitL at hsz
  rw [List.length_append, List.length_append, bytesOf_len, bytesOf_len, headS_size, tailS_size] at hsz
  exact hsz
 have HSZ := Lib.hid hz
 have st : t.size ≤ 140737488351300 := by omega
 have sa : a.size ≤ 140737488351300 := by omega
 have sc : c.size ≤ 140737488351300 := by omega
 have sm : m.size ≤ 140737488351300 := by omega
 clear hN hsz hz
 have hl0 : Below w.heap.size w (w.alloc (.cells #[.int .i64 1, .string d, vL, .string t, (.slice A N cP), .string a, .string c, .string o, .string n, .int .i64 ty, .string g, .string m] 67)) := (Below.refl _ _).alloc (Nat.le_refl _) _
 have ho0 := O8At.new w 1 d vL t (.slice A N cP) a c o n ty g m
 have HSA := Lib.hid (hS.below hl0)
 clear hS
 go_enter Tryz.func33, Tryz.ntmps33
 go_upto_region 1 with (fail)
 generalize w.alloc (.cells #[.int .i64 1, .string d, vL, .string t, (.slice A N cP), .string a, .string c, .string o, .string n, .int .i64 ty, .string g, .string m] 67) = w0 at *
 have k0 := ho0.c0
 have HO := Lib.hid ho0
 have HL := Lib.hid hl0
 clear ho0 hl0
 generalize hog : w.heap.size = og at *
 have HOG := Lib.hid hog
 clear hog
 have k3 := HO.out.c3
 have z1 : ((⟨#[116, 114, 101, 101, 32]⟩ : ByteArray) ++ t).size = 5 + t.size := by rw [ByteArray.size_append]; rfl
 have z2 : ((⟨#[116, 114, 101, 101, 32]⟩ : ByteArray) ++ t ++ (⟨#[10]⟩ : ByteArray)).size = 5 + t.size + 1 := by rw [ByteArray.size_append, z1]; rfl
 go_upto_region 12 with (fail)
 have k4 := HO.out.c4
 go_wp2
 go_loopw [5, 3] (fun vi vs wr => ∃ (k : Nat), vi = .int .i64 k ∧ vs = .string (strOfNums (bytesOf (headS t) ++ parL (P.take k))) ∧ k ≤ N ∧ Below w0.heap.size w0 wr) (fun vi _ _ => N - (intOf vi).toNat)
 case atStart => exact ⟨0, rfl, by simp only [parL, List.take_zero, List.flatMap_nil, List.append_nil]; rw [strOfNums_bytes]; rfl, Nat.zero_le _, Below.refl _ _⟩
 case round =>
  clear z1 z2
  obtain ⟨k, rfl, rfl, hk, hb⟩ := hrel
  have kr4 := (HO.out.below hb).c4
  have HOR := Lib.hid (HO.out.below hb)
  have HB := Lib.hid hb
  have HER := Lib.hid (HSA.out.below hb)
  clear hb
  by_cases hlt : k < N
  · obtain ⟨p, hp⟩ : ∃ p, P[k]? = some p := ⟨_, List.getElem?_eq_getElem (by rw [HN.out]; exact hlt)⟩
    have hsx := parL_succ hp
    have hs1 := parL_pre P (k + 1)
    rw [hsx, List.length_append, bytesOf_len, parS_size] at hs1
    have hs2 := HSZ.out
    obtain ⟨eb, eo, rfl, heb, hcell⟩ := HER.out (by rw [HN.out]; omega)
    have r0 := hcell k p hp
    have d2 : decide ((k : Int) < (N : Int)) = true := decide_eq_true (by omega)
    have d2' : decide (k < N) = true := decide_eq_true hlt
    have HSX := Lib.hid hsx
    have sp : p.size ≤ 140737488351300 := by omega
    have z0 : (strOfNums (bytesOf (headS t) ++ parL (P.take k))).size ≤ 140737488351300 := by rw [strOfNums_size, List.length_append, bytesOf_len, headS_size]; omega
    clear hcell hp hs1 hs2 hsx heb
    generalize hS : strOfNums (bytesOf (headS t) ++ parL (P.take k)) = S at *
    have HS := Lib.hid hS
    clear hS
    have z1 : (S ++ (⟨#[112, 97, 114, 101, 110, 116, 32]⟩ : ByteArray)).size = S.size + 7 := by rw [ByteArray.size_append]; rfl
    have z2 : (S ++ (⟨#[112, 97, 114, 101, 110, 116, 32]⟩ : ByteArray) ++ p).size = S.size + 7 + p.size := by rw [ByteArray.size_append, z1]
    have z3 : (S ++ (⟨#[112, 97, 114, 101, 110, 116, 32]⟩ : ByteArray) ++ p ++ (⟨#[10]⟩ : ByteArray)).size = S.size + 7 + p.size + 1 := by rw [ByteArray.size_append, z2]; rfl
    have HNX : Hid (S ++ (⟨#[112, 97, 114, 101, 110, 116, 32]⟩ : ByteArray) ++ p ++ (⟨#[10]⟩ : ByteArray) = strOfNums (bytesOf (headS t) ++ parL (P.take (k + 1)))) := Lib.hid (by
     rw [HSX.out, ← List.append_assoc, ← str_app, HS.out, strOfNums_bytes]
     show _ = S ++ ((⟨#[112, 97, 114, 101, 110, 116, 32]⟩ : ByteArray) ++ p ++ (⟨#[10]⟩ : ByteArray))
     simp only [ByteArray.append_assoc])
    go_wp2
    go_roundw
    case rel => exact ⟨k + 1, rfl, by rw [← HNX.out], by omega, HB.out⟩
    case measure => simp [intOf]; omega
  · obtain rfl : k = N := by omega
    have d2 : decide ((k : Int) < (k : Int)) = false := decide_eq_false (by omega)
    have d2' : decide (k < k) = false := decide_eq_false (by omega)
    rw [List.take_of_length_le (by rw [HN.out]; exact Nat.le_refl _)]
    have kr5 := HOR.out.c5
    have kr6 := HOR.out.c6
    have kr11 := HOR.out.c11
    have z0 : (strOfNums (bytesOf (headS t) ++ parL P)).size ≤ 140737488351300 := by rw [strOfNums_size, List.length_append, bytesOf_len, headS_size]; have := HSZ.out; omega
    generalize hS : strOfNums (bytesOf (headS t) ++ parL P) = S at *
    have HS := Lib.hid hS
    clear hS
    have z1 : (S ++ (⟨#[97, 117, 116, 104, 111, 114, 32]⟩ : ByteArray)).size = S.size + 7 := by rw [ByteArray.size_append]; rfl
    have z2 : (S ++ (⟨#[97, 117, 116, 104, 111, 114, 32]⟩ : ByteArray) ++ a).size = S.size + 7 + a.size := by rw [ByteArray.size_append, z1]
    have z3 : (S ++ (⟨#[97, 117, 116, 104, 111, 114, 32]⟩ : ByteArray) ++ a ++ (⟨#[10, 99, 111, 109, 109, 105, 116, 116, 101, 114, 32]⟩ : ByteArray)).size = S.size + 7 + a.size + 11 := by rw [ByteArray.size_append, z2]; rfl
    have z4 : (S ++ (⟨#[97, 117, 116, 104, 111, 114, 32]⟩ : ByteArray) ++ a ++ (⟨#[10, 99, 111, 109, 109, 105, 116, 116, 101, 114, 32]⟩ : ByteArray) ++ c).size = S.size + 7 + a.size + 11 + c.size := by rw [ByteArray.size_append, z3]
    have z5 : (S ++ (⟨#[97, 117, 116, 104, 111, 114, 32]⟩ : ByteArray) ++ a ++ (⟨#[10, 99, 111, 109, 109, 105, 116, 116, 101, 114, 32]⟩ : ByteArray) ++ c ++ (⟨#[10, 10]⟩ : ByteArray)).size = S.size + 7 + a.size + 11 + c.size + 2 := by rw [ByteArray.size_append, z4]; rfl
    have z6 : (S ++ (⟨#[97, 117, 116, 104, 111, 114, 32]⟩ : ByteArray) ++ a ++ (⟨#[10, 99, 111, 109, 109, 105, 116, 116, 101, 114, 32]⟩ : ByteArray) ++ c ++ (⟨#[10, 10]⟩ : ByteArray) ++ m).size = S.size + 7 + a.size + 11 + c.size + 2 + m.size := by rw [ByteArray.size_append, z5]
    have HNX : Hid (S ++ (⟨#[97, 117, 116, 104, 111, 114, 32]⟩ : ByteArray) ++ a ++ (⟨#[10, 99, 111, 109, 109, 105, 116, 116, 101, 114, 32]⟩ : ByteArray) ++ c ++ (⟨#[10, 10]⟩ : ByteArray) ++ m = strOfNums (commitL t P a c m)) := Lib.hid (by
     unfold commitL
     rw [← str_app, HS.out, strOfNums_bytes]
     show _ = S ++ ((⟨#[97, 117, 116, 104, 111, 114, 32]⟩ : ByteArray) ++ a ++ (⟨#[10, 99, 111, 109, 109, 105, 116, 116, 101, 114, 32]⟩ : ByteArray) ++ c ++ (⟨#[10, 10]⟩ : ByteArray) ++ m)
     simp only [ByteArray.append_assoc])
    go_wp2
    go_ret
    exact ⟨by rw [← HNX.out]; rfl, by rw [HOG.out]; exact HL.out.trans (HB.out.mono (by rw [← HOG.out]; exact HL.out.size))⟩
set_option maxRecDepth 100000 in
set_option maxHeartbeats 4000000 in
theorem refTag_any (d : ByteArray) (vL : Value) (t : ByteArray) (vP : Value) (a c o n : ByteArray) (ty : Int) (g m : ByteArray) (w : World) (hsz : (tagS o (strOfNums (nameL ty)) n g m).size ≤ 140737488351300) :
 Calls Tryz.prog 33 #[.agg #[.int .i64 4, .string d, vL, .string t, vP, .string a, .string c, .string o, .string n, .int .i64 ty, .string g, .string m]] w fun e w' => e = .returned (.string (tagS o (strOfNums (nameL ty)) n g m)) ∧ Below w.heap.size w w' := by
 have HNM := Lib.hid (fun w => rname_any ty w)
 have hk6 : (strOfNums (nameL ty)).size ≤ 6 := by rw [strOfNums_size]; exact nameL_len ty
 generalize strOfNums (nameL ty) = KN at *
 rw [tagS_size] at hsz
 have HSZ := Lib.hid hsz
 have so : o.size ≤ 140737488351300 := by omega
 have sn : n.size ≤ 140737488351300 := by omega
 have sg : g.size ≤ 140737488351300 := by omega
 have sm : m.size ≤ 140737488351300 := by omega
 clear hsz
 have z1 : ((⟨#[111, 98, 106, 101, 99, 116, 32]⟩ : ByteArray) ++ o).size = 7 + o.size := by rw [ByteArray.size_append]; rfl
 have z2 : ((⟨#[111, 98, 106, 101, 99, 116, 32]⟩ : ByteArray) ++ o ++ (⟨#[10, 116, 121, 112, 101, 32]⟩ : ByteArray)).size = 7 + o.size + 6 := by rw [ByteArray.size_append, z1]; rfl
 have z3 : ((⟨#[111, 98, 106, 101, 99, 116, 32]⟩ : ByteArray) ++ o ++ (⟨#[10, 116, 121, 112, 101, 32]⟩ : ByteArray) ++ KN).size = 7 + o.size + 6 + KN.size := by rw [ByteArray.size_append, z2]
 have z4 : ((⟨#[111, 98, 106, 101, 99, 116, 32]⟩ : ByteArray) ++ o ++ (⟨#[10, 116, 121, 112, 101, 32]⟩ : ByteArray) ++ KN ++ (⟨#[10, 116, 97, 103, 32]⟩ : ByteArray)).size = 7 + o.size + 6 + KN.size + 5 := by rw [ByteArray.size_append, z3]; rfl
 have z5 : ((⟨#[111, 98, 106, 101, 99, 116, 32]⟩ : ByteArray) ++ o ++ (⟨#[10, 116, 121, 112, 101, 32]⟩ : ByteArray) ++ KN ++ (⟨#[10, 116, 97, 103, 32]⟩ : ByteArray) ++ n).size = 7 + o.size + 6 + KN.size + 5 + n.size := by rw [ByteArray.size_append, z4]
 have z6 : ((⟨#[111, 98, 106, 101, 99, 116, 32]⟩ : ByteArray) ++ o ++ (⟨#[10, 116, 121, 112, 101, 32]⟩ : ByteArray) ++ KN ++ (⟨#[10, 116, 97, 103, 32]⟩ : ByteArray) ++ n ++ (⟨#[10, 116, 97, 103, 103, 101, 114, 32]⟩ : ByteArray)).size = 7 + o.size + 6 + KN.size + 5 + n.size + 8 := by rw [ByteArray.size_append, z5]; rfl
 have z7 : ((⟨#[111, 98, 106, 101, 99, 116, 32]⟩ : ByteArray) ++ o ++ (⟨#[10, 116, 121, 112, 101, 32]⟩ : ByteArray) ++ KN ++ (⟨#[10, 116, 97, 103, 32]⟩ : ByteArray) ++ n ++ (⟨#[10, 116, 97, 103, 103, 101, 114, 32]⟩ : ByteArray) ++ g).size = 7 + o.size + 6 + KN.size + 5 + n.size + 8 + g.size := by rw [ByteArray.size_append, z6]
 have z8 : ((⟨#[111, 98, 106, 101, 99, 116, 32]⟩ : ByteArray) ++ o ++ (⟨#[10, 116, 121, 112, 101, 32]⟩ : ByteArray) ++ KN ++ (⟨#[10, 116, 97, 103, 32]⟩ : ByteArray) ++ n ++ (⟨#[10, 116, 97, 103, 103, 101, 114, 32]⟩ : ByteArray) ++ g ++ (⟨#[10, 10]⟩ : ByteArray)).size = 7 + o.size + 6 + KN.size + 5 + n.size + 8 + g.size + 2 := by rw [ByteArray.size_append, z7]; rfl
 have z9 : ((⟨#[111, 98, 106, 101, 99, 116, 32]⟩ : ByteArray) ++ o ++ (⟨#[10, 116, 121, 112, 101, 32]⟩ : ByteArray) ++ KN ++ (⟨#[10, 116, 97, 103, 32]⟩ : ByteArray) ++ n ++ (⟨#[10, 116, 97, 103, 103, 101, 114, 32]⟩ : ByteArray) ++ g ++ (⟨#[10, 10]⟩ : ByteArray) ++ m).size = 7 + o.size + 6 + KN.size + 5 + n.size + 8 + g.size + 2 + m.size := by rw [ByteArray.size_append, z8]
 have hl0 : Below w.heap.size w (w.alloc (.cells #[.int .i64 4, .string d, vL, .string t, vP, .string a, .string c, .string o, .string n, .int .i64 ty, .string g, .string m] 67)) := (Below.refl _ _).alloc (Nat.le_refl _) _
 have ho0 := O8At.new w 4 d vL t vP a c o n ty g m
 go_enter Tryz.func33, Tryz.ntmps33
 go_upto_region 1 with (fail)
 generalize w.alloc (.cells #[.int .i64 4, .string d, vL, .string t, vP, .string a, .string c, .string o, .string n, .int .i64 ty, .string g, .string m] 67) = w0 at *
 have k0 := ho0.c0
 have HO := Lib.hid ho0
 have HL := Lib.hid hl0
 clear ho0 hl0
 generalize hog : w.heap.size = og at *
 have HOG := Lib.hid hog
 clear hog
 go_upto_region 18 with (fail)
 refine wp_region_ph (by kernel_rfl) [] [.span 0 0, .span 0 0, .span 0 0, .span 0 0, .span 0 0, .span 0 0, .span 0 0, .span 0 0, .span 0 0, .span 0 0, .span 0 0, .span 0 0, .span 0 0, .span 0 0, .span 0 0, .span 0 0, .span 0 0, .span 0 0, .span 0 0, .span 0 0, .span 0 0] [fun z9 => z9 = .pointer (some ⟨og, 7, none⟩), fun z9 => z9 = .string o, fun z9 => z9 = .string ((⟨#[111, 98, 106, 101, 99, 116, 32]⟩ : ByteArray) ++ o), fun z9 => z9 = .string ((⟨#[111, 98, 106, 101, 99, 116, 32]⟩ : ByteArray) ++ o ++ (⟨#[10, 116, 121, 112, 101, 32]⟩ : ByteArray)), fun z9 => z9 = .pointer (some ⟨og, 9, none⟩), fun z9 => z9 = .int .i64 ty, fun z9 => z9 = .string KN, fun z9 => z9 = .string ((⟨#[111, 98, 106, 101, 99, 116, 32]⟩ : ByteArray) ++ o ++ (⟨#[10, 116, 121, 112, 101, 32]⟩ : ByteArray) ++ KN), fun z9 => z9 = .string ((⟨#[111, 98, 106, 101, 99, 116, 32]⟩ : ByteArray) ++ o ++ (⟨#[10, 116, 121, 112, 101, 32]⟩ : ByteArray) ++ KN ++ (⟨#[10, 116, 97, 103, 32]⟩ : ByteArray)), fun z9 => z9 = .pointer (some ⟨og, 8, none⟩), fun z9 => z9 = .string n, fun z9 => z9 = .string ((⟨#[111, 98, 106, 101, 99, 116, 32]⟩ : ByteArray) ++ o ++ (⟨#[10, 116, 121, 112, 101, 32]⟩ : ByteArray) ++ KN ++ (⟨#[10, 116, 97, 103, 32]⟩ : ByteArray) ++ n), fun z9 => z9 = .string ((⟨#[111, 98, 106, 101, 99, 116, 32]⟩ : ByteArray) ++ o ++ (⟨#[10, 116, 121, 112, 101, 32]⟩ : ByteArray) ++ KN ++ (⟨#[10, 116, 97, 103, 32]⟩ : ByteArray) ++ n ++ (⟨#[10, 116, 97, 103, 103, 101, 114, 32]⟩ : ByteArray)), fun z9 => z9 = .pointer (some ⟨og, 10, none⟩), fun z9 => z9 = .string g, fun z9 => z9 = .string ((⟨#[111, 98, 106, 101, 99, 116, 32]⟩ : ByteArray) ++ o ++ (⟨#[10, 116, 121, 112, 101, 32]⟩ : ByteArray) ++ KN ++ (⟨#[10, 116, 97, 103, 32]⟩ : ByteArray) ++ n ++ (⟨#[10, 116, 97, 103, 103, 101, 114, 32]⟩ : ByteArray) ++ g), fun z9 => z9 = .string ((⟨#[111, 98, 106, 101, 99, 116, 32]⟩ : ByteArray) ++ o ++ (⟨#[10, 116, 121, 112, 101, 32]⟩ : ByteArray) ++ KN ++ (⟨#[10, 116, 97, 103, 32]⟩ : ByteArray) ++ n ++ (⟨#[10, 116, 97, 103, 103, 101, 114, 32]⟩ : ByteArray) ++ g ++ (⟨#[10, 10]⟩ : ByteArray)), fun z9 => z9 = .pointer (some ⟨og, 11, none⟩), fun z9 => z9 = .string m, fun z9 => z9 = .string ((⟨#[111, 98, 106, 101, 99, 116, 32]⟩ : ByteArray) ++ o ++ (⟨#[10, 116, 121, 112, 101, 32]⟩ : ByteArray) ++ KN ++ (⟨#[10, 116, 97, 103, 32]⟩ : ByteArray) ++ n ++ (⟨#[10, 116, 97, 103, 103, 101, 114, 32]⟩ : ByteArray) ++ g ++ (⟨#[10, 10]⟩ : ByteArray) ++ m), fun z9 => z9 = .string ((⟨#[111, 98, 106, 101, 99, 116, 32]⟩ : ByteArray) ++ o ++ (⟨#[10, 116, 121, 112, 101, 32]⟩ : ByteArray) ++ KN ++ (⟨#[10, 116, 97, 103, 32]⟩ : ByteArray) ++ n ++ (⟨#[10, 116, 97, 103, 103, 101, 114, 32]⟩ : ByteArray) ++ g ++ (⟨#[10, 10]⟩ : ByteArray) ++ m)] ((fun _ w => Below w0.heap.size w0 w)) (by kernel_rfl) (by kernel_rfl) (by kernel_rfl) (by kernel_rfl) (by kernel_rfl) (by kernel_rfl) rfl rfl ((Below.refl _ _).drew) ?steps ?done
 case steps =>
  refine ⟨?_, ?_, ?_, ?_, ?_, ?_, ?_, ?_, ?_, ?_, ?_, ?_, ?_, ?_, ?_, ?_, ?_, ?_, ?_, ?_, ?_, trivial⟩
  · intro us au w1 k0 hlo hhi ha hd hst hI
    obtain rfl : k0 = 0 := by omega
    have q1 := slot_far (t := 1) (v := .pointer (some ⟨og, 0, none⟩)) ha (by kernel_rfl) (by kernel_rfl)
    have p1 := slot_norm q1
    clear ha hd hst
    exact StepI.pure (v := .pointer (some ⟨og, 7, none⟩)) rfl rfl (by go_simp) ⟨rfl, hI⟩
  · intro us au w1 k1 hlo hhi ha hd hst hI
    obtain rfl : k1 = 0 := by omega
    have e0 := hd 0 _ (by kernel_rfl) rfl
    have q83 := slot_at (t := 83) 0 ha (by kernel_rfl) (by kernel_rfl) (by kernel_rfl) e0
    have p83 := slot_norm q83
    clear ha hd hst
    have kk := (HO.out.below hI).c7
    exact StepI.pure (v := .string o) rfl rfl (by go_simp) ⟨rfl, hI⟩
  · intro us au w1 k2 hlo hhi ha hd hst hI
    obtain rfl : k2 = 0 := by omega
    have e1 := hd 1 _ (by kernel_rfl) rfl
    have q84 := slot_at (t := 84) 1 ha (by kernel_rfl) (by kernel_rfl) (by kernel_rfl) e1
    have p84 := slot_norm q84
    clear ha hd hst
    exact StepI.pure (v := .string ((⟨#[111, 98, 106, 101, 99, 116, 32]⟩ : ByteArray) ++ o)) rfl rfl (by go_simp; try omega) ⟨rfl, hI⟩
  · intro us au w1 k3 hlo hhi ha hd hst hI
    obtain rfl : k3 = 0 := by omega
    have e2 := hd 2 _ (by kernel_rfl) rfl
    have q85 := slot_at (t := 85) 2 ha (by kernel_rfl) (by kernel_rfl) (by kernel_rfl) e2
    have p85 := slot_norm q85
    clear ha hd hst
    exact StepI.pure (v := .string ((⟨#[111, 98, 106, 101, 99, 116, 32]⟩ : ByteArray) ++ o ++ (⟨#[10, 116, 121, 112, 101, 32]⟩ : ByteArray))) rfl rfl (by go_simp; try omega) ⟨rfl, hI⟩
  · intro us au w1 k4 hlo hhi ha hd hst hI
    obtain rfl : k4 = 0 := by omega
    have q1 := slot_far (t := 1) (v := .pointer (some ⟨og, 0, none⟩)) ha (by kernel_rfl) (by kernel_rfl)
    have p1 := slot_norm q1
    clear ha hd hst
    exact StepI.pure (v := .pointer (some ⟨og, 9, none⟩)) rfl rfl (by go_simp) ⟨rfl, hI⟩
  · intro us au w1 k5 hlo hhi ha hd hst hI
    obtain rfl : k5 = 0 := by omega
    have e4 := hd 4 _ (by kernel_rfl) rfl
    have q87 := slot_at (t := 87) 4 ha (by kernel_rfl) (by kernel_rfl) (by kernel_rfl) e4
    have p87 := slot_norm q87
    clear ha hd hst
    have kk := (HO.out.below hI).c9
    exact StepI.pure (v := .int .i64 ty) rfl rfl (by go_simp) ⟨rfl, hI⟩
  · intro us au w1 k6 hlo hhi ha hd hst hI
    obtain rfl : k6 = 0 := by omega
    have e5 := hd 5 _ (by kernel_rfl) rfl
    have q88 := slot_at (t := 88) 5 ha (by kernel_rfl) (by kernel_rfl) (by kernel_rfl) e5
    have p88 := slot_norm q88
    clear ha hd hst
    refine StepI.call (f := 55) (args := #[.int .i64 ty]) rfl rfl (by go_simp) ?_
    refine (HNM.out w1).mono ?_
    rintro e w5 ⟨rfl, hb⟩
    exact ⟨_, rfl, rfl, Below.trans hI (hb.mono hI.size)⟩
  · intro us au w1 k7 hlo hhi ha hd hst hI
    obtain rfl : k7 = 0 := by omega
    have e3 := hd 3 _ (by kernel_rfl) rfl
    have e6 := hd 6 _ (by kernel_rfl) rfl
    have q86 := slot_at (t := 86) 3 ha (by kernel_rfl) (by kernel_rfl) (by kernel_rfl) e3
    have p86 := slot_norm q86
    have q89 := slot_at (t := 89) 6 ha (by kernel_rfl) (by kernel_rfl) (by kernel_rfl) e6
    have p89 := slot_norm q89
    clear ha hd hst
    exact StepI.pure (v := .string ((⟨#[111, 98, 106, 101, 99, 116, 32]⟩ : ByteArray) ++ o ++ (⟨#[10, 116, 121, 112, 101, 32]⟩ : ByteArray) ++ KN)) rfl rfl (by go_simp; try omega) ⟨rfl, hI⟩
  · intro us au w1 k8 hlo hhi ha hd hst hI
    obtain rfl : k8 = 0 := by omega
    have e7 := hd 7 _ (by kernel_rfl) rfl
    have q90 := slot_at (t := 90) 7 ha (by kernel_rfl) (by kernel_rfl) (by kernel_rfl) e7
    have p90 := slot_norm q90
    clear ha hd hst
    exact StepI.pure (v := .string ((⟨#[111, 98, 106, 101, 99, 116, 32]⟩ : ByteArray) ++ o ++ (⟨#[10, 116, 121, 112, 101, 32]⟩ : ByteArray) ++ KN ++ (⟨#[10, 116, 97, 103, 32]⟩ : ByteArray))) rfl rfl (by go_simp; try omega) ⟨rfl, hI⟩
  · intro us au w1 k9 hlo hhi ha hd hst hI
    obtain rfl : k9 = 0 := by omega
    have q1 := slot_far (t := 1) (v := .pointer (some ⟨og, 0, none⟩)) ha (by kernel_rfl) (by kernel_rfl)
    have p1 := slot_norm q1
    clear ha hd hst
    exact StepI.pure (v := .pointer (some ⟨og, 8, none⟩)) rfl rfl (by go_simp) ⟨rfl, hI⟩
  · intro us au w1 k10 hlo hhi ha hd hst hI
    obtain rfl : k10 = 0 := by omega
    have e9 := hd 9 _ (by kernel_rfl) rfl
    have q92 := slot_at (t := 92) 9 ha (by kernel_rfl) (by kernel_rfl) (by kernel_rfl) e9
    have p92 := slot_norm q92
    clear ha hd hst
    have kk := (HO.out.below hI).c8
    exact StepI.pure (v := .string n) rfl rfl (by go_simp) ⟨rfl, hI⟩
  · intro us au w1 k11 hlo hhi ha hd hst hI
    obtain rfl : k11 = 0 := by omega
    have e8 := hd 8 _ (by kernel_rfl) rfl
    have e10 := hd 10 _ (by kernel_rfl) rfl
    have q91 := slot_at (t := 91) 8 ha (by kernel_rfl) (by kernel_rfl) (by kernel_rfl) e8
    have p91 := slot_norm q91
    have q93 := slot_at (t := 93) 10 ha (by kernel_rfl) (by kernel_rfl) (by kernel_rfl) e10
    have p93 := slot_norm q93
    clear ha hd hst
    exact StepI.pure (v := .string ((⟨#[111, 98, 106, 101, 99, 116, 32]⟩ : ByteArray) ++ o ++ (⟨#[10, 116, 121, 112, 101, 32]⟩ : ByteArray) ++ KN ++ (⟨#[10, 116, 97, 103, 32]⟩ : ByteArray) ++ n)) rfl rfl (by go_simp; try omega) ⟨rfl, hI⟩
  · intro us au w1 k12 hlo hhi ha hd hst hI
    obtain rfl : k12 = 0 := by omega
    have e11 := hd 11 _ (by kernel_rfl) rfl
    have q94 := slot_at (t := 94) 11 ha (by kernel_rfl) (by kernel_rfl) (by kernel_rfl) e11
    have p94 := slot_norm q94
    clear ha hd hst
    exact StepI.pure (v := .string ((⟨#[111, 98, 106, 101, 99, 116, 32]⟩ : ByteArray) ++ o ++ (⟨#[10, 116, 121, 112, 101, 32]⟩ : ByteArray) ++ KN ++ (⟨#[10, 116, 97, 103, 32]⟩ : ByteArray) ++ n ++ (⟨#[10, 116, 97, 103, 103, 101, 114, 32]⟩ : ByteArray))) rfl rfl (by go_simp; try omega) ⟨rfl, hI⟩
  · intro us au w1 k13 hlo hhi ha hd hst hI
    obtain rfl : k13 = 0 := by omega
    have q1 := slot_far (t := 1) (v := .pointer (some ⟨og, 0, none⟩)) ha (by kernel_rfl) (by kernel_rfl)
    have p1 := slot_norm q1
    clear ha hd hst
    exact StepI.pure (v := .pointer (some ⟨og, 10, none⟩)) rfl rfl (by go_simp) ⟨rfl, hI⟩
  · intro us au w1 k14 hlo hhi ha hd hst hI
    obtain rfl : k14 = 0 := by omega
    have e13 := hd 13 _ (by kernel_rfl) rfl
    have q96 := slot_at (t := 96) 13 ha (by kernel_rfl) (by kernel_rfl) (by kernel_rfl) e13
    have p96 := slot_norm q96
    clear ha hd hst
    have kk := (HO.out.below hI).c10
    exact StepI.pure (v := .string g) rfl rfl (by go_simp) ⟨rfl, hI⟩
  · intro us au w1 k15 hlo hhi ha hd hst hI
    obtain rfl : k15 = 0 := by omega
    have e12 := hd 12 _ (by kernel_rfl) rfl
    have e14 := hd 14 _ (by kernel_rfl) rfl
    have q95 := slot_at (t := 95) 12 ha (by kernel_rfl) (by kernel_rfl) (by kernel_rfl) e12
    have p95 := slot_norm q95
    have q97 := slot_at (t := 97) 14 ha (by kernel_rfl) (by kernel_rfl) (by kernel_rfl) e14
    have p97 := slot_norm q97
    clear ha hd hst
    exact StepI.pure (v := .string ((⟨#[111, 98, 106, 101, 99, 116, 32]⟩ : ByteArray) ++ o ++ (⟨#[10, 116, 121, 112, 101, 32]⟩ : ByteArray) ++ KN ++ (⟨#[10, 116, 97, 103, 32]⟩ : ByteArray) ++ n ++ (⟨#[10, 116, 97, 103, 103, 101, 114, 32]⟩ : ByteArray) ++ g)) rfl rfl (by go_simp; try omega) ⟨rfl, hI⟩
  · intro us au w1 k16 hlo hhi ha hd hst hI
    obtain rfl : k16 = 0 := by omega
    have e15 := hd 15 _ (by kernel_rfl) rfl
    have q98 := slot_at (t := 98) 15 ha (by kernel_rfl) (by kernel_rfl) (by kernel_rfl) e15
    have p98 := slot_norm q98
    clear ha hd hst
    exact StepI.pure (v := .string ((⟨#[111, 98, 106, 101, 99, 116, 32]⟩ : ByteArray) ++ o ++ (⟨#[10, 116, 121, 112, 101, 32]⟩ : ByteArray) ++ KN ++ (⟨#[10, 116, 97, 103, 32]⟩ : ByteArray) ++ n ++ (⟨#[10, 116, 97, 103, 103, 101, 114, 32]⟩ : ByteArray) ++ g ++ (⟨#[10, 10]⟩ : ByteArray))) rfl rfl (by go_simp; try omega) ⟨rfl, hI⟩
  · intro us au w1 k17 hlo hhi ha hd hst hI
    obtain rfl : k17 = 0 := by omega
    have q1 := slot_far (t := 1) (v := .pointer (some ⟨og, 0, none⟩)) ha (by kernel_rfl) (by kernel_rfl)
    have p1 := slot_norm q1
    clear ha hd hst
    exact StepI.pure (v := .pointer (some ⟨og, 11, none⟩)) rfl rfl (by go_simp) ⟨rfl, hI⟩
  · intro us au w1 k18 hlo hhi ha hd hst hI
    obtain rfl : k18 = 0 := by omega
    have e17 := hd 17 _ (by kernel_rfl) rfl
    have q100 := slot_at (t := 100) 17 ha (by kernel_rfl) (by kernel_rfl) (by kernel_rfl) e17
    have p100 := slot_norm q100
    clear ha hd hst
    have kk := (HO.out.below hI).c11
    exact StepI.pure (v := .string m) rfl rfl (by go_simp) ⟨rfl, hI⟩
  · intro us au w1 k19 hlo hhi ha hd hst hI
    obtain rfl : k19 = 0 := by omega
    have e16 := hd 16 _ (by kernel_rfl) rfl
    have e18 := hd 18 _ (by kernel_rfl) rfl
    have q99 := slot_at (t := 99) 16 ha (by kernel_rfl) (by kernel_rfl) (by kernel_rfl) e16
    have p99 := slot_norm q99
    have q101 := slot_at (t := 101) 18 ha (by kernel_rfl) (by kernel_rfl) (by kernel_rfl) e18
    have p101 := slot_norm q101
    clear ha hd hst
    exact StepI.pure (v := .string ((⟨#[111, 98, 106, 101, 99, 116, 32]⟩ : ByteArray) ++ o ++ (⟨#[10, 116, 121, 112, 101, 32]⟩ : ByteArray) ++ KN ++ (⟨#[10, 116, 97, 103, 32]⟩ : ByteArray) ++ n ++ (⟨#[10, 116, 97, 103, 103, 101, 114, 32]⟩ : ByteArray) ++ g ++ (⟨#[10, 10]⟩ : ByteArray) ++ m)) rfl rfl (by go_simp; try omega) ⟨rfl, hI⟩
  · intro us au w1 k20 hlo hhi ha hd hst hI
    obtain rfl : k20 = 0 := by omega
    have e19 := hd 19 _ (by kernel_rfl) rfl
    have q102 := slot_at (t := 102) 19 ha (by kernel_rfl) (by kernel_rfl) (by kernel_rfl) e19
    have p102 := slot_norm q102
    clear ha hd hst
    exact StepI.pure (v := .string ((⟨#[111, 98, 106, 101, 99, 116, 32]⟩ : ByteArray) ++ o ++ (⟨#[10, 116, 121, 112, 101, 32]⟩ : ByteArray) ++ KN ++ (⟨#[10, 116, 97, 103, 32]⟩ : ByteArray) ++ n ++ (⟨#[10, 116, 97, 103, 103, 101, 114, 32]⟩ : ByteArray) ++ g ++ (⟨#[10, 10]⟩ : ByteArray) ++ m)) rfl rfl (by go_simp; try omega) ⟨rfl, hI⟩
 case done =>
  intro us w1 hI hd
  have e20 := hd 20 _ (by decide) rfl
  have HW := Lib.hid (HL.out.trans (Below.mono hI (by rw [← HOG.out]; exact HL.out.size)))
  clear hd hI
  simp only [putAll]
  go_simp
  go_wp2
  go_ret
  exact ⟨rfl, by rw [HOG.out]; exact HW.out⟩
end Go.Proofs.YtihanglnjghcfaaGreatDoor
