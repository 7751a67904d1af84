/- The document's Bytes (printed by genobp.py). -/
import Derived.Test.YtdlabapfcghfmaaDoorObPMa
import Derived.Test.YtdlabapfcghfmaaDoorPh
import Derived.Test.YtdlabapfcghfmaaDoorObW
namespace Go.Proofs.YtdlabapfcghfmaaDoor
open Go.RowKit
set_option linter.unusedVariables false
set_option linter.unusedSimpArgs false

/-- The document's object in memory. -/
structure O8At (w : World) (b : Nat) (kd : Int) (d : ByteArray) (vL : Value) (t : ByteArray) (vP : Value) (a c o n : ByteArray) (ty : Int) (g m : ByteArray) : Prop where
  c0 : w.cell? ⟨b, 0, none⟩ = some (.int .i64 kd)
  c1 : w.cell? ⟨b, 1, none⟩ = some (.string d)
  c2 : w.cell? ⟨b, 2, none⟩ = some (vL)
  c3 : w.cell? ⟨b, 3, none⟩ = some (.string t)
  c4 : w.cell? ⟨b, 4, none⟩ = some (vP)
  c5 : w.cell? ⟨b, 5, none⟩ = some (.string a)
  c6 : w.cell? ⟨b, 6, none⟩ = some (.string c)
  c7 : w.cell? ⟨b, 7, none⟩ = some (.string o)
  c8 : w.cell? ⟨b, 8, none⟩ = some (.string n)
  c9 : w.cell? ⟨b, 9, none⟩ = some (.int .i64 ty)
  c10 : w.cell? ⟨b, 10, none⟩ = some (.string g)
  c11 : w.cell? ⟨b, 11, none⟩ = some (.string m)
theorem O8At.lt {w : World} {b : Nat} {kd : Int} {d : ByteArray} {vL : Value} {t : ByteArray} {vP : Value} {a c o n : ByteArray} {ty : Int} {g m : ByteArray} (h : O8At w b kd d vL t vP a c o n ty g m) : b < w.heap.size := World.block_lt_of_cell? w _ h.c0
theorem O8At.below {w w' : World} {b : Nat} {kd : Int} {d : ByteArray} {vL : Value} {t : ByteArray} {vP : Value} {a c o n : ByteArray} {ty : Int} {g m : ByteArray} (h : O8At w b kd d vL t vP a c o n ty g m) (hb : Below w.heap.size w w') : O8At w' b kd d vL t vP a c o n ty g m :=
  ⟨by rw [hb.cell h.lt]; exact h.c0, by rw [hb.cell h.lt]; exact h.c1, by rw [hb.cell h.lt]; exact h.c2, by rw [hb.cell h.lt]; exact h.c3, by rw [hb.cell h.lt]; exact h.c4, by rw [hb.cell h.lt]; exact h.c5, by rw [hb.cell h.lt]; exact h.c6, by rw [hb.cell h.lt]; exact h.c7, by rw [hb.cell h.lt]; exact h.c8, by rw [hb.cell h.lt]; exact h.c9, by rw [hb.cell h.lt]; exact h.c10, by rw [hb.cell h.lt]; exact h.c11⟩
theorem O8At.new (w : World) (kd : Int) (d : ByteArray) (vL : Value) (t : ByteArray) (vP : Value) (a c o n : ByteArray) (ty : Int) (g m : ByteArray) : O8At (w.alloc (.cells #[.int .i64 kd, .string d, vL, .string t, vP, .string a, .string c, .string o, .string n, .int .i64 ty, .string g, .string m] 40)) w.heap.size kd d vL t vP a c o n ty g m :=
  ⟨by rw [World.cell?_alloc_at _ _ _ _ (by simp)]; rfl, by rw [World.cell?_alloc_at _ _ _ _ (by simp)]; rfl, by rw [World.cell?_alloc_at _ _ _ _ (by simp)]; rfl, by rw [World.cell?_alloc_at _ _ _ _ (by simp)]; rfl, by rw [World.cell?_alloc_at _ _ _ _ (by simp)]; rfl, by rw [World.cell?_alloc_at _ _ _ _ (by simp)]; rfl, by rw [World.cell?_alloc_at _ _ _ _ (by simp)]; rfl, by rw [World.cell?_alloc_at _ _ _ _ (by simp)]; rfl, by rw [World.cell?_alloc_at _ _ _ _ (by simp)]; rfl, by rw [World.cell?_alloc_at _ _ _ _ (by simp)]; rfl, by rw [World.cell?_alloc_at _ _ _ _ (by simp)]; rfl, by rw [World.cell?_alloc_at _ _ _ _ (by simp)]; rfl⟩
set_option maxRecDepth 100000 in
set_option maxHeartbeats 4000000 in
theorem refBlob_any (d : ByteArray) (vL : Value) (t : ByteArray) (vP : Value) (a c o n : ByteArray) (ty : Int) (g m : ByteArray) (w : World) :
    Calls Tryd.prog 22 #[.agg #[.int .i64 3, .string d, vL, .string t, vP, .string a, .string c, .string o, .string n, .int .i64 ty, .string g, .string m]] w fun e w' => e = .returned (.string d) ∧ Below w.heap.size w w' := by
  have hl0 : Below w.heap.size w (w.alloc (.cells #[.int .i64 3, .string d, vL, .string t, vP, .string a, .string c, .string o, .string n, .int .i64 ty, .string g, .string m] 40)) := (Below.refl _ _).alloc (Nat.le_refl _) _
  have ho0 := O8At.new w 3 d vL t vP a c o n ty g m
  go_enter Tryd.func22, Tryd.ntmps22
  go_upto_region 1 with (fail)
  generalize w.alloc (.cells #[.int .i64 3, .string d, vL, .string t, vP, .string a, .string c, .string o, .string n, .int .i64 ty, .string g, .string m] 40) = w0 at *
  have k0 := ho0.c0
  have HO := Lib.hid ho0
  have HL := Lib.hid hl0
  clear ho0 hl0
  generalize hog : w.heap.size = og at *
  have HOG := Lib.hid hog
  clear hog
  have k1 := HO.out.c1
  go_wp2
  go_ret
  exact ⟨rfl, by rw [HOG.out]; exact HL.out⟩
set_option maxRecDepth 100000 in
set_option maxHeartbeats 4000000 in
theorem refTree_any (d : ByteArray) (A : Option Addr) (N cL : Nat) (L : List Ent) (t : ByteArray) (vP : Value) (a c o n : ByteArray) (ty : Int) (g m : ByteArray) (w : World) (hE : EntsAt w A L) (hN : L.length = N) (hNb : N ≤ 140737488355328) (hid : ∀ x ∈ L, x.i.size ≤ 140737488351232) (hsz : (treeL L).length ≤ 140737488351300) :
    Calls Tryd.prog 22 #[.agg #[.int .i64 2, .string d, .slice A N cL, .string t, vP, .string a, .string c, .string o, .string n, .int .i64 ty, .string g, .string m]] w fun e w' => e = .returned (.string (strOfNums (treeL L))) ∧ Below w.heap.size w w' := by
  have HN := Lib.hid hN
  have HSZ := Lib.hid hsz
  have HID := Lib.hid hid
  clear hN hsz hid
  have hl0 : Below w.heap.size w (w.alloc (.cells #[.int .i64 2, .string d, (.slice A N cL), .string t, vP, .string a, .string c, .string o, .string n, .int .i64 ty, .string g, .string m] 40)) := (Below.refl _ _).alloc (Nat.le_refl _) _
  have ho0 := O8At.new w 2 d (.slice A N cL) t vP a c o n ty g m
  have HE := Lib.hid (hE.below hl0)
  clear hE
  go_enter Tryd.func22, Tryd.ntmps22
  go_upto_region 1 with (fail)
  generalize w.alloc (.cells #[.int .i64 2, .string d, (.slice A N cL), .string t, vP, .string a, .string c, .string o, .string n, .int .i64 ty, .string g, .string m] 40) = w0 at *
  have k0 := ho0.c0
  have HO := Lib.hid ho0
  have HL := Lib.hid hl0
  clear ho0 hl0
  generalize hog : w.heap.size = og at *
  have HOG := Lib.hid hog
  clear hog
  have k2 := HO.out.c2
  go_upto_region 6 with (fail)
  go_wp2
  go_loopw [4, 3] (fun vi vs wr => ∃ (k : Nat), vi = .int .i64 k ∧ vs = .string (strOfNums (treeL (L.take k))) ∧ k ≤ N ∧ Below w0.heap.size w0 wr) (fun vi _ _ => N - (intOf vi).toNat)
  case atStart => exact ⟨0, rfl, rfl, Nat.zero_le _, Below.refl _ _⟩
  case round =>
    obtain ⟨k, rfl, rfl, hk, hb⟩ := hrel
    have kr2 := (HO.out.below hb).c2
    have HOR := Lib.hid (HO.out.below hb)
    have HB := Lib.hid hb
    have HER := Lib.hid (HE.out.below hb)
    clear hb
    by_cases hlt : k < N
    · obtain ⟨x, hx⟩ : ∃ x, L[k]? = some x := ⟨_, List.getElem?_eq_getElem (by rw [HN.out]; exact hlt)⟩
      have hsz1 := treeL_pre L (k + 1)
      have hsx := treeL_succ hx
      rw [hsx, List.length_append, entL_len] at hsz1
      have hsz2 := HSZ.out
      obtain ⟨eb, eo, rfl, heb, hcell⟩ := HER.out (by rw [HN.out]; omega)
      have HX0 := Lib.hid (fun w1 (hI : Below wr.heap.size wr w1) => (hI.cell (p := ⟨eb, eo + k * 3, none⟩) heb).trans (hcell k x hx).1)
      have HX1 := Lib.hid (fun w1 (hI : Below wr.heap.size wr w1) => (hI.cell (p := ⟨eb, eo + k * 3 + 1, none⟩) heb).trans (hcell k x hx).2.1)
      have HX2 := Lib.hid (fun w1 (hI : Below wr.heap.size wr w1) => (hI.cell (p := ⟨eb, eo + k * 3 + 2, none⟩) heb).trans (hcell k x hx).2.2)
      have HZI : Hid (x.i.size ≤ 140737488355328) := Lib.hid (Nat.le_trans (HID.out x (List.mem_of_getElem? hx)) (by decide))
      have d2 : decide ((k : Int) < (N : Int)) = true := decide_eq_true (by omega)
      clear hcell hx
      have z0 : (strOfNums (treeL (L.take k))).size = (treeL (L.take k)).length := strOfNums_size _
      have HSX := Lib.hid hsx
      clear hsx
      generalize hS : strOfNums (treeL (L.take k)) = S at *
      have HS := Lib.hid hS
      clear hS
      have z1 : (S ++ x.m).size = S.size + x.m.size := by rw [ByteArray.size_append]
      have z2 : (S ++ x.m ++ (⟨#[32]⟩ : ByteArray)).size = S.size + x.m.size + 1 := by rw [ByteArray.size_append, z1]; rfl
      have z3 : (S ++ x.m ++ (⟨#[32]⟩ : ByteArray) ++ x.n).size = S.size + x.m.size + 1 + x.n.size := by rw [ByteArray.size_append, z2]
      have z4 : (S ++ x.m ++ (⟨#[32]⟩ : ByteArray) ++ x.n ++ (⟨#[0]⟩ : ByteArray)).size = S.size + x.m.size + 1 + x.n.size + 1 := by rw [ByteArray.size_append, z3]; rfl
      have z5 : (S ++ x.m ++ (⟨#[32]⟩ : ByteArray) ++ x.n ++ (⟨#[0]⟩ : ByteArray) ++ strOfNums (rawL x.i)).size = S.size + x.m.size + 1 + x.n.size + 1 + 20 := by rw [ByteArray.size_append, z4, strOfNums_size, rawL_len]
      have z6 : (strOfNums (rawL x.i)).size = 20 := by rw [strOfNums_size, rawL_len]
      go_upto_region 9 with (fail)
      refine wp_region_ph (by kernel_rfl) [] [.span 0 0, .span 0 0, .span 0 0, .span 0 0, .span 0 0, .span 0 0, .span 0 0, .span 0 0, .span 0 0, .span 0 0, .span 0 0, .span 0 0, .span 0 0, .span 0 0, .span 0 0, .span 0 0, .span 0 0, .span 0 0, .span 0 0, .span 0 0, .span 0 0, .span 0 0, .span 0 0, .span 0 0, .span 0 0, .span 0 0] [fun z9 => z9 = .string (S), fun z9 => z9 = .pointer (some ⟨og, 2, none⟩), fun z9 => z9 = .slice (some ⟨eb, eo, none⟩) N cL, fun z9 => z9 = .int .i64 k, fun z9 => z9 = .pointer (some ⟨eb, eo + k * 3, none⟩), fun z9 => z9 = .pointer (some ⟨eb, eo + k * 3, none⟩), fun z9 => z9 = .string x.m, fun z9 => z9 = .string (S ++ x.m), fun z9 => z9 = .string (S ++ x.m ++ (⟨#[32]⟩ : ByteArray)), fun z9 => z9 = .pointer (some ⟨og, 2, none⟩), fun z9 => z9 = .slice (some ⟨eb, eo, none⟩) N cL, fun z9 => z9 = .int .i64 k, fun z9 => z9 = .pointer (some ⟨eb, eo + k * 3, none⟩), fun z9 => z9 = .pointer (some ⟨eb, eo + k * 3 + 1, none⟩), fun z9 => z9 = .string x.n, fun z9 => z9 = .string (S ++ x.m ++ (⟨#[32]⟩ : ByteArray) ++ x.n), fun z9 => z9 = .string (S ++ x.m ++ (⟨#[32]⟩ : ByteArray) ++ x.n ++ (⟨#[0]⟩ : ByteArray)), fun z9 => z9 = .pointer (some ⟨og, 2, none⟩), fun z9 => z9 = .slice (some ⟨eb, eo, none⟩) N cL, fun z9 => z9 = .int .i64 k, fun z9 => z9 = .pointer (some ⟨eb, eo + k * 3, none⟩), fun z9 => z9 = .pointer (some ⟨eb, eo + k * 3 + 2, none⟩), fun z9 => z9 = .string x.i, fun z9 => z9 = .string (strOfNums (rawL x.i)), fun z9 => z9 = .string (S ++ x.m ++ (⟨#[32]⟩ : ByteArray) ++ x.n ++ (⟨#[0]⟩ : ByteArray) ++ strOfNums (rawL x.i)), fun z9 => z9 = .string (S ++ x.m ++ (⟨#[32]⟩ : ByteArray) ++ x.n ++ (⟨#[0]⟩ : ByteArray) ++ strOfNums (rawL x.i))] ((fun _ w => Below wr.heap.size wr w)) (by kernel_rfl) (by kernel_rfl) (by kernel_rfl) (by kernel_rfl) (by kernel_rfl) (by kernel_rfl) rfl rfl ((Below.refl _ _).drew) ?steps ?done
      case steps =>
        refine ⟨?_, ?_, ?_, ?_, ?_, ?_, ?_, ?_, ?_, ?_, ?_, ?_, ?_, ?_, ?_, ?_, ?_, ?_, ?_, ?_, ?_, ?_, ?_, ?_, ?_, ?_, trivial⟩
        · intro us au w1 k0 hlo hhi ha hd hst hI
          obtain rfl : k0 = 0 := by omega
          have q3 := slot_start (t := 3) (v := .string S) 25 ha (hst 25 (by decide) (by kernel_rfl)) (by kernel_rfl) (by kernel_rfl) (by kernel_rfl) (by kernel_rfl)
          have p3 := slot_norm q3
          clear ha hd hst
          exact StepI.pure (v := .string (S)) rfl rfl (by go_simp; try omega) ⟨rfl, hI⟩
        · intro us au w1 k1 hlo hhi ha hd hst hI
          obtain rfl : k1 = 0 := by omega
          have q1 := slot_far (t := 1) (v := .pointer (some ⟨og, 0, none⟩)) ha (by kernel_rfl) (by kernel_rfl)
          have p1 := slot_norm q1
          clear ha hd hst
          exact StepI.pure (v := .pointer (some ⟨og, 2, none⟩)) rfl rfl (by go_simp) ⟨rfl, hI⟩
        · intro us au w1 k2 hlo hhi ha hd hst hI
          obtain rfl : k2 = 0 := by omega
          have e1 := hd 1 _ (by kernel_rfl) rfl
          have q22 := slot_at (t := 22) 1 ha (by kernel_rfl) (by kernel_rfl) (by kernel_rfl) e1
          have p22 := slot_norm q22
          clear ha hd hst
          have kk := (HOR.out.below hI).c2
          exact StepI.pure (v := .slice (some ⟨eb, eo, none⟩) N cL) rfl rfl (by go_simp) ⟨rfl, hI⟩
        · intro us au w1 k3 hlo hhi ha hd hst hI
          obtain rfl : k3 = 0 := by omega
          have q4 := slot_far (t := 4) (v := .int .i64 k) ha (by kernel_rfl) (by kernel_rfl)
          have p4 := slot_norm q4
          clear ha hd hst
          exact StepI.pure (v := .int .i64 k) rfl rfl (by go_simp) ⟨rfl, hI⟩
        · intro us au w1 k4 hlo hhi ha hd hst hI
          obtain rfl : k4 = 0 := by omega
          have e2 := hd 2 _ (by kernel_rfl) rfl
          have e3 := hd 3 _ (by kernel_rfl) rfl
          have q23 := slot_at (t := 23) 2 ha (by kernel_rfl) (by kernel_rfl) (by kernel_rfl) e2
          have p23 := slot_norm q23
          have q24 := slot_at (t := 24) 3 ha (by kernel_rfl) (by kernel_rfl) (by kernel_rfl) e3
          have p24 := slot_norm q24
          clear ha hd hst
          exact StepI.pure (v := .pointer (some ⟨eb, eo + k * 3, none⟩)) rfl rfl (by go_simp) ⟨rfl, hI⟩
        · intro us au w1 k5 hlo hhi ha hd hst hI
          obtain rfl : k5 = 0 := by omega
          have e4 := hd 4 _ (by kernel_rfl) rfl
          have q25 := slot_at (t := 25) 4 ha (by kernel_rfl) (by kernel_rfl) (by kernel_rfl) e4
          have p25 := slot_norm q25
          clear ha hd hst
          exact StepI.pure (v := .pointer (some ⟨eb, eo + k * 3, none⟩)) rfl rfl (by go_simp) ⟨rfl, hI⟩
        · intro us au w1 k6 hlo hhi ha hd hst hI
          obtain rfl : k6 = 0 := by omega
          have e5 := hd 5 _ (by kernel_rfl) rfl
          have q26 := slot_at (t := 26) 5 ha (by kernel_rfl) (by kernel_rfl) (by kernel_rfl) e5
          have p26 := slot_norm q26
          clear ha hd hst
          have kk := HX0.out w1 hI
          exact StepI.pure (v := .string x.m) rfl rfl (by go_simp) ⟨rfl, hI⟩
        · intro us au w1 k7 hlo hhi ha hd hst hI
          obtain rfl : k7 = 0 := by omega
          have e0 := hd 0 _ (by kernel_rfl) rfl
          have e6 := hd 6 _ (by kernel_rfl) rfl
          have q21 := slot_at (t := 21) 0 ha (by kernel_rfl) (by kernel_rfl) (by kernel_rfl) e0
          have p21 := slot_norm q21
          have q27 := slot_at (t := 27) 6 ha (by kernel_rfl) (by kernel_rfl) (by kernel_rfl) e6
          have p27 := slot_norm q27
          clear ha hd hst
          exact StepI.pure (v := .string (S ++ x.m)) rfl rfl (by go_simp; try omega) ⟨rfl, hI⟩
        · intro us au w1 k8 hlo hhi ha hd hst hI
          obtain rfl : k8 = 0 := by omega
          have e7 := hd 7 _ (by kernel_rfl) rfl
          have q28 := slot_at (t := 28) 7 ha (by kernel_rfl) (by kernel_rfl) (by kernel_rfl) e7
          have p28 := slot_norm q28
          clear ha hd hst
          exact StepI.pure (v := .string (S ++ x.m ++ (⟨#[32]⟩ : ByteArray))) rfl rfl (by go_simp; try omega) ⟨rfl, hI⟩
        · intro us au w1 k9 hlo hhi ha hd hst hI
          obtain rfl : k9 = 0 := by omega
          have q1 := slot_far (t := 1) (v := .pointer (some ⟨og, 0, none⟩)) ha (by kernel_rfl) (by kernel_rfl)
          have p1 := slot_norm q1
          clear ha hd hst
          exact StepI.pure (v := .pointer (some ⟨og, 2, none⟩)) rfl rfl (by go_simp) ⟨rfl, hI⟩
        · intro us au w1 k10 hlo hhi ha hd hst hI
          obtain rfl : k10 = 0 := by omega
          have e9 := hd 9 _ (by kernel_rfl) rfl
          have q30 := slot_at (t := 30) 9 ha (by kernel_rfl) (by kernel_rfl) (by kernel_rfl) e9
          have p30 := slot_norm q30
          clear ha hd hst
          have kk := (HOR.out.below hI).c2
          exact StepI.pure (v := .slice (some ⟨eb, eo, none⟩) N cL) rfl rfl (by go_simp) ⟨rfl, hI⟩
        · intro us au w1 k11 hlo hhi ha hd hst hI
          obtain rfl : k11 = 0 := by omega
          have q4 := slot_far (t := 4) (v := .int .i64 k) ha (by kernel_rfl) (by kernel_rfl)
          have p4 := slot_norm q4
          clear ha hd hst
          exact StepI.pure (v := .int .i64 k) rfl rfl (by go_simp) ⟨rfl, hI⟩
        · intro us au w1 k12 hlo hhi ha hd hst hI
          obtain rfl : k12 = 0 := by omega
          have e10 := hd 10 _ (by kernel_rfl) rfl
          have e11 := hd 11 _ (by kernel_rfl) rfl
          have q31 := slot_at (t := 31) 10 ha (by kernel_rfl) (by kernel_rfl) (by kernel_rfl) e10
          have p31 := slot_norm q31
          have q32 := slot_at (t := 32) 11 ha (by kernel_rfl) (by kernel_rfl) (by kernel_rfl) e11
          have p32 := slot_norm q32
          clear ha hd hst
          exact StepI.pure (v := .pointer (some ⟨eb, eo + k * 3, none⟩)) rfl rfl (by go_simp) ⟨rfl, hI⟩
        · intro us au w1 k13 hlo hhi ha hd hst hI
          obtain rfl : k13 = 0 := by omega
          have e12 := hd 12 _ (by kernel_rfl) rfl
          have q33 := slot_at (t := 33) 12 ha (by kernel_rfl) (by kernel_rfl) (by kernel_rfl) e12
          have p33 := slot_norm q33
          clear ha hd hst
          exact StepI.pure (v := .pointer (some ⟨eb, eo + k * 3 + 1, none⟩)) rfl rfl (by go_simp) ⟨rfl, hI⟩
        · intro us au w1 k14 hlo hhi ha hd hst hI
          obtain rfl : k14 = 0 := by omega
          have e13 := hd 13 _ (by kernel_rfl) rfl
          have q34 := slot_at (t := 34) 13 ha (by kernel_rfl) (by kernel_rfl) (by kernel_rfl) e13
          have p34 := slot_norm q34
          clear ha hd hst
          have kk := HX1.out w1 hI
          exact StepI.pure (v := .string x.n) rfl rfl (by go_simp) ⟨rfl, hI⟩
        · intro us au w1 k15 hlo hhi ha hd hst hI
          obtain rfl : k15 = 0 := by omega
          have e8 := hd 8 _ (by kernel_rfl) rfl
          have e14 := hd 14 _ (by kernel_rfl) rfl
          have q29 := slot_at (t := 29) 8 ha (by kernel_rfl) (by kernel_rfl) (by kernel_rfl) e8
          have p29 := slot_norm q29
          have q35 := slot_at (t := 35) 14 ha (by kernel_rfl) (by kernel_rfl) (by kernel_rfl) e14
          have p35 := slot_norm q35
          clear ha hd hst
          exact StepI.pure (v := .string (S ++ x.m ++ (⟨#[32]⟩ : ByteArray) ++ x.n)) rfl rfl (by go_simp; try omega) ⟨rfl, hI⟩
        · intro us au w1 k16 hlo hhi ha hd hst hI
          obtain rfl : k16 = 0 := by omega
          have e15 := hd 15 _ (by kernel_rfl) rfl
          have q36 := slot_at (t := 36) 15 ha (by kernel_rfl) (by kernel_rfl) (by kernel_rfl) e15
          have p36 := slot_norm q36
          clear ha hd hst
          exact StepI.pure (v := .string (S ++ x.m ++ (⟨#[32]⟩ : ByteArray) ++ x.n ++ (⟨#[0]⟩ : ByteArray))) rfl rfl (by go_simp; try omega) ⟨rfl, hI⟩
        · intro us au w1 k17 hlo hhi ha hd hst hI
          obtain rfl : k17 = 0 := by omega
          have q1 := slot_far (t := 1) (v := .pointer (some ⟨og, 0, none⟩)) ha (by kernel_rfl) (by kernel_rfl)
          have p1 := slot_norm q1
          clear ha hd hst
          exact StepI.pure (v := .pointer (some ⟨og, 2, none⟩)) rfl rfl (by go_simp) ⟨rfl, hI⟩
        · intro us au w1 k18 hlo hhi ha hd hst hI
          obtain rfl : k18 = 0 := by omega
          have e17 := hd 17 _ (by kernel_rfl) rfl
          have q38 := slot_at (t := 38) 17 ha (by kernel_rfl) (by kernel_rfl) (by kernel_rfl) e17
          have p38 := slot_norm q38
          clear ha hd hst
          have kk := (HOR.out.below hI).c2
          exact StepI.pure (v := .slice (some ⟨eb, eo, none⟩) N cL) rfl rfl (by go_simp) ⟨rfl, hI⟩
        · intro us au w1 k19 hlo hhi ha hd hst hI
          obtain rfl : k19 = 0 := by omega
          have q4 := slot_far (t := 4) (v := .int .i64 k) ha (by kernel_rfl) (by kernel_rfl)
          have p4 := slot_norm q4
          clear ha hd hst
          exact StepI.pure (v := .int .i64 k) rfl rfl (by go_simp) ⟨rfl, hI⟩
        · intro us au w1 k20 hlo hhi ha hd hst hI
          obtain rfl : k20 = 0 := by omega
          have e18 := hd 18 _ (by kernel_rfl) rfl
          have e19 := hd 19 _ (by kernel_rfl) rfl
          have q39 := slot_at (t := 39) 18 ha (by kernel_rfl) (by kernel_rfl) (by kernel_rfl) e18
          have p39 := slot_norm q39
          have q40 := slot_at (t := 40) 19 ha (by kernel_rfl) (by kernel_rfl) (by kernel_rfl) e19
          have p40 := slot_norm q40
          clear ha hd hst
          exact StepI.pure (v := .pointer (some ⟨eb, eo + k * 3, none⟩)) rfl rfl (by go_simp) ⟨rfl, hI⟩
        · intro us au w1 k21 hlo hhi ha hd hst hI
          obtain rfl : k21 = 0 := by omega
          have e20 := hd 20 _ (by kernel_rfl) rfl
          have q41 := slot_at (t := 41) 20 ha (by kernel_rfl) (by kernel_rfl) (by kernel_rfl) e20
          have p41 := slot_norm q41
          clear ha hd hst
          exact StepI.pure (v := .pointer (some ⟨eb, eo + k * 3 + 2, none⟩)) rfl rfl (by go_simp) ⟨rfl, hI⟩
        · intro us au w1 k22 hlo hhi ha hd hst hI
          obtain rfl : k22 = 0 := by omega
          have e21 := hd 21 _ (by kernel_rfl) rfl
          have q42 := slot_at (t := 42) 21 ha (by kernel_rfl) (by kernel_rfl) (by kernel_rfl) e21
          have p42 := slot_norm q42
          clear ha hd hst
          have kk := HX2.out w1 hI
          exact StepI.pure (v := .string x.i) rfl rfl (by go_simp) ⟨rfl, hI⟩
        · intro us au w1 k23 hlo hhi ha hd hst hI
          obtain rfl : k23 = 0 := by omega
          have e22 := hd 22 _ (by kernel_rfl) rfl
          have q43 := slot_at (t := 43) 22 ha (by kernel_rfl) (by kernel_rfl) (by kernel_rfl) e22
          have p43 := slot_norm q43
          clear ha hd hst
          refine StepI.call (f := 42) (args := #[.string x.i]) rfl rfl (by go_simp) ?_
          refine (rawR_any x.i w1 HZI.out).mono ?_
          rintro e w5 ⟨rfl, hb⟩
          exact ⟨_, rfl, rfl, Below.trans hI (hb.mono hI.size)⟩
        · intro us au w1 k24 hlo hhi ha hd hst hI
          obtain rfl : k24 = 0 := by omega
          have e16 := hd 16 _ (by kernel_rfl) rfl
          have e23 := hd 23 _ (by kernel_rfl) rfl
          have q37 := slot_at (t := 37) 16 ha (by kernel_rfl) (by kernel_rfl) (by kernel_rfl) e16
          have p37 := slot_norm q37
          have q44 := slot_at (t := 44) 23 ha (by kernel_rfl) (by kernel_rfl) (by kernel_rfl) e23
          have p44 := slot_norm q44
          clear ha hd hst
          exact StepI.pure (v := .string (S ++ x.m ++ (⟨#[32]⟩ : ByteArray) ++ x.n ++ (⟨#[0]⟩ : ByteArray) ++ strOfNums (rawL x.i))) rfl rfl (by go_simp; try omega) ⟨rfl, hI⟩
        · intro us au w1 k25 hlo hhi ha hd hst hI
          obtain rfl : k25 = 0 := by omega
          have e24 := hd 24 _ (by kernel_rfl) rfl
          have q45 := slot_at (t := 45) 24 ha (by kernel_rfl) (by kernel_rfl) (by kernel_rfl) e24
          have p45 := slot_norm q45
          clear ha hd hst
          exact StepI.pure (v := .string (S ++ x.m ++ (⟨#[32]⟩ : ByteArray) ++ x.n ++ (⟨#[0]⟩ : ByteArray) ++ strOfNums (rawL x.i))) rfl rfl (by go_simp; try omega) ⟨rfl, hI⟩
      case done =>
        intro us w1 hI hd
        have e25 := hd 25 _ (by decide) rfl
        have HW := Lib.hid (HB.out.trans (Below.mono hI HB.out.size))
        have HNX : Hid (S ++ x.m ++ (⟨#[32]⟩ : ByteArray) ++ x.n ++ (⟨#[0]⟩ : ByteArray) ++ strOfNums (rawL x.i) = strOfNums (treeL (L.take (k + 1)))) := Lib.hid (by
          rw [HSX.out, ← str_app, HS.out, entL, ← str_app, strOfNums_bytes]
          simp only [entS, ByteArray.append_assoc])
        clear hd hI
        simp only [putAll]
        go_simp
        go_wp2
        go_roundw
        case rel => exact ⟨k + 1, rfl, by rw [← HNX.out], by omega, HW.out⟩
        case measure => simp [intOf]; omega
    · obtain rfl : k = N := by omega
      have d2 : decide ((k : Int) < (k : Int)) = false := decide_eq_false (by omega)
      have d2' : decide (k < k) = false := decide_eq_false (by omega)
      rw [List.take_of_length_le (by rw [HN.out]; exact Nat.le_refl _)]
      go_wp2
      go_ret
      exact ⟨rfl, by rw [HOG.out]; exact HL.out.trans (HB.out.mono (by rw [← HOG.out]; exact HL.out.size))⟩
set_option maxRecDepth 100000 in
set_option maxHeartbeats 4000000 in
theorem refCommit_any (d : ByteArray) (vL : Value) (t : ByteArray) (A : Option Addr) (N cP : Nat) (P : List ByteArray) (a c o n : ByteArray) (ty : Int) (g m : ByteArray) (w : World) (hS : StrsAt w A P) (hN : P.length = N) (hNb : N ≤ 140737488355328) (hsz : (commitL t P a c m).length ≤ 140737488351300) :
    Calls Tryd.prog 22 #[.agg #[.int .i64 1, .string d, vL, .string t, .slice A N cP, .string a, .string c, .string o, .string n, .int .i64 ty, .string g, .string m]] w fun e w' => e = .returned (.string (strOfNums (commitL t P a c m))) ∧ Below w.heap.size w w' := by
  have HN := Lib.hid hN
  have hz : t.size + 6 + (parL P).length + (a.size + c.size + m.size + 20) ≤ 140737488351300 := by
    unfold commitL at hsz
    rw [List.length_append, List.length_append, bytesOf_len, bytesOf_len, headS_size, tailS_size] at hsz
    exact hsz
  have HSZ := Lib.hid hz
  have st : t.size ≤ 140737488351300 := by omega
  have sa : a.size ≤ 140737488351300 := by omega
  have sc : c.size ≤ 140737488351300 := by omega
  have sm : m.size ≤ 140737488351300 := by omega
  clear hN hsz hz
  have hl0 : Below w.heap.size w (w.alloc (.cells #[.int .i64 1, .string d, vL, .string t, (.slice A N cP), .string a, .string c, .string o, .string n, .int .i64 ty, .string g, .string m] 40)) := (Below.refl _ _).alloc (Nat.le_refl _) _
  have ho0 := O8At.new w 1 d vL t (.slice A N cP) a c o n ty g m
  have HSA := Lib.hid (hS.below hl0)
  clear hS
  go_enter Tryd.func22, Tryd.ntmps22
  go_upto_region 1 with (fail)
  generalize w.alloc (.cells #[.int .i64 1, .string d, vL, .string t, (.slice A N cP), .string a, .string c, .string o, .string n, .int .i64 ty, .string g, .string m] 40) = w0 at *
  have k0 := ho0.c0
  have HO := Lib.hid ho0
  have HL := Lib.hid hl0
  clear ho0 hl0
  generalize hog : w.heap.size = og at *
  have HOG := Lib.hid hog
  clear hog
  have k3 := HO.out.c3
  have z1 : ((⟨#[116, 114, 101, 101, 32]⟩ : ByteArray) ++ t).size = 5 + t.size := by rw [ByteArray.size_append]; rfl
  have z2 : ((⟨#[116, 114, 101, 101, 32]⟩ : ByteArray) ++ t ++ (⟨#[10]⟩ : ByteArray)).size = 5 + t.size + 1 := by rw [ByteArray.size_append, z1]; rfl
  go_upto_region 12 with (fail)
  have k4 := HO.out.c4
  go_wp2
  go_loopw [5, 3] (fun vi vs wr => ∃ (k : Nat), vi = .int .i64 k ∧ vs = .string (strOfNums (bytesOf (headS t) ++ parL (P.take k))) ∧ k ≤ N ∧ Below w0.heap.size w0 wr) (fun vi _ _ => N - (intOf vi).toNat)
  case atStart => exact ⟨0, rfl, by simp only [parL, List.take_zero, List.flatMap_nil, List.append_nil]; rw [strOfNums_bytes]; rfl, Nat.zero_le _, Below.refl _ _⟩
  case round =>
    clear z1 z2
    obtain ⟨k, rfl, rfl, hk, hb⟩ := hrel
    have kr4 := (HO.out.below hb).c4
    have HOR := Lib.hid (HO.out.below hb)
    have HB := Lib.hid hb
    have HER := Lib.hid (HSA.out.below hb)
    clear hb
    by_cases hlt : k < N
    · obtain ⟨p, hp⟩ : ∃ p, P[k]? = some p := ⟨_, List.getElem?_eq_getElem (by rw [HN.out]; exact hlt)⟩
      have hsx := parL_succ hp
      have hs1 := parL_pre P (k + 1)
      rw [hsx, List.length_append, bytesOf_len, parS_size] at hs1
      have hs2 := HSZ.out
      obtain ⟨eb, eo, rfl, heb, hcell⟩ := HER.out (by rw [HN.out]; omega)
      have r0 := hcell k p hp
      have d2 : decide ((k : Int) < (N : Int)) = true := decide_eq_true (by omega)
      have d2' : decide (k < N) = true := decide_eq_true hlt
      have HSX := Lib.hid hsx
      have sp : p.size ≤ 140737488351300 := by omega
      have z0 : (strOfNums (bytesOf (headS t) ++ parL (P.take k))).size ≤ 140737488351300 := by rw [strOfNums_size, List.length_append, bytesOf_len, headS_size]; omega
      clear hcell hp hs1 hs2 hsx heb
      generalize hS : strOfNums (bytesOf (headS t) ++ parL (P.take k)) = S at *
      have HS := Lib.hid hS
      clear hS
      have z1 : (S ++ (⟨#[112, 97, 114, 101, 110, 116, 32]⟩ : ByteArray)).size = S.size + 7 := by rw [ByteArray.size_append]; rfl
      have z2 : (S ++ (⟨#[112, 97, 114, 101, 110, 116, 32]⟩ : ByteArray) ++ p).size = S.size + 7 + p.size := by rw [ByteArray.size_append, z1]
      have z3 : (S ++ (⟨#[112, 97, 114, 101, 110, 116, 32]⟩ : ByteArray) ++ p ++ (⟨#[10]⟩ : ByteArray)).size = S.size + 7 + p.size + 1 := by rw [ByteArray.size_append, z2]; rfl
      have HNX : Hid (S ++ (⟨#[112, 97, 114, 101, 110, 116, 32]⟩ : ByteArray) ++ p ++ (⟨#[10]⟩ : ByteArray) = strOfNums (bytesOf (headS t) ++ parL (P.take (k + 1)))) := Lib.hid (by
        rw [HSX.out, ← List.append_assoc, ← str_app, HS.out, strOfNums_bytes]
        show _ = S ++ ((⟨#[112, 97, 114, 101, 110, 116, 32]⟩ : ByteArray) ++ p ++ (⟨#[10]⟩ : ByteArray))
        simp only [ByteArray.append_assoc])
      go_wp2
      go_roundw
      case rel => exact ⟨k + 1, rfl, by rw [← HNX.out], by omega, HB.out⟩
      case measure => simp [intOf]; omega
    · obtain rfl : k = N := by omega
      have d2 : decide ((k : Int) < (k : Int)) = false := decide_eq_false (by omega)
      have d2' : decide (k < k) = false := decide_eq_false (by omega)
      rw [List.take_of_length_le (by rw [HN.out]; exact Nat.le_refl _)]
      have kr5 := HOR.out.c5
      have kr6 := HOR.out.c6
      have kr11 := HOR.out.c11
      have z0 : (strOfNums (bytesOf (headS t) ++ parL P)).size ≤ 140737488351300 := by rw [strOfNums_size, List.length_append, bytesOf_len, headS_size]; have := HSZ.out; omega
      generalize hS : strOfNums (bytesOf (headS t) ++ parL P) = S at *
      have HS := Lib.hid hS
      clear hS
      have z1 : (S ++ (⟨#[97, 117, 116, 104, 111, 114, 32]⟩ : ByteArray)).size = S.size + 7 := by rw [ByteArray.size_append]; rfl
      have z2 : (S ++ (⟨#[97, 117, 116, 104, 111, 114, 32]⟩ : ByteArray) ++ a).size = S.size + 7 + a.size := by rw [ByteArray.size_append, z1]
      have z3 : (S ++ (⟨#[97, 117, 116, 104, 111, 114, 32]⟩ : ByteArray) ++ a ++ (⟨#[10, 99, 111, 109, 109, 105, 116, 116, 101, 114, 32]⟩ : ByteArray)).size = S.size + 7 + a.size + 11 := by rw [ByteArray.size_append, z2]; rfl
      have z4 : (S ++ (⟨#[97, 117, 116, 104, 111, 114, 32]⟩ : ByteArray) ++ a ++ (⟨#[10, 99, 111, 109, 109, 105, 116, 116, 101, 114, 32]⟩ : ByteArray) ++ c).size = S.size + 7 + a.size + 11 + c.size := by rw [ByteArray.size_append, z3]
      have z5 : (S ++ (⟨#[97, 117, 116, 104, 111, 114, 32]⟩ : ByteArray) ++ a ++ (⟨#[10, 99, 111, 109, 109, 105, 116, 116, 101, 114, 32]⟩ : ByteArray) ++ c ++ (⟨#[10, 10]⟩ : ByteArray)).size = S.size + 7 + a.size + 11 + c.size + 2 := by rw [ByteArray.size_append, z4]; rfl
      have z6 : (S ++ (⟨#[97, 117, 116, 104, 111, 114, 32]⟩ : ByteArray) ++ a ++ (⟨#[10, 99, 111, 109, 109, 105, 116, 116, 101, 114, 32]⟩ : ByteArray) ++ c ++ (⟨#[10, 10]⟩ : ByteArray) ++ m).size = S.size + 7 + a.size + 11 + c.size + 2 + m.size := by rw [ByteArray.size_append, z5]
      have HNX : Hid (S ++ (⟨#[97, 117, 116, 104, 111, 114, 32]⟩ : ByteArray) ++ a ++ (⟨#[10, 99, 111, 109, 109, 105, 116, 116, 101, 114, 32]⟩ : ByteArray) ++ c ++ (⟨#[10, 10]⟩ : ByteArray) ++ m = strOfNums (commitL t P a c m)) := Lib.hid (by
        unfold commitL
        rw [← str_app, HS.out, strOfNums_bytes]
        show _ = S ++ ((⟨#[97, 117, 116, 104, 111, 114, 32]⟩ : ByteArray) ++ a ++ (⟨#[10, 99, 111, 109, 109, 105, 116, 116, 101, 114, 32]⟩ : ByteArray) ++ c ++ (⟨#[10, 10]⟩ : ByteArray) ++ m)
        simp only [ByteArray.append_assoc])
      go_wp2
      go_ret
      exact ⟨by rw [← HNX.out]; rfl, by rw [HOG.out]; exact HL.out.trans (HB.out.mono (by rw [← HOG.out]; exact HL.out.size))⟩
set_option maxRecDepth 100000 in
set_option maxHeartbeats 4000000 in
theorem refTag_any (d : ByteArray) (vL : Value) (t : ByteArray) (vP : Value) (a c o n : ByteArray) (ty : Int) (g m : ByteArray) (w : World) (hsz : (tagS o (strOfNums (nameL ty)) n g m).size ≤ 140737488351300) :
    Calls Tryd.prog 22 #[.agg #[.int .i64 4, .string d, vL, .string t, vP, .string a, .string c, .string o, .string n, .int .i64 ty, .string g, .string m]] w fun e w' => e = .returned (.string (tagS o (strOfNums (nameL ty)) n g m)) ∧ Below w.heap.size w w' := by
  have HNM := Lib.hid (fun w => rname_any ty w)
  have hk6 : (strOfNums (nameL ty)).size ≤ 6 := by rw [strOfNums_size]; exact nameL_len ty
  generalize strOfNums (nameL ty) = KN at *
  rw [tagS_size] at hsz
  have HSZ := Lib.hid hsz
  have so : o.size ≤ 140737488351300 := by omega
  have sn : n.size ≤ 140737488351300 := by omega
  have sg : g.size ≤ 140737488351300 := by omega
  have sm : m.size ≤ 140737488351300 := by omega
  clear hsz
  have z1 : ((⟨#[111, 98, 106, 101, 99, 116, 32]⟩ : ByteArray) ++ o).size = 7 + o.size := by rw [ByteArray.size_append]; rfl
  have z2 : ((⟨#[111, 98, 106, 101, 99, 116, 32]⟩ : ByteArray) ++ o ++ (⟨#[10, 116, 121, 112, 101, 32]⟩ : ByteArray)).size = 7 + o.size + 6 := by rw [ByteArray.size_append, z1]; rfl
  have z3 : ((⟨#[111, 98, 106, 101, 99, 116, 32]⟩ : ByteArray) ++ o ++ (⟨#[10, 116, 121, 112, 101, 32]⟩ : ByteArray) ++ KN).size = 7 + o.size + 6 + KN.size := by rw [ByteArray.size_append, z2]
  have z4 : ((⟨#[111, 98, 106, 101, 99, 116, 32]⟩ : ByteArray) ++ o ++ (⟨#[10, 116, 121, 112, 101, 32]⟩ : ByteArray) ++ KN ++ (⟨#[10, 116, 97, 103, 32]⟩ : ByteArray)).size = 7 + o.size + 6 + KN.size + 5 := by rw [ByteArray.size_append, z3]; rfl
  have z5 : ((⟨#[111, 98, 106, 101, 99, 116, 32]⟩ : ByteArray) ++ o ++ (⟨#[10, 116, 121, 112, 101, 32]⟩ : ByteArray) ++ KN ++ (⟨#[10, 116, 97, 103, 32]⟩ : ByteArray) ++ n).size = 7 + o.size + 6 + KN.size + 5 + n.size := by rw [ByteArray.size_append, z4]
  have z6 : ((⟨#[111, 98, 106, 101, 99, 116, 32]⟩ : ByteArray) ++ o ++ (⟨#[10, 116, 121, 112, 101, 32]⟩ : ByteArray) ++ KN ++ (⟨#[10, 116, 97, 103, 32]⟩ : ByteArray) ++ n ++ (⟨#[10, 116, 97, 103, 103, 101, 114, 32]⟩ : ByteArray)).size = 7 + o.size + 6 + KN.size + 5 + n.size + 8 := by rw [ByteArray.size_append, z5]; rfl
  have z7 : ((⟨#[111, 98, 106, 101, 99, 116, 32]⟩ : ByteArray) ++ o ++ (⟨#[10, 116, 121, 112, 101, 32]⟩ : ByteArray) ++ KN ++ (⟨#[10, 116, 97, 103, 32]⟩ : ByteArray) ++ n ++ (⟨#[10, 116, 97, 103, 103, 101, 114, 32]⟩ : ByteArray) ++ g).size = 7 + o.size + 6 + KN.size + 5 + n.size + 8 + g.size := by rw [ByteArray.size_append, z6]
  have z8 : ((⟨#[111, 98, 106, 101, 99, 116, 32]⟩ : ByteArray) ++ o ++ (⟨#[10, 116, 121, 112, 101, 32]⟩ : ByteArray) ++ KN ++ (⟨#[10, 116, 97, 103, 32]⟩ : ByteArray) ++ n ++ (⟨#[10, 116, 97, 103, 103, 101, 114, 32]⟩ : ByteArray) ++ g ++ (⟨#[10, 10]⟩ : ByteArray)).size = 7 + o.size + 6 + KN.size + 5 + n.size + 8 + g.size + 2 := by rw [ByteArray.size_append, z7]; rfl
  have z9 : ((⟨#[111, 98, 106, 101, 99, 116, 32]⟩ : ByteArray) ++ o ++ (⟨#[10, 116, 121, 112, 101, 32]⟩ : ByteArray) ++ KN ++ (⟨#[10, 116, 97, 103, 32]⟩ : ByteArray) ++ n ++ (⟨#[10, 116, 97, 103, 103, 101, 114, 32]⟩ : ByteArray) ++ g ++ (⟨#[10, 10]⟩ : ByteArray) ++ m).size = 7 + o.size + 6 + KN.size + 5 + n.size + 8 + g.size + 2 + m.size := by rw [ByteArray.size_append, z8]
  have hl0 : Below w.heap.size w (w.alloc (.cells #[.int .i64 4, .string d, vL, .string t, vP, .string a, .string c, .string o, .string n, .int .i64 ty, .string g, .string m] 40)) := (Below.refl _ _).alloc (Nat.le_refl _) _
  have ho0 := O8At.new w 4 d vL t vP a c o n ty g m
  go_enter Tryd.func22, Tryd.ntmps22
  go_upto_region 1 with (fail)
  generalize w.alloc (.cells #[.int .i64 4, .string d, vL, .string t, vP, .string a, .string c, .string o, .string n, .int .i64 ty, .string g, .string m] 40) = w0 at *
  have k0 := ho0.c0
  have HO := Lib.hid ho0
  have HL := Lib.hid hl0
  clear ho0 hl0
  generalize hog : w.heap.size = og at *
  have HOG := Lib.hid hog
  clear hog
  go_upto_region 18 with (fail)
  refine wp_region_ph (by kernel_rfl) [] [.span 0 0, .span 0 0, .span 0 0, .span 0 0, .span 0 0, .span 0 0, .span 0 0, .span 0 0, .span 0 0, .span 0 0, .span 0 0, .span 0 0, .span 0 0, .span 0 0, .span 0 0, .span 0 0, .span 0 0, .span 0 0, .span 0 0, .span 0 0, .span 0 0] [fun z9 => z9 = .pointer (some ⟨og, 7, none⟩), fun z9 => z9 = .string o, fun z9 => z9 = .string ((⟨#[111, 98, 106, 101, 99, 116, 32]⟩ : ByteArray) ++ o), fun z9 => z9 = .string ((⟨#[111, 98, 106, 101, 99, 116, 32]⟩ : ByteArray) ++ o ++ (⟨#[10, 116, 121, 112, 101, 32]⟩ : ByteArray)), fun z9 => z9 = .pointer (some ⟨og, 9, none⟩), fun z9 => z9 = .int .i64 ty, fun z9 => z9 = .string KN, fun z9 => z9 = .string ((⟨#[111, 98, 106, 101, 99, 116, 32]⟩ : ByteArray) ++ o ++ (⟨#[10, 116, 121, 112, 101, 32]⟩ : ByteArray) ++ KN), fun z9 => z9 = .string ((⟨#[111, 98, 106, 101, 99, 116, 32]⟩ : ByteArray) ++ o ++ (⟨#[10, 116, 121, 112, 101, 32]⟩ : ByteArray) ++ KN ++ (⟨#[10, 116, 97, 103, 32]⟩ : ByteArray)), fun z9 => z9 = .pointer (some ⟨og, 8, none⟩), fun z9 => z9 = .string n, fun z9 => z9 = .string ((⟨#[111, 98, 106, 101, 99, 116, 32]⟩ : ByteArray) ++ o ++ (⟨#[10, 116, 121, 112, 101, 32]⟩ : ByteArray) ++ KN ++ (⟨#[10, 116, 97, 103, 32]⟩ : ByteArray) ++ n), fun z9 => z9 = .string ((⟨#[111, 98, 106, 101, 99, 116, 32]⟩ : ByteArray) ++ o ++ (⟨#[10, 116, 121, 112, 101, 32]⟩ : ByteArray) ++ KN ++ (⟨#[10, 116, 97, 103, 32]⟩ : ByteArray) ++ n ++ (⟨#[10, 116, 97, 103, 103, 101, 114, 32]⟩ : ByteArray)), fun z9 => z9 = .pointer (some ⟨og, 10, none⟩), fun z9 => z9 = .string g, fun z9 => z9 = .string ((⟨#[111, 98, 106, 101, 99, 116, 32]⟩ : ByteArray) ++ o ++ (⟨#[10, 116, 121, 112, 101, 32]⟩ : ByteArray) ++ KN ++ (⟨#[10, 116, 97, 103, 32]⟩ : ByteArray) ++ n ++ (⟨#[10, 116, 97, 103, 103, 101, 114, 32]⟩ : ByteArray) ++ g), fun z9 => z9 = .string ((⟨#[111, 98, 106, 101, 99, 116, 32]⟩ : ByteArray) ++ o ++ (⟨#[10, 116, 121, 112, 101, 32]⟩ : ByteArray) ++ KN ++ (⟨#[10, 116, 97, 103, 32]⟩ : ByteArray) ++ n ++ (⟨#[10, 116, 97, 103, 103, 101, 114, 32]⟩ : ByteArray) ++ g ++ (⟨#[10, 10]⟩ : ByteArray)), fun z9 => z9 = .pointer (some ⟨og, 11, none⟩), fun z9 => z9 = .string m, fun z9 => z9 = .string ((⟨#[111, 98, 106, 101, 99, 116, 32]⟩ : ByteArray) ++ o ++ (⟨#[10, 116, 121, 112, 101, 32]⟩ : ByteArray) ++ KN ++ (⟨#[10, 116, 97, 103, 32]⟩ : ByteArray) ++ n ++ (⟨#[10, 116, 97, 103, 103, 101, 114, 32]⟩ : ByteArray) ++ g ++ (⟨#[10, 10]⟩ : ByteArray) ++ m), fun z9 => z9 = .string ((⟨#[111, 98, 106, 101, 99, 116, 32]⟩ : ByteArray) ++ o ++ (⟨#[10, 116, 121, 112, 101, 32]⟩ : ByteArray) ++ KN ++ (⟨#[10, 116, 97, 103, 32]⟩ : ByteArray) ++ n ++ (⟨#[10, 116, 97, 103, 103, 101, 114, 32]⟩ : ByteArray) ++ g ++ (⟨#[10, 10]⟩ : ByteArray) ++ m)] ((fun _ w => Below w0.heap.size w0 w)) (by kernel_rfl) (by kernel_rfl) (by kernel_rfl) (by kernel_rfl) (by kernel_rfl) (by kernel_rfl) rfl rfl ((Below.refl _ _).drew) ?steps ?done
  case steps =>
    refine ⟨?_, ?_, ?_, ?_, ?_, ?_, ?_, ?_, ?_, ?_, ?_, ?_, ?_, ?_, ?_, ?_, ?_, ?_, ?_, ?_, ?_, trivial⟩
    · intro us au w1 k0 hlo hhi ha hd hst hI
      obtain rfl : k0 = 0 := by omega
      have q1 := slot_far (t := 1) (v := .pointer (some ⟨og, 0, none⟩)) ha (by kernel_rfl) (by kernel_rfl)
      have p1 := slot_norm q1
      clear ha hd hst
      exact StepI.pure (v := .pointer (some ⟨og, 7, none⟩)) rfl rfl (by go_simp) ⟨rfl, hI⟩
    · intro us au w1 k1 hlo hhi ha hd hst hI
      obtain rfl : k1 = 0 := by omega
      have e0 := hd 0 _ (by kernel_rfl) rfl
      have q83 := slot_at (t := 83) 0 ha (by kernel_rfl) (by kernel_rfl) (by kernel_rfl) e0
      have p83 := slot_norm q83
      clear ha hd hst
      have kk := (HO.out.below hI).c7
      exact StepI.pure (v := .string o) rfl rfl (by go_simp) ⟨rfl, hI⟩
    · intro us au w1 k2 hlo hhi ha hd hst hI
      obtain rfl : k2 = 0 := by omega
      have e1 := hd 1 _ (by kernel_rfl) rfl
      have q84 := slot_at (t := 84) 1 ha (by kernel_rfl) (by kernel_rfl) (by kernel_rfl) e1
      have p84 := slot_norm q84
      clear ha hd hst
      exact StepI.pure (v := .string ((⟨#[111, 98, 106, 101, 99, 116, 32]⟩ : ByteArray) ++ o)) rfl rfl (by go_simp; try omega) ⟨rfl, hI⟩
    · intro us au w1 k3 hlo hhi ha hd hst hI
      obtain rfl : k3 = 0 := by omega
      have e2 := hd 2 _ (by kernel_rfl) rfl
      have q85 := slot_at (t := 85) 2 ha (by kernel_rfl) (by kernel_rfl) (by kernel_rfl) e2
      have p85 := slot_norm q85
      clear ha hd hst
      exact StepI.pure (v := .string ((⟨#[111, 98, 106, 101, 99, 116, 32]⟩ : ByteArray) ++ o ++ (⟨#[10, 116, 121, 112, 101, 32]⟩ : ByteArray))) rfl rfl (by go_simp; try omega) ⟨rfl, hI⟩
    · intro us au w1 k4 hlo hhi ha hd hst hI
      obtain rfl : k4 = 0 := by omega
      have q1 := slot_far (t := 1) (v := .pointer (some ⟨og, 0, none⟩)) ha (by kernel_rfl) (by kernel_rfl)
      have p1 := slot_norm q1
      clear ha hd hst
      exact StepI.pure (v := .pointer (some ⟨og, 9, none⟩)) rfl rfl (by go_simp) ⟨rfl, hI⟩
    · intro us au w1 k5 hlo hhi ha hd hst hI
      obtain rfl : k5 = 0 := by omega
      have e4 := hd 4 _ (by kernel_rfl) rfl
      have q87 := slot_at (t := 87) 4 ha (by kernel_rfl) (by kernel_rfl) (by kernel_rfl) e4
      have p87 := slot_norm q87
      clear ha hd hst
      have kk := (HO.out.below hI).c9
      exact StepI.pure (v := .int .i64 ty) rfl rfl (by go_simp) ⟨rfl, hI⟩
    · intro us au w1 k6 hlo hhi ha hd hst hI
      obtain rfl : k6 = 0 := by omega
      have e5 := hd 5 _ (by kernel_rfl) rfl
      have q88 := slot_at (t := 88) 5 ha (by kernel_rfl) (by kernel_rfl) (by kernel_rfl) e5
      have p88 := slot_norm q88
      clear ha hd hst
      refine StepI.call (f := 12) (args := #[.int .i64 ty]) rfl rfl (by go_simp) ?_
      refine (HNM.out w1).mono ?_
      rintro e w5 ⟨rfl, hb⟩
      exact ⟨_, rfl, rfl, Below.trans hI (hb.mono hI.size)⟩
    · intro us au w1 k7 hlo hhi ha hd hst hI
      obtain rfl : k7 = 0 := by omega
      have e3 := hd 3 _ (by kernel_rfl) rfl
      have e6 := hd 6 _ (by kernel_rfl) rfl
      have q86 := slot_at (t := 86) 3 ha (by kernel_rfl) (by kernel_rfl) (by kernel_rfl) e3
      have p86 := slot_norm q86
      have q89 := slot_at (t := 89) 6 ha (by kernel_rfl) (by kernel_rfl) (by kernel_rfl) e6
      have p89 := slot_norm q89
      clear ha hd hst
      exact StepI.pure (v := .string ((⟨#[111, 98, 106, 101, 99, 116, 32]⟩ : ByteArray) ++ o ++ (⟨#[10, 116, 121, 112, 101, 32]⟩ : ByteArray) ++ KN)) rfl rfl (by go_simp; try omega) ⟨rfl, hI⟩
    · intro us au w1 k8 hlo hhi ha hd hst hI
      obtain rfl : k8 = 0 := by omega
      have e7 := hd 7 _ (by kernel_rfl) rfl
      have q90 := slot_at (t := 90) 7 ha (by kernel_rfl) (by kernel_rfl) (by kernel_rfl) e7
      have p90 := slot_norm q90
      clear ha hd hst
      exact StepI.pure (v := .string ((⟨#[111, 98, 106, 101, 99, 116, 32]⟩ : ByteArray) ++ o ++ (⟨#[10, 116, 121, 112, 101, 32]⟩ : ByteArray) ++ KN ++ (⟨#[10, 116, 97, 103, 32]⟩ : ByteArray))) rfl rfl (by go_simp; try omega) ⟨rfl, hI⟩
    · intro us au w1 k9 hlo hhi ha hd hst hI
      obtain rfl : k9 = 0 := by omega
      have q1 := slot_far (t := 1) (v := .pointer (some ⟨og, 0, none⟩)) ha (by kernel_rfl) (by kernel_rfl)
      have p1 := slot_norm q1
      clear ha hd hst
      exact StepI.pure (v := .pointer (some ⟨og, 8, none⟩)) rfl rfl (by go_simp) ⟨rfl, hI⟩
    · intro us au w1 k10 hlo hhi ha hd hst hI
      obtain rfl : k10 = 0 := by omega
      have e9 := hd 9 _ (by kernel_rfl) rfl
      have q92 := slot_at (t := 92) 9 ha (by kernel_rfl) (by kernel_rfl) (by kernel_rfl) e9
      have p92 := slot_norm q92
      clear ha hd hst
      have kk := (HO.out.below hI).c8
      exact StepI.pure (v := .string n) rfl rfl (by go_simp) ⟨rfl, hI⟩
    · intro us au w1 k11 hlo hhi ha hd hst hI
      obtain rfl : k11 = 0 := by omega
      have e8 := hd 8 _ (by kernel_rfl) rfl
      have e10 := hd 10 _ (by kernel_rfl) rfl
      have q91 := slot_at (t := 91) 8 ha (by kernel_rfl) (by kernel_rfl) (by kernel_rfl) e8
      have p91 := slot_norm q91
      have q93 := slot_at (t := 93) 10 ha (by kernel_rfl) (by kernel_rfl) (by kernel_rfl) e10
      have p93 := slot_norm q93
      clear ha hd hst
      exact StepI.pure (v := .string ((⟨#[111, 98, 106, 101, 99, 116, 32]⟩ : ByteArray) ++ o ++ (⟨#[10, 116, 121, 112, 101, 32]⟩ : ByteArray) ++ KN ++ (⟨#[10, 116, 97, 103, 32]⟩ : ByteArray) ++ n)) rfl rfl (by go_simp; try omega) ⟨rfl, hI⟩
    · intro us au w1 k12 hlo hhi ha hd hst hI
      obtain rfl : k12 = 0 := by omega
      have e11 := hd 11 _ (by kernel_rfl) rfl
      have q94 := slot_at (t := 94) 11 ha (by kernel_rfl) (by kernel_rfl) (by kernel_rfl) e11
      have p94 := slot_norm q94
      clear ha hd hst
      exact StepI.pure (v := .string ((⟨#[111, 98, 106, 101, 99, 116, 32]⟩ : ByteArray) ++ o ++ (⟨#[10, 116, 121, 112, 101, 32]⟩ : ByteArray) ++ KN ++ (⟨#[10, 116, 97, 103, 32]⟩ : ByteArray) ++ n ++ (⟨#[10, 116, 97, 103, 103, 101, 114, 32]⟩ : ByteArray))) rfl rfl (by go_simp; try omega) ⟨rfl, hI⟩
    · intro us au w1 k13 hlo hhi ha hd hst hI
      obtain rfl : k13 = 0 := by omega
      have q1 := slot_far (t := 1) (v := .pointer (some ⟨og, 0, none⟩)) ha (by kernel_rfl) (by kernel_rfl)
      have p1 := slot_norm q1
      clear ha hd hst
      exact StepI.pure (v := .pointer (some ⟨og, 10, none⟩)) rfl rfl (by go_simp) ⟨rfl, hI⟩
    · intro us au w1 k14 hlo hhi ha hd hst hI
      obtain rfl : k14 = 0 := by omega
      have e13 := hd 13 _ (by kernel_rfl) rfl
      have q96 := slot_at (t := 96) 13 ha (by kernel_rfl) (by kernel_rfl) (by kernel_rfl) e13
      have p96 := slot_norm q96
      clear ha hd hst
      have kk := (HO.out.below hI).c10
      exact StepI.pure (v := .string g) rfl rfl (by go_simp) ⟨rfl, hI⟩
    · intro us au w1 k15 hlo hhi ha hd hst hI
      obtain rfl : k15 = 0 := by omega
      have e12 := hd 12 _ (by kernel_rfl) rfl
      have e14 := hd 14 _ (by kernel_rfl) rfl
      have q95 := slot_at (t := 95) 12 ha (by kernel_rfl) (by kernel_rfl) (by kernel_rfl) e12
      have p95 := slot_norm q95
      have q97 := slot_at (t := 97) 14 ha (by kernel_rfl) (by kernel_rfl) (by kernel_rfl) e14
      have p97 := slot_norm q97
      clear ha hd hst
      exact StepI.pure (v := .string ((⟨#[111, 98, 106, 101, 99, 116, 32]⟩ : ByteArray) ++ o ++ (⟨#[10, 116, 121, 112, 101, 32]⟩ : ByteArray) ++ KN ++ (⟨#[10, 116, 97, 103, 32]⟩ : ByteArray) ++ n ++ (⟨#[10, 116, 97, 103, 103, 101, 114, 32]⟩ : ByteArray) ++ g)) rfl rfl (by go_simp; try omega) ⟨rfl, hI⟩
    · intro us au w1 k16 hlo hhi ha hd hst hI
      obtain rfl : k16 = 0 := by omega
      have e15 := hd 15 _ (by kernel_rfl) rfl
      have q98 := slot_at (t := 98) 15 ha (by kernel_rfl) (by kernel_rfl) (by kernel_rfl) e15
      have p98 := slot_norm q98
      clear ha hd hst
      exact StepI.pure (v := .string ((⟨#[111, 98, 106, 101, 99, 116, 32]⟩ : ByteArray) ++ o ++ (⟨#[10, 116, 121, 112, 101, 32]⟩ : ByteArray) ++ KN ++ (⟨#[10, 116, 97, 103, 32]⟩ : ByteArray) ++ n ++ (⟨#[10, 116, 97, 103, 103, 101, 114, 32]⟩ : ByteArray) ++ g ++ (⟨#[10, 10]⟩ : ByteArray))) rfl rfl (by go_simp; try omega) ⟨rfl, hI⟩
    · intro us au w1 k17 hlo hhi ha hd hst hI
      obtain rfl : k17 = 0 := by omega
      have q1 := slot_far (t := 1) (v := .pointer (some ⟨og, 0, none⟩)) ha (by kernel_rfl) (by kernel_rfl)
      have p1 := slot_norm q1
      clear ha hd hst
      exact StepI.pure (v := .pointer (some ⟨og, 11, none⟩)) rfl rfl (by go_simp) ⟨rfl, hI⟩
    · intro us au w1 k18 hlo hhi ha hd hst hI
      obtain rfl : k18 = 0 := by omega
      have e17 := hd 17 _ (by kernel_rfl) rfl
      have q100 := slot_at (t := 100) 17 ha (by kernel_rfl) (by kernel_rfl) (by kernel_rfl) e17
      have p100 := slot_norm q100
      clear ha hd hst
      have kk := (HO.out.below hI).c11
      exact StepI.pure (v := .string m) rfl rfl (by go_simp) ⟨rfl, hI⟩
    · intro us au w1 k19 hlo hhi ha hd hst hI
      obtain rfl : k19 = 0 := by omega
      have e16 := hd 16 _ (by kernel_rfl) rfl
      have e18 := hd 18 _ (by kernel_rfl) rfl
      have q99 := slot_at (t := 99) 16 ha (by kernel_rfl) (by kernel_rfl) (by kernel_rfl) e16
      have p99 := slot_norm q99
      have q101 := slot_at (t := 101) 18 ha (by kernel_rfl) (by kernel_rfl) (by kernel_rfl) e18
      have p101 := slot_norm q101
      clear ha hd hst
      exact StepI.pure (v := .string ((⟨#[111, 98, 106, 101, 99, 116, 32]⟩ : ByteArray) ++ o ++ (⟨#[10, 116, 121, 112, 101, 32]⟩ : ByteArray) ++ KN ++ (⟨#[10, 116, 97, 103, 32]⟩ : ByteArray) ++ n ++ (⟨#[10, 116, 97, 103, 103, 101, 114, 32]⟩ : ByteArray) ++ g ++ (⟨#[10, 10]⟩ : ByteArray) ++ m)) rfl rfl (by go_simp; try omega) ⟨rfl, hI⟩
    · intro us au w1 k20 hlo hhi ha hd hst hI
      obtain rfl : k20 = 0 := by omega
      have e19 := hd 19 _ (by kernel_rfl) rfl
      have q102 := slot_at (t := 102) 19 ha (by kernel_rfl) (by kernel_rfl) (by kernel_rfl) e19
      have p102 := slot_norm q102
      clear ha hd hst
      exact StepI.pure (v := .string ((⟨#[111, 98, 106, 101, 99, 116, 32]⟩ : ByteArray) ++ o ++ (⟨#[10, 116, 121, 112, 101, 32]⟩ : ByteArray) ++ KN ++ (⟨#[10, 116, 97, 103, 32]⟩ : ByteArray) ++ n ++ (⟨#[10, 116, 97, 103, 103, 101, 114, 32]⟩ : ByteArray) ++ g ++ (⟨#[10, 10]⟩ : ByteArray) ++ m)) rfl rfl (by go_simp; try omega) ⟨rfl, hI⟩
  case done =>
    intro us w1 hI hd
    have e20 := hd 20 _ (by decide) rfl
    have HW := Lib.hid (HL.out.trans (Below.mono hI (by rw [← HOG.out]; exact HL.out.size)))
    clear hd hI
    simp only [putAll]
    go_simp
    go_wp2
    go_ret
    exact ⟨rfl, by rw [HOG.out]; exact HW.out⟩
end Go.Proofs.YtdlabapfcghfmaaDoor
namespace Go.Proofs.YtdlabapfcghfmaaDoor
open Go.RowKit
set_option linter.unusedVariables false
set_option linter.unusedSimpArgs false

set_option maxRecDepth 100000 in
set_option maxHeartbeats 4000000 in
theorem commitBytes_any (t : ByteArray) (A : Option Addr) (N cP : Nat) (P : List ByteArray) (a c m : ByteArray) (w : World) (hS : StrsAt w A P) (hN : P.length = N) (hNb : N ≤ 140737488355328) (hsz : (commitL t P a c m).length ≤ 140737488351300) :
    Calls Tryd.prog 117 #[.agg #[.string t, .slice A N cP, .string a, .string c, .string m]] w (BytesPost w (commitL t P a c m)) := by
  have HN := Lib.hid hN
  have hz : t.size + 6 + (parL P).length + (a.size + c.size + m.size + 20) ≤ 140737488351300 := by
    unfold commitL at hsz
    rw [List.length_append, List.length_append, bytesOf_len, bytesOf_len, headS_size, tailS_size] at hsz
    exact hsz
  have HSZ := Lib.hid hz
  have st : t.size ≤ 140737488351300 := by omega
  have sa : a.size ≤ 140737488351300 := by omega
  have sc : c.size ≤ 140737488351300 := by omega
  have sm : m.size ≤ 140737488351300 := by omega
  have HCZ := Lib.hid hsz
  have HCO := Lib.hid (bytesOf_str _ (commitL_ok t P a c m))
  have HCS : Hid ((strOfNums (commitL t P a c m)).size = (commitL t P a c m).length) := Lib.hid (strOfNums_size _)
  have hl0 : Below w.heap.size w (w.alloc (.cells #[.string t, .slice A N cP, .string a, .string c, .string m] 68)) := (Below.refl _ _).alloc (Nat.le_refl _) _
  have HS := Lib.hid (hS.below hl0)
  have HL := Lib.hid hl0
  have hk0 : ∀ i, i < 5 → (w.alloc (.cells #[.string t, .slice A N cP, .string a, .string c, .string m] 68)).cell? ⟨w.heap.size, i, none⟩ = (#[.string t, .slice A N cP, .string a, .string c, .string m] : Array Value)[i]? := fun i hi => by
    rw [World.cell?_alloc_at _ _ _ _ (by simp)]
  have HG : Hid (w.heap.size < (w.alloc (.cells #[.string t, .slice A N cP, .string a, .string c, .string m] 68)).heap.size) := Lib.hid (by simp)
  have HK := Lib.hid hk0
  clear hS hN hsz hz hl0 hk0
  go_enter Tryd.func117, Tryd.ntmps117
  go_upto_region 1 with (fail)
  generalize w.alloc (.cells #[.string t, .slice A N cP, .string a, .string c, .string m] 68) = w0 at *
  generalize hB : w.heap.size = B at *
  have HB := Lib.hid hB
  clear hB
  go_upto_region 2 with (fail)
  have hb1 := Lib.fresh_isBuilder 151 5 w0
  have hl1 : Below w0.heap.size w0 (w0.alloc (.cells #[.pointer none, .slice none 0 0] 151)) := (Below.refl _ _).alloc (Nat.le_refl _) _
  have HL1 := Lib.hid hl1
  have HB1 := Lib.hid hb1
  clear hb1 hl1
  generalize w0.alloc (.cells #[.pointer none, .slice none 0 0] 151) = w1 at *
  generalize hb : w0.heap.size = b at *
  have HBB := Lib.hid hb
  clear hb
  have HKW : Hid (∀ w', Below b w0 w' → ∀ i, i < 5 → w'.cell? ⟨B, i, none⟩ = (#[.string t, .slice A N cP, .string a, .string c, .string m] : Array Value)[i]?) := Lib.hid (fun w' h i hi => (h.cell (p := ⟨B, i, none⟩) HG.out).trans (HK.out i hi))
  have HSW : Hid (∀ w', Below b w0 w' → StrsAt w' A P) := Lib.hid (fun w' h => HS.out.below (by rw [HBB.out]; exact h))
  clear HK HS
  have k0 : w1.cell? ⟨B, 0, none⟩ = some (.string t) := HKW.out _ HL1.out 0 (by decide)
  have hbw1 : b ≤ w1.heap.size := by rw [← HBB.out]; exact HL1.out.size
  have z1 : ((⟨#[116, 114, 101, 101, 32]⟩ : ByteArray) ++ t).size = 5 + t.size := by rw [ByteArray.size_append]; rfl
  have z2 : ((⟨#[116, 114, 101, 101, 32]⟩ : ByteArray) ++ t ++ (⟨#[10]⟩ : ByteArray)).size = 5 + t.size + 1 := by rw [ByteArray.size_append, z1]; rfl
  go_upto_region 3 with (go_at_call 120; go_loud (refine (bWrite b [] (headS t) w1 HB1.out (by rw [headS_size]; show 0 + _ ≤ _; omega) hbw1).mono ?_); rintro e w2 ⟨rfl, hb2, hl2⟩)
  have HL2 := Lib.hid (HL1.out.trans (hl2.mono (Nat.le_refl _)))
  rw [List.nil_append] at hb2
  have HB2 := Lib.hid hb2
  clear hb2 hl2 k0 z1 z2 hbw1 HB1 HL1
  have k1 : w2.cell? ⟨B, 1, none⟩ = some (.slice A N cP) := HKW.out _ HL2.out 1 (by decide)
  go_upto_region 4 with (fail)
  go_loopw [14] (fun vi wr => ∃ (k : Nat), vi = .int .i64 k ∧ k ≤ N ∧ Lib.IsBuilder 151 5 b b ((bytesOf (headS t) ++ parL (P.take k)).map (Value.int .u8)) wr ∧ Below b w0 wr) (fun vi _ => N - (intOf vi).toNat)
  case atStart => exact ⟨0, rfl, Nat.zero_le _, by simpa [parL] using HB2.out, HL2.out⟩
  case round =>
    clear HB2 HL2 k1
    obtain ⟨k, rfl, hk, hb, hl⟩ := hrel
    have HBK := Lib.hid hb
    have HLK := Lib.hid hl
    have hbw : b ≤ wr.heap.size := by rw [← HBB.out]; exact hl.size
    by_cases hlt : k < N
    · obtain ⟨p, hp⟩ : ∃ p, P[k]? = some p := ⟨_, List.getElem?_eq_getElem (by rw [HN.out]; exact hlt)⟩
      have hsx := parL_succ hp
      have hs1 := parL_pre P (k + 1)
      rw [hsx, List.length_append, bytesOf_len, parS_size] at hs1
      have hs2 := HSZ.out
      obtain ⟨eb, eo, rfl, heb, hcell⟩ := HSW.out wr hl (by rw [HN.out]; omega)
      have r0 := hcell k p hp
      have d2 : decide ((k : Int) < (N : Int)) = true := decide_eq_true (by omega)
      have d2' : decide (k < N) = true := decide_eq_true hlt
      have HSX := Lib.hid hsx
      have HS3 : Hid ((parL (P.take k)).length + (p.size + 8) + (t.size + 6) ≤ 140737488351300) := Lib.hid (by omega)
      have sp : p.size ≤ 140737488351300 := by omega
      clear hcell hp hb hl hs1 hs2 hsx heb
      have z1 : ((⟨#[112, 97, 114, 101, 110, 116, 32]⟩ : ByteArray) ++ p).size = 7 + p.size := by rw [ByteArray.size_append]; rfl
      have z2 : ((⟨#[112, 97, 114, 101, 110, 116, 32]⟩ : ByteArray) ++ p ++ (⟨#[10]⟩ : ByteArray)).size = 7 + p.size + 1 := by rw [ByteArray.size_append, z1]; rfl
      go_upto_region 7 with (go_at_call 120; go_loud (refine (bWrite b (bytesOf (headS t) ++ parL (P.take k)) (parS p) wr HBK.out (by rw [parS_size, List.length_append, bytesOf_len, headS_size]; have := HS3.out; omega) hbw).mono ?_); rintro e w5 ⟨rfl, hb5, hl5⟩)
      have hb5' : Lib.IsBuilder 151 5 b b ((bytesOf (headS t) ++ parL (P.take (k + 1))).map (Value.int .u8)) w5 := by
        rw [HSX.out, ← List.append_assoc]; exact hb5
      have HB5 := Lib.hid hb5'
      have HL5 := Lib.hid (HLK.out.trans (hl5.mono (Nat.le_refl _)))
      clear hb5 hb5' hl5 z1 z2 r0 HBK HLK hbw
      go_wp2
      go_roundw
      case rel => exact ⟨k + 1, rfl, by omega, HB5.out, HL5.out⟩
      case measure => simp [intOf]; omega
    · obtain rfl : k = N := by omega
      have d2 : decide ((k : Int) < (k : Int)) = false := decide_eq_false (by omega)
      have d2' : decide (k < k) = false := decide_eq_false (by omega)
      rw [List.take_of_length_le (by rw [HN.out]; exact Nat.le_refl _)] at hb
      have HBE := Lib.hid hb
      have k2 : wr.cell? ⟨B, 2, none⟩ = some (.string a) := HKW.out _ hl 2 (by decide)
      have k3 : wr.cell? ⟨B, 3, none⟩ = some (.string c) := HKW.out _ hl 3 (by decide)
      have k4 : wr.cell? ⟨B, 4, none⟩ = some (.string m) := HKW.out _ hl 4 (by decide)
      clear hb hl HBK
      have z1 : ((⟨#[97, 117, 116, 104, 111, 114, 32]⟩ : ByteArray) ++ a).size = 7 + a.size := by rw [ByteArray.size_append]; rfl
      have z2 : ((⟨#[97, 117, 116, 104, 111, 114, 32]⟩ : ByteArray) ++ a ++ (⟨#[10, 99, 111, 109, 109, 105, 116, 116, 101, 114, 32]⟩ : ByteArray)).size = 7 + a.size + 11 := by rw [ByteArray.size_append, z1]; rfl
      have z3 : ((⟨#[97, 117, 116, 104, 111, 114, 32]⟩ : ByteArray) ++ a ++ (⟨#[10, 99, 111, 109, 109, 105, 116, 116, 101, 114, 32]⟩ : ByteArray) ++ c).size = 7 + a.size + 11 + c.size := by rw [ByteArray.size_append, z2]
      have z4 : ((⟨#[97, 117, 116, 104, 111, 114, 32]⟩ : ByteArray) ++ a ++ (⟨#[10, 99, 111, 109, 109, 105, 116, 116, 101, 114, 32]⟩ : ByteArray) ++ c ++ (⟨#[10, 10]⟩ : ByteArray)).size = 7 + a.size + 11 + c.size + 2 := by rw [ByteArray.size_append, z3]; rfl
      have z5 : ((⟨#[97, 117, 116, 104, 111, 114, 32]⟩ : ByteArray) ++ a ++ (⟨#[10, 99, 111, 109, 109, 105, 116, 116, 101, 114, 32]⟩ : ByteArray) ++ c ++ (⟨#[10, 10]⟩ : ByteArray) ++ m).size = 7 + a.size + 11 + c.size + 2 + m.size := by rw [ByteArray.size_append, z4]
      go_upto_region 9 with (go_at_call 120; go_loud (refine (bWrite b (bytesOf (headS t) ++ parL P) (tailS a c m) wr HBE.out (by rw [tailS_size, List.length_append, bytesOf_len, headS_size]; have := HSZ.out; omega) hbw).mono ?_); rintro e w5 ⟨rfl, hb5, hl5⟩)
      have HB5 : Hid (Lib.IsBuilder 151 5 b b ((commitL t P a c m).map (Value.int .u8)) w5) := Lib.hid hb5
      have HL5 := Lib.hid (HLK.out.trans (hl5.mono (Nat.le_refl _)))
      have hbw5 : b ≤ w5.heap.size := by rw [← HBB.out]; exact HL5.out.size
      have HBO := Lib.hid (commitL_ok t P a c m)
      clear hb5 hl5 z1 z2 z3 z4 z5 k2 k3 k4 HBE HLK hbw
      generalize commitL t P a c m = CL at *
      go_wp2_with fail
      refine (bStr b CL w5 HB5.out HBO.out hbw5).mono ?_
      rintro e w6 ⟨rfl, hl6⟩
      have HL6 := Lib.hid (HL5.out.trans (hl6.mono (Nat.le_refl _)))
      clear hl6 HB5 HL5 hbw5
      go_wp2_with (refine wpList_convO rfl (.tmp 35) rfl (strOfNums CL) (CL).length (CL) rfl HCS.out HCO.out (by rw [HCS.out]; exact HCZ.out) ?_; intro A9 c9 w9 ho9 hc9 hm9 hb9)
      have HCP := ho9.cap
      have HCM := ho9.capm
      have HO9 := Lib.hid ho9
      have HL9 := Lib.hid (HL6.out.trans (hb9.mono (by rw [← HBB.out]; exact HL6.out.size)))
      have HB69 : Hid (b ≤ w6.heap.size) := Lib.hid (by rw [← HBB.out]; exact HL6.out.size)
      clear ho9 hb9 hc9 hm9 HL6
      go_wp2_with (go_at_call 116; refine (clip_any _ _ _ _ HCP HCM).mono ?_; rintro e w10 ⟨rfl, rfl⟩)
      go_ret
      exact ⟨A9, rfl, (HO9.out.clip).base_ (by rw [HB.out]; exact Nat.le_trans (Nat.le_of_lt HG.out) HB69.out), by rw [HB.out]; exact HL.out.trans (HL9.out.mono (Nat.le_of_lt HG.out))⟩

/-- What holds amid a tag's printing: the text made into bytes, clipped, told. -/
def ITg (w0 : World) (TN : Nat) (TL : List Int) : List Value → World → Prop
  | [], w => Below w0.heap.size w0 w
  | [v], w => Below w0.heap.size w0 w ∧ ∃ A c, v = .slice A TN c ∧ OwnS w w0.heap.size 5 1 (.slice A TN c) TN (TL.map (Value.int .u8))
  | [_, v], w => Below w0.heap.size w0 w ∧ ∃ A, v = .slice A TN TN ∧ OwnS w w0.heap.size 5 1 (.slice A TN TN) TN (TL.map (Value.int .u8))
  | _ :: _ :: v :: _, w => Below w0.heap.size w0 w ∧ ∃ A, v = .slice A TN TN ∧ OwnS w w0.heap.size 5 1 (.slice A TN TN) TN (TL.map (Value.int .u8))
set_option maxRecDepth 100000 in
set_option maxHeartbeats 4000000 in
theorem tagBytes_any (o : ByteArray) (ty : Int) (n g m : ByteArray) (w : World) (hsz : (tagS o (strOfNums (nameL ty)) n g m).size ≤ 140737488351300) :
    Calls Tryd.prog 124 #[.agg #[.string o, .int .i64 ty, .string n, .string g, .string m]] w (BytesPost w (bytesOf (tagS o (strOfNums (nameL ty)) n g m))) := by
  have HNM := Lib.hid (fun w => name_any ty w)
  have hk6 : (strOfNums (nameL ty)).size ≤ 6 := by rw [strOfNums_size]; exact nameL_len ty
  generalize strOfNums (nameL ty) = KN at *
  rw [tagS_size] at hsz
  have HSZ := Lib.hid hsz
  have so : o.size ≤ 140737488351300 := by omega
  have sn : n.size ≤ 140737488351300 := by omega
  have sg : g.size ≤ 140737488351300 := by omega
  have sm : m.size ≤ 140737488351300 := by omega
  have z1 : ((⟨#[111, 98, 106, 101, 99, 116, 32]⟩ : ByteArray) ++ o).size = 7 + o.size := by rw [ByteArray.size_append]; rfl
  have z2 : ((⟨#[111, 98, 106, 101, 99, 116, 32]⟩ : ByteArray) ++ o ++ (⟨#[10, 116, 121, 112, 101, 32]⟩ : ByteArray)).size = 7 + o.size + 6 := by rw [ByteArray.size_append, z1]; rfl
  have z3 : ((⟨#[111, 98, 106, 101, 99, 116, 32]⟩ : ByteArray) ++ o ++ (⟨#[10, 116, 121, 112, 101, 32]⟩ : ByteArray) ++ KN).size = 7 + o.size + 6 + KN.size := by rw [ByteArray.size_append, z2]
  have z4 : ((⟨#[111, 98, 106, 101, 99, 116, 32]⟩ : ByteArray) ++ o ++ (⟨#[10, 116, 121, 112, 101, 32]⟩ : ByteArray) ++ KN ++ (⟨#[10, 116, 97, 103, 32]⟩ : ByteArray)).size = 7 + o.size + 6 + KN.size + 5 := by rw [ByteArray.size_append, z3]; rfl
  have z5 : ((⟨#[111, 98, 106, 101, 99, 116, 32]⟩ : ByteArray) ++ o ++ (⟨#[10, 116, 121, 112, 101, 32]⟩ : ByteArray) ++ KN ++ (⟨#[10, 116, 97, 103, 32]⟩ : ByteArray) ++ n).size = 7 + o.size + 6 + KN.size + 5 + n.size := by rw [ByteArray.size_append, z4]
  have z6 : ((⟨#[111, 98, 106, 101, 99, 116, 32]⟩ : ByteArray) ++ o ++ (⟨#[10, 116, 121, 112, 101, 32]⟩ : ByteArray) ++ KN ++ (⟨#[10, 116, 97, 103, 32]⟩ : ByteArray) ++ n ++ (⟨#[10, 116, 97, 103, 103, 101, 114, 32]⟩ : ByteArray)).size = 7 + o.size + 6 + KN.size + 5 + n.size + 8 := by rw [ByteArray.size_append, z5]; rfl
  have z7 : ((⟨#[111, 98, 106, 101, 99, 116, 32]⟩ : ByteArray) ++ o ++ (⟨#[10, 116, 121, 112, 101, 32]⟩ : ByteArray) ++ KN ++ (⟨#[10, 116, 97, 103, 32]⟩ : ByteArray) ++ n ++ (⟨#[10, 116, 97, 103, 103, 101, 114, 32]⟩ : ByteArray) ++ g).size = 7 + o.size + 6 + KN.size + 5 + n.size + 8 + g.size := by rw [ByteArray.size_append, z6]
  have z8 : ((⟨#[111, 98, 106, 101, 99, 116, 32]⟩ : ByteArray) ++ o ++ (⟨#[10, 116, 121, 112, 101, 32]⟩ : ByteArray) ++ KN ++ (⟨#[10, 116, 97, 103, 32]⟩ : ByteArray) ++ n ++ (⟨#[10, 116, 97, 103, 103, 101, 114, 32]⟩ : ByteArray) ++ g ++ (⟨#[10, 10]⟩ : ByteArray)).size = 7 + o.size + 6 + KN.size + 5 + n.size + 8 + g.size + 2 := by rw [ByteArray.size_append, z7]; rfl
  have z9 : ((⟨#[111, 98, 106, 101, 99, 116, 32]⟩ : ByteArray) ++ o ++ (⟨#[10, 116, 121, 112, 101, 32]⟩ : ByteArray) ++ KN ++ (⟨#[10, 116, 97, 103, 32]⟩ : ByteArray) ++ n ++ (⟨#[10, 116, 97, 103, 103, 101, 114, 32]⟩ : ByteArray) ++ g ++ (⟨#[10, 10]⟩ : ByteArray) ++ m).size = 7 + o.size + 6 + KN.size + 5 + n.size + 8 + g.size + 2 + m.size := by rw [ByteArray.size_append, z8]
  have HTB : Hid (bytesOf ((⟨#[111, 98, 106, 101, 99, 116, 32]⟩ : ByteArray) ++ o ++ (⟨#[10, 116, 121, 112, 101, 32]⟩ : ByteArray) ++ KN ++ (⟨#[10, 116, 97, 103, 32]⟩ : ByteArray) ++ n ++ (⟨#[10, 116, 97, 103, 103, 101, 114, 32]⟩ : ByteArray) ++ g ++ (⟨#[10, 10]⟩ : ByteArray) ++ m) = bytesOf (tagS o KN n g m)) := Lib.hid rfl
  have HTL : Hid (((⟨#[111, 98, 106, 101, 99, 116, 32]⟩ : ByteArray) ++ o ++ (⟨#[10, 116, 121, 112, 101, 32]⟩ : ByteArray) ++ KN ++ (⟨#[10, 116, 97, 103, 32]⟩ : ByteArray) ++ n ++ (⟨#[10, 116, 97, 103, 103, 101, 114, 32]⟩ : ByteArray) ++ g ++ (⟨#[10, 10]⟩ : ByteArray) ++ m).size = (bytesOf (tagS o KN n g m)).length) := Lib.hid (by rw [bytesOf_len]; rfl)
  have hl0 : Below w.heap.size w (w.alloc (.cells #[.string o, .int .i64 ty, .string n, .string g, .string m] 70)) := (Below.refl _ _).alloc (Nat.le_refl _) _
  have HL := Lib.hid hl0
  have HG : Hid (w.heap.size < (w.alloc (.cells #[.string o, .int .i64 ty, .string n, .string g, .string m] 70)).heap.size) := Lib.hid (by simp)
  have hk0 : ∀ i, i < 5 → (w.alloc (.cells #[.string o, .int .i64 ty, .string n, .string g, .string m] 70)).cell? ⟨w.heap.size, i, none⟩ = (#[.string o, .int .i64 ty, .string n, .string g, .string m] : Array Value)[i]? := fun i hi => by
    rw [World.cell?_alloc_at _ _ _ _ (by simp)]
  have HK0 := Lib.hid hk0
  clear hsz hl0 hk0
  go_enter Tryd.func124, Tryd.ntmps124
  go_upto_region 1 with (fail)
  generalize w.alloc (.cells #[.string o, .int .i64 ty, .string n, .string g, .string m] 70) = w0 at *
  generalize hB : w.heap.size = B at *
  have HB := Lib.hid hB
  clear hB
  have HK : Hid (∀ w', Below w0.heap.size w0 w' → ∀ i, i < 5 → w'.cell? ⟨B, i, none⟩ = (#[.string o, .int .i64 ty, .string n, .string g, .string m] : Array Value)[i]?) := Lib.hid (fun w' h i hi => (h.cell (p := ⟨B, i, none⟩) HG.out).trans (HK0.out i hi))
  clear HK0
  generalize hTL : bytesOf (tagS o KN n g m) = TL at *
  generalize hTN : TL.length = TN at *
  have HTN := Lib.hid hTN
  clear hTL hTN
  refine wp_region_ph (by kernel_rfl) [20, 21, 22] [.span 0 0, .span 0 0, .span 0 0, .span 0 0, .span 0 0, .span 0 0, .span 0 0, .span 0 0, .span 0 0, .span 0 0, .span 0 0, .span 0 0, .span 0 0, .span 0 0, .span 0 0, .span 0 0, .span 0 0, .span 0 0, .span 0 0, .span 0 0, .phase 0, .phase 1, .phase 2] [fun z9 => z9 = .pointer (some ⟨B, 0, none⟩), fun z9 => z9 = .string o, fun z9 => z9 = .string ((⟨#[111, 98, 106, 101, 99, 116, 32]⟩ : ByteArray) ++ o), fun z9 => z9 = .string ((⟨#[111, 98, 106, 101, 99, 116, 32]⟩ : ByteArray) ++ o ++ (⟨#[10, 116, 121, 112, 101, 32]⟩ : ByteArray)), fun z9 => z9 = .pointer (some ⟨B, 1, none⟩), fun z9 => z9 = .int .i64 ty, fun z9 => z9 = .string KN, fun z9 => z9 = .string ((⟨#[111, 98, 106, 101, 99, 116, 32]⟩ : ByteArray) ++ o ++ (⟨#[10, 116, 121, 112, 101, 32]⟩ : ByteArray) ++ KN), fun z9 => z9 = .string ((⟨#[111, 98, 106, 101, 99, 116, 32]⟩ : ByteArray) ++ o ++ (⟨#[10, 116, 121, 112, 101, 32]⟩ : ByteArray) ++ KN ++ (⟨#[10, 116, 97, 103, 32]⟩ : ByteArray)), fun z9 => z9 = .pointer (some ⟨B, 2, none⟩), fun z9 => z9 = .string n, fun z9 => z9 = .string ((⟨#[111, 98, 106, 101, 99, 116, 32]⟩ : ByteArray) ++ o ++ (⟨#[10, 116, 121, 112, 101, 32]⟩ : ByteArray) ++ KN ++ (⟨#[10, 116, 97, 103, 32]⟩ : ByteArray) ++ n), fun z9 => z9 = .string ((⟨#[111, 98, 106, 101, 99, 116, 32]⟩ : ByteArray) ++ o ++ (⟨#[10, 116, 121, 112, 101, 32]⟩ : ByteArray) ++ KN ++ (⟨#[10, 116, 97, 103, 32]⟩ : ByteArray) ++ n ++ (⟨#[10, 116, 97, 103, 103, 101, 114, 32]⟩ : ByteArray)), fun z9 => z9 = .pointer (some ⟨B, 3, none⟩), fun z9 => z9 = .string g, fun z9 => z9 = .string ((⟨#[111, 98, 106, 101, 99, 116, 32]⟩ : ByteArray) ++ o ++ (⟨#[10, 116, 121, 112, 101, 32]⟩ : ByteArray) ++ KN ++ (⟨#[10, 116, 97, 103, 32]⟩ : ByteArray) ++ n ++ (⟨#[10, 116, 97, 103, 103, 101, 114, 32]⟩ : ByteArray) ++ g), fun z9 => z9 = .string ((⟨#[111, 98, 106, 101, 99, 116, 32]⟩ : ByteArray) ++ o ++ (⟨#[10, 116, 121, 112, 101, 32]⟩ : ByteArray) ++ KN ++ (⟨#[10, 116, 97, 103, 32]⟩ : ByteArray) ++ n ++ (⟨#[10, 116, 97, 103, 103, 101, 114, 32]⟩ : ByteArray) ++ g ++ (⟨#[10, 10]⟩ : ByteArray)), fun z9 => z9 = .pointer (some ⟨B, 4, none⟩), fun z9 => z9 = .string m, fun z9 => z9 = .string ((⟨#[111, 98, 106, 101, 99, 116, 32]⟩ : ByteArray) ++ o ++ (⟨#[10, 116, 121, 112, 101, 32]⟩ : ByteArray) ++ KN ++ (⟨#[10, 116, 97, 103, 32]⟩ : ByteArray) ++ n ++ (⟨#[10, 116, 97, 103, 103, 101, 114, 32]⟩ : ByteArray) ++ g ++ (⟨#[10, 10]⟩ : ByteArray) ++ m), fun _ => True, fun _ => True, fun _ => True] ((ITg w0 TN TL)) (by kernel_rfl) (by kernel_rfl) (by kernel_rfl) (by kernel_rfl) (by kernel_rfl) (by kernel_rfl) rfl rfl ((show Below w0.heap.size w0 w0.drew from (Below.refl _ _).drew)) ?steps ?done
  case steps =>
    refine ⟨?_, ?_, ?_, ?_, ?_, ?_, ?_, ?_, ?_, ?_, ?_, ?_, ?_, ?_, ?_, ?_, ?_, ?_, ?_, ?_, ?_, ?_, ?_, trivial⟩
    · intro us au w1 k0 hlo hhi ha hd hst hI
      obtain rfl : k0 = 0 := by omega
      have q1 := slot_far (t := 1) (v := .pointer (some ⟨B, 0, none⟩)) ha (by kernel_rfl) (by kernel_rfl)
      have p1 := slot_norm q1
      clear ha hd hst
      exact StepI.pure (v := .pointer (some ⟨B, 0, none⟩)) rfl rfl (by go_simp) ⟨rfl, hI⟩
    · intro us au w1 k1 hlo hhi ha hd hst hI
      obtain rfl : k1 = 0 := by omega
      have e0 := hd 0 _ (by kernel_rfl) rfl
      have q3 := slot_at (t := 3) 0 ha (by kernel_rfl) (by kernel_rfl) (by kernel_rfl) e0
      have p3 := slot_norm q3
      clear ha hd hst
      have kk := HK.out w1 hI 0 (by decide)
      simp only [List.getElem?_toArray] at kk
      exact StepI.pure (v := .string o) rfl rfl (by go_simp) ⟨rfl, hI⟩
    · intro us au w1 k2 hlo hhi ha hd hst hI
      obtain rfl : k2 = 0 := by omega
      have e1 := hd 1 _ (by kernel_rfl) rfl
      have q4 := slot_at (t := 4) 1 ha (by kernel_rfl) (by kernel_rfl) (by kernel_rfl) e1
      have p4 := slot_norm q4
      clear ha hd hst
      exact StepI.pure (v := .string ((⟨#[111, 98, 106, 101, 99, 116, 32]⟩ : ByteArray) ++ o)) rfl rfl (by go_simp; try omega) ⟨rfl, hI⟩
    · intro us au w1 k3 hlo hhi ha hd hst hI
      obtain rfl : k3 = 0 := by omega
      have e2 := hd 2 _ (by kernel_rfl) rfl
      have q5 := slot_at (t := 5) 2 ha (by kernel_rfl) (by kernel_rfl) (by kernel_rfl) e2
      have p5 := slot_norm q5
      clear ha hd hst
      exact StepI.pure (v := .string ((⟨#[111, 98, 106, 101, 99, 116, 32]⟩ : ByteArray) ++ o ++ (⟨#[10, 116, 121, 112, 101, 32]⟩ : ByteArray))) rfl rfl (by go_simp; try omega) ⟨rfl, hI⟩
    · intro us au w1 k4 hlo hhi ha hd hst hI
      obtain rfl : k4 = 0 := by omega
      have q1 := slot_far (t := 1) (v := .pointer (some ⟨B, 0, none⟩)) ha (by kernel_rfl) (by kernel_rfl)
      have p1 := slot_norm q1
      clear ha hd hst
      exact StepI.pure (v := .pointer (some ⟨B, 1, none⟩)) rfl rfl (by go_simp) ⟨rfl, hI⟩
    · intro us au w1 k5 hlo hhi ha hd hst hI
      obtain rfl : k5 = 0 := by omega
      have e4 := hd 4 _ (by kernel_rfl) rfl
      have q7 := slot_at (t := 7) 4 ha (by kernel_rfl) (by kernel_rfl) (by kernel_rfl) e4
      have p7 := slot_norm q7
      clear ha hd hst
      have kk := HK.out w1 hI 1 (by decide)
      simp only [List.getElem?_toArray] at kk
      exact StepI.pure (v := .int .i64 ty) rfl rfl (by go_simp) ⟨rfl, hI⟩
    · intro us au w1 k6 hlo hhi ha hd hst hI
      obtain rfl : k6 = 0 := by omega
      have e5 := hd 5 _ (by kernel_rfl) rfl
      have q8 := slot_at (t := 8) 5 ha (by kernel_rfl) (by kernel_rfl) (by kernel_rfl) e5
      have p8 := slot_norm q8
      clear ha hd hst
      refine StepI.call (f := 11) (args := #[.int .i64 ty]) rfl rfl (by go_simp) ?_
      refine (HNM.out w1).mono ?_
      rintro e w5 ⟨rfl, hb⟩
      exact ⟨_, rfl, rfl, Below.trans hI (hb.mono (Below.size hI))⟩
    · intro us au w1 k7 hlo hhi ha hd hst hI
      obtain rfl : k7 = 0 := by omega
      have e3 := hd 3 _ (by kernel_rfl) rfl
      have e6 := hd 6 _ (by kernel_rfl) rfl
      have q6 := slot_at (t := 6) 3 ha (by kernel_rfl) (by kernel_rfl) (by kernel_rfl) e3
      have p6 := slot_norm q6
      have q9 := slot_at (t := 9) 6 ha (by kernel_rfl) (by kernel_rfl) (by kernel_rfl) e6
      have p9 := slot_norm q9
      clear ha hd hst
      exact StepI.pure (v := .string ((⟨#[111, 98, 106, 101, 99, 116, 32]⟩ : ByteArray) ++ o ++ (⟨#[10, 116, 121, 112, 101, 32]⟩ : ByteArray) ++ KN)) rfl rfl (by go_simp; try omega) ⟨rfl, hI⟩
    · intro us au w1 k8 hlo hhi ha hd hst hI
      obtain rfl : k8 = 0 := by omega
      have e7 := hd 7 _ (by kernel_rfl) rfl
      have q10 := slot_at (t := 10) 7 ha (by kernel_rfl) (by kernel_rfl) (by kernel_rfl) e7
      have p10 := slot_norm q10
      clear ha hd hst
      exact StepI.pure (v := .string ((⟨#[111, 98, 106, 101, 99, 116, 32]⟩ : ByteArray) ++ o ++ (⟨#[10, 116, 121, 112, 101, 32]⟩ : ByteArray) ++ KN ++ (⟨#[10, 116, 97, 103, 32]⟩ : ByteArray))) rfl rfl (by go_simp; try omega) ⟨rfl, hI⟩
    · intro us au w1 k9 hlo hhi ha hd hst hI
      obtain rfl : k9 = 0 := by omega
      have q1 := slot_far (t := 1) (v := .pointer (some ⟨B, 0, none⟩)) ha (by kernel_rfl) (by kernel_rfl)
      have p1 := slot_norm q1
      clear ha hd hst
      exact StepI.pure (v := .pointer (some ⟨B, 2, none⟩)) rfl rfl (by go_simp) ⟨rfl, hI⟩
    · intro us au w1 k10 hlo hhi ha hd hst hI
      obtain rfl : k10 = 0 := by omega
      have e9 := hd 9 _ (by kernel_rfl) rfl
      have q12 := slot_at (t := 12) 9 ha (by kernel_rfl) (by kernel_rfl) (by kernel_rfl) e9
      have p12 := slot_norm q12
      clear ha hd hst
      have kk := HK.out w1 hI 2 (by decide)
      simp only [List.getElem?_toArray] at kk
      exact StepI.pure (v := .string n) rfl rfl (by go_simp) ⟨rfl, hI⟩
    · intro us au w1 k11 hlo hhi ha hd hst hI
      obtain rfl : k11 = 0 := by omega
      have e8 := hd 8 _ (by kernel_rfl) rfl
      have e10 := hd 10 _ (by kernel_rfl) rfl
      have q11 := slot_at (t := 11) 8 ha (by kernel_rfl) (by kernel_rfl) (by kernel_rfl) e8
      have p11 := slot_norm q11
      have q13 := slot_at (t := 13) 10 ha (by kernel_rfl) (by kernel_rfl) (by kernel_rfl) e10
      have p13 := slot_norm q13
      clear ha hd hst
      exact StepI.pure (v := .string ((⟨#[111, 98, 106, 101, 99, 116, 32]⟩ : ByteArray) ++ o ++ (⟨#[10, 116, 121, 112, 101, 32]⟩ : ByteArray) ++ KN ++ (⟨#[10, 116, 97, 103, 32]⟩ : ByteArray) ++ n)) rfl rfl (by go_simp; try omega) ⟨rfl, hI⟩
    · intro us au w1 k12 hlo hhi ha hd hst hI
      obtain rfl : k12 = 0 := by omega
      have e11 := hd 11 _ (by kernel_rfl) rfl
      have q14 := slot_at (t := 14) 11 ha (by kernel_rfl) (by kernel_rfl) (by kernel_rfl) e11
      have p14 := slot_norm q14
      clear ha hd hst
      exact StepI.pure (v := .string ((⟨#[111, 98, 106, 101, 99, 116, 32]⟩ : ByteArray) ++ o ++ (⟨#[10, 116, 121, 112, 101, 32]⟩ : ByteArray) ++ KN ++ (⟨#[10, 116, 97, 103, 32]⟩ : ByteArray) ++ n ++ (⟨#[10, 116, 97, 103, 103, 101, 114, 32]⟩ : ByteArray))) rfl rfl (by go_simp; try omega) ⟨rfl, hI⟩
    · intro us au w1 k13 hlo hhi ha hd hst hI
      obtain rfl : k13 = 0 := by omega
      have q1 := slot_far (t := 1) (v := .pointer (some ⟨B, 0, none⟩)) ha (by kernel_rfl) (by kernel_rfl)
      have p1 := slot_norm q1
      clear ha hd hst
      exact StepI.pure (v := .pointer (some ⟨B, 3, none⟩)) rfl rfl (by go_simp) ⟨rfl, hI⟩
    · intro us au w1 k14 hlo hhi ha hd hst hI
      obtain rfl : k14 = 0 := by omega
      have e13 := hd 13 _ (by kernel_rfl) rfl
      have q16 := slot_at (t := 16) 13 ha (by kernel_rfl) (by kernel_rfl) (by kernel_rfl) e13
      have p16 := slot_norm q16
      clear ha hd hst
      have kk := HK.out w1 hI 3 (by decide)
      simp only [List.getElem?_toArray] at kk
      exact StepI.pure (v := .string g) rfl rfl (by go_simp) ⟨rfl, hI⟩
    · intro us au w1 k15 hlo hhi ha hd hst hI
      obtain rfl : k15 = 0 := by omega
      have e12 := hd 12 _ (by kernel_rfl) rfl
      have e14 := hd 14 _ (by kernel_rfl) rfl
      have q15 := slot_at (t := 15) 12 ha (by kernel_rfl) (by kernel_rfl) (by kernel_rfl) e12
      have p15 := slot_norm q15
      have q17 := slot_at (t := 17) 14 ha (by kernel_rfl) (by kernel_rfl) (by kernel_rfl) e14
      have p17 := slot_norm q17
      clear ha hd hst
      exact StepI.pure (v := .string ((⟨#[111, 98, 106, 101, 99, 116, 32]⟩ : ByteArray) ++ o ++ (⟨#[10, 116, 121, 112, 101, 32]⟩ : ByteArray) ++ KN ++ (⟨#[10, 116, 97, 103, 32]⟩ : ByteArray) ++ n ++ (⟨#[10, 116, 97, 103, 103, 101, 114, 32]⟩ : ByteArray) ++ g)) rfl rfl (by go_simp; try omega) ⟨rfl, hI⟩
    · intro us au w1 k16 hlo hhi ha hd hst hI
      obtain rfl : k16 = 0 := by omega
      have e15 := hd 15 _ (by kernel_rfl) rfl
      have q18 := slot_at (t := 18) 15 ha (by kernel_rfl) (by kernel_rfl) (by kernel_rfl) e15
      have p18 := slot_norm q18
      clear ha hd hst
      exact StepI.pure (v := .string ((⟨#[111, 98, 106, 101, 99, 116, 32]⟩ : ByteArray) ++ o ++ (⟨#[10, 116, 121, 112, 101, 32]⟩ : ByteArray) ++ KN ++ (⟨#[10, 116, 97, 103, 32]⟩ : ByteArray) ++ n ++ (⟨#[10, 116, 97, 103, 103, 101, 114, 32]⟩ : ByteArray) ++ g ++ (⟨#[10, 10]⟩ : ByteArray))) rfl rfl (by go_simp; try omega) ⟨rfl, hI⟩
    · intro us au w1 k17 hlo hhi ha hd hst hI
      obtain rfl : k17 = 0 := by omega
      have q1 := slot_far (t := 1) (v := .pointer (some ⟨B, 0, none⟩)) ha (by kernel_rfl) (by kernel_rfl)
      have p1 := slot_norm q1
      clear ha hd hst
      exact StepI.pure (v := .pointer (some ⟨B, 4, none⟩)) rfl rfl (by go_simp) ⟨rfl, hI⟩
    · intro us au w1 k18 hlo hhi ha hd hst hI
      obtain rfl : k18 = 0 := by omega
      have e17 := hd 17 _ (by kernel_rfl) rfl
      have q20 := slot_at (t := 20) 17 ha (by kernel_rfl) (by kernel_rfl) (by kernel_rfl) e17
      have p20 := slot_norm q20
      clear ha hd hst
      have kk := HK.out w1 hI 4 (by decide)
      simp only [List.getElem?_toArray] at kk
      exact StepI.pure (v := .string m) rfl rfl (by go_simp) ⟨rfl, hI⟩
    · intro us au w1 k19 hlo hhi ha hd hst hI
      obtain rfl : k19 = 0 := by omega
      have e16 := hd 16 _ (by kernel_rfl) rfl
      have e18 := hd 18 _ (by kernel_rfl) rfl
      have q19 := slot_at (t := 19) 16 ha (by kernel_rfl) (by kernel_rfl) (by kernel_rfl) e16
      have p19 := slot_norm q19
      have q21 := slot_at (t := 21) 18 ha (by kernel_rfl) (by kernel_rfl) (by kernel_rfl) e18
      have p21 := slot_norm q21
      clear ha hd hst
      exact StepI.pure (v := .string ((⟨#[111, 98, 106, 101, 99, 116, 32]⟩ : ByteArray) ++ o ++ (⟨#[10, 116, 121, 112, 101, 32]⟩ : ByteArray) ++ KN ++ (⟨#[10, 116, 97, 103, 32]⟩ : ByteArray) ++ n ++ (⟨#[10, 116, 97, 103, 103, 101, 114, 32]⟩ : ByteArray) ++ g ++ (⟨#[10, 10]⟩ : ByteArray) ++ m)) rfl rfl (by go_simp; try omega) ⟨rfl, hI⟩
    · intro us au w1 ha hd hst hI
      have e19 := hd 19 _ (by kernel_rfl) rfl
      have q22 := slot_at (t := 22) 19 ha (by kernel_rfl) (by kernel_rfl) (by kernel_rfl) e19
      have p22 := slot_norm q22
      clear ha hd hst
      obtain ⟨A, cap, w5, hr, ho, _, _, hb5⟩ := run_convO w1 ((⟨#[111, 98, 106, 101, 99, 116, 32]⟩ : ByteArray) ++ o ++ (⟨#[10, 116, 121, 112, 101, 32]⟩ : ByteArray) ++ KN ++ (⟨#[10, 116, 97, 103, 32]⟩ : ByteArray) ++ n ++ (⟨#[10, 116, 97, 103, 103, 101, 114, 32]⟩ : ByteArray) ++ g ++ (⟨#[10, 10]⟩ : ByteArray) ++ m) (by rw [z9]; have := HSZ.out; omega)
      rw [HTL.out] at ho hr
      exact StepI.runs (v := .slice A TN cap) (w' := w5) rfl rfl (by go_simp) ⟨trivial, Below.trans hI (hb5.mono (Below.size hI)), A, cap, rfl, by rw [← HTB.out]; exact ho.base_ (Below.size hI)⟩
    · intro us au w1 ha hd hst hI
      obtain ⟨e20⟩ := hd 20 _ (by kernel_rfl) rfl
      have q23 := slot_at (t := 23) 20 ha (by kernel_rfl) (by kernel_rfl) (by kernel_rfl) (Eq.refl (us 20))
      have p23 := slot_norm q23
      clear ha hd hst
      obtain ⟨hb, A, cap, hv, ho⟩ := hI
      rw [hv] at p23
      refine StepI.call (f := 116) (args := #[.slice A TN cap]) rfl rfl (by go_simp) ?_
      refine (clip_any A TN cap w1 ho.cap ho.capm).mono ?_
      rintro e w5 ⟨rfl, rfl⟩
      exact ⟨_, rfl, trivial, hb, A, rfl, ho.clip⟩
    · intro us au w1 ha hd hst hI
      obtain ⟨e21⟩ := hd 21 _ (by kernel_rfl) rfl
      have q24 := slot_at (t := 24) 21 ha (by kernel_rfl) (by kernel_rfl) (by kernel_rfl) (Eq.refl (us 21))
      have p24 := slot_norm q24
      clear ha hd hst
      obtain ⟨hb, A, hv, ho⟩ := hI
      rw [hv] at p24
      exact StepI.pure (v := .slice A TN TN) rfl rfl (by go_simp) ⟨trivial, hb, A, rfl, ho⟩
  case done =>
    intro us w1 hI hd
    obtain ⟨hb, A, hv, ho⟩ := hI
    have HO := Lib.hid ho
    have HW := Lib.hid hb
    clear hd hb ho
    simp only [putAll, hv]
    go_simp
    go_wp2
    go_ret
    exact ⟨A, by rw [HTN.out]; rfl, by rw [HTN.out]; exact HO.out.base_ (by rw [HB.out]; exact Nat.le_of_lt HG.out), by rw [HB.out]; exact HL.out.trans (HW.out.mono (Nat.le_of_lt HG.out))⟩
set_option maxRecDepth 100000 in
theorem blobBytes_any (A : Option Addr) (N c : Nat) (L : List Int) (w : World) (hI : Ints .u8 w A L) (hN : L.length = N) (hNb : N ≤ 140737488355000) (hA : A = none → N = 0) :
    Calls Tryd.prog 127 #[.agg #[.slice A N c]] w (BytesPost w L) := by
  have hl0 : Below w.heap.size w (w.alloc (.cells #[.slice A N c] 72)) := (Below.refl _ _).alloc (Nat.le_refl _) _
  have HL := Lib.hid hl0
  have k0 : (w.alloc (.cells #[.slice A N c] 72)).cell? ⟨w.heap.size, 0, none⟩ = some (.slice A N c) := by rw [World.cell?_alloc_at _ _ _ _ (by simp)]; rfl
  have HI := Lib.hid (hI.below hl0)
  have HG : Hid (w.heap.size ≤ (w.alloc (.cells #[.slice A N c] 72)).heap.size) := Lib.hid (by simp)
  have HN := Lib.hid hN
  have HA := Lib.hid hA
  clear hI hN hl0 hA
  go_enter Tryd.func127, Tryd.ntmps127
  go_upto_region 1 with (fail)
  generalize w.alloc (.cells #[.slice A N c] 72) = w0 at *
  go_wp2_with fail
  refine (clone_any A N c L w0 HI.out HN.out hNb HA.out).mono ?_
  rintro e w2 ⟨A2, c2, rfl, ho2, hb2⟩
  have HCP := ho2.cap
  have HCM := ho2.capm
  have HO := Lib.hid ho2
  have HB2 := Lib.hid hb2
  clear ho2 hb2
  go_wp2_with (go_at_call 116; refine (clip_any _ _ _ _ HCP HCM).mono ?_; rintro e w10 ⟨rfl, rfl⟩)
  go_ret
  exact ⟨A2, by rw [HN.out]; rfl, by rw [HN.out]; exact (HO.out.clip).base_ HG.out, HL.out.trans (HB2.out.mono HG.out)⟩
end Go.Proofs.YtdlabapfcghfmaaDoor
namespace Go.Proofs.YtdlabapfcghfmaaDoor
open Go.RowKit
set_option linter.unusedVariables false
set_option linter.unusedSimpArgs false

set_option maxRecDepth 100000 in
set_option maxHeartbeats 4000000 in
theorem makeTree_any (d : ByteArray) (AA : Option Addr) (NN CC : Nat) (t : ByteArray) (vP : Value) (a c o n : ByteArray) (ty : Int) (g m : ByteArray) (w : World) :
    Calls Tryd.prog 21 #[.agg #[.int .i64 2, .string d, .slice AA NN CC, .string t, vP, .string a, .string c, .string o, .string n, .int .i64 ty, .string g, .string m]] w fun e w' => e = .returned (.iface 66 (.agg #[.slice AA NN CC])) ∧ Below w.heap.size w w' := by
  have hl0 : Below w.heap.size w (w.alloc (.cells #[.int .i64 2, .string d, .slice AA NN CC, .string t, vP, .string a, .string c, .string o, .string n, .int .i64 ty, .string g, .string m] 40)) := (Below.refl _ _).alloc (Nat.le_refl _) _
  have ho0 := O8At.new w 2 d (.slice AA NN CC) t vP a c o n ty g m
  go_enter Tryd.func21, Tryd.ntmps21
  go_upto_region 1 with (fail)
  generalize w.alloc (.cells #[.int .i64 2, .string d, .slice AA NN CC, .string t, vP, .string a, .string c, .string o, .string n, .int .i64 ty, .string g, .string m] 40) = w0 at *
  have k0 := ho0.c0
  have k1 := ho0.c1
  have k2 := ho0.c2
  have k3 := ho0.c3
  have k4 := ho0.c4
  have k5 := ho0.c5
  have k6 := ho0.c6
  have k7 := ho0.c7
  have k8 := ho0.c8
  have k9 := ho0.c9
  have k10 := ho0.c10
  have k11 := ho0.c11
  have HL := Lib.hid hl0
  clear ho0 hl0
  go_wp2
  go_ret
  exact ⟨rfl, HL.out⟩
set_option maxRecDepth 100000 in
set_option maxHeartbeats 4000000 in
theorem makeCommit_any (d : ByteArray) (vL : Value) (t : ByteArray) (AA : Option Addr) (NN CC : Nat) (a c o n : ByteArray) (ty : Int) (g m : ByteArray) (w : World) :
    Calls Tryd.prog 21 #[.agg #[.int .i64 1, .string d, vL, .string t, .slice AA NN CC, .string a, .string c, .string o, .string n, .int .i64 ty, .string g, .string m]] w fun e w' => e = .returned (.iface 68 (.agg #[.string t, .slice AA NN CC, .string a, .string c, .string m])) ∧ Below w.heap.size w w' := by
  have hl0 : Below w.heap.size w (w.alloc (.cells #[.int .i64 1, .string d, vL, .string t, .slice AA NN CC, .string a, .string c, .string o, .string n, .int .i64 ty, .string g, .string m] 40)) := (Below.refl _ _).alloc (Nat.le_refl _) _
  have ho0 := O8At.new w 1 d vL t (.slice AA NN CC) a c o n ty g m
  go_enter Tryd.func21, Tryd.ntmps21
  go_upto_region 1 with (fail)
  generalize w.alloc (.cells #[.int .i64 1, .string d, vL, .string t, .slice AA NN CC, .string a, .string c, .string o, .string n, .int .i64 ty, .string g, .string m] 40) = w0 at *
  have k0 := ho0.c0
  have k1 := ho0.c1
  have k2 := ho0.c2
  have k3 := ho0.c3
  have k4 := ho0.c4
  have k5 := ho0.c5
  have k6 := ho0.c6
  have k7 := ho0.c7
  have k8 := ho0.c8
  have k9 := ho0.c9
  have k10 := ho0.c10
  have k11 := ho0.c11
  have HL := Lib.hid hl0
  clear ho0 hl0
  go_wp2
  go_ret
  exact ⟨rfl, HL.out⟩
set_option maxRecDepth 100000 in
set_option maxHeartbeats 4000000 in
theorem makeTag_any (d : ByteArray) (vL : Value) (t : ByteArray) (vP : Value) (a c o n : ByteArray) (ty : Int) (g m : ByteArray) (w : World) :
    Calls Tryd.prog 21 #[.agg #[.int .i64 4, .string d, vL, .string t, vP, .string a, .string c, .string o, .string n, .int .i64 ty, .string g, .string m]] w fun e w' => e = .returned (.iface 70 (.agg #[.string o, .int .i64 ty, .string n, .string g, .string m])) ∧ Below w.heap.size w w' := by
  have hl0 : Below w.heap.size w (w.alloc (.cells #[.int .i64 4, .string d, vL, .string t, vP, .string a, .string c, .string o, .string n, .int .i64 ty, .string g, .string m] 40)) := (Below.refl _ _).alloc (Nat.le_refl _) _
  have ho0 := O8At.new w 4 d vL t vP a c o n ty g m
  go_enter Tryd.func21, Tryd.ntmps21
  go_upto_region 1 with (fail)
  generalize w.alloc (.cells #[.int .i64 4, .string d, vL, .string t, vP, .string a, .string c, .string o, .string n, .int .i64 ty, .string g, .string m] 40) = w0 at *
  have k0 := ho0.c0
  have k1 := ho0.c1
  have k2 := ho0.c2
  have k3 := ho0.c3
  have k4 := ho0.c4
  have k5 := ho0.c5
  have k6 := ho0.c6
  have k7 := ho0.c7
  have k8 := ho0.c8
  have k9 := ho0.c9
  have k10 := ho0.c10
  have k11 := ho0.c11
  have HL := Lib.hid hl0
  clear ho0 hl0
  go_wp2
  go_ret
  exact ⟨rfl, HL.out⟩
set_option maxRecDepth 100000 in
set_option maxHeartbeats 4000000 in
theorem makeBlob_any (d : ByteArray) (vL : Value) (t : ByteArray) (vP : Value) (a c o n : ByteArray) (ty : Int) (g m : ByteArray) (w : World) (hd : d.size ≤ 140737488351300) :
    Calls Tryd.prog 21 #[.agg #[.int .i64 3, .string d, vL, .string t, vP, .string a, .string c, .string o, .string n, .int .i64 ty, .string g, .string m]] w fun e w' => ∃ A c, e = .returned (.iface 72 (.agg #[.slice A d.size c])) ∧ OwnS w' w.heap.size 5 1 (.slice A d.size c) d.size ((bytesOf d).map (Value.int .u8)) ∧ (A = none → d.size = 0) ∧ Below w.heap.size w w' := by
  have hl0 : Below w.heap.size w (w.alloc (.cells #[.int .i64 3, .string d, vL, .string t, vP, .string a, .string c, .string o, .string n, .int .i64 ty, .string g, .string m] 40)) := (Below.refl _ _).alloc (Nat.le_refl _) _
  have ho0 := O8At.new w 3 d vL t vP a c o n ty g m
  go_enter Tryd.func21, Tryd.ntmps21
  go_upto_region 1 with (fail)
  generalize w.alloc (.cells #[.int .i64 3, .string d, vL, .string t, vP, .string a, .string c, .string o, .string n, .int .i64 ty, .string g, .string m] 40) = w0 at *
  have k0 := ho0.c0
  have k1 := ho0.c1
  have k2 := ho0.c2
  have k3 := ho0.c3
  have k4 := ho0.c4
  have k5 := ho0.c5
  have k6 := ho0.c6
  have k7 := ho0.c7
  have k8 := ho0.c8
  have k9 := ho0.c9
  have k10 := ho0.c10
  have k11 := ho0.c11
  have HL := Lib.hid hl0
  clear ho0 hl0
  have HG : Hid (w.heap.size ≤ w0.heap.size) := Lib.hid HL.out.size
  go_wp2_with (refine wpList_convO rfl (.tmp 40) rfl d d.size (bytesOf d) rfl rfl rfl hd ?_; intro A9 c9 w9 ho9 hc9 hm9 hb9)
  go_ret
  exact ⟨A9, c9, rfl, ho9.base_ HG.out, (fun h => by subst h; rcases ho9.2 with ⟨hv, hx⟩ | ⟨g, off, cap, cur, hv, _⟩ <;> injection hv with h1 h2 h3 <;> first | exact h2 | cases h1), HL.out.trans (hb9.mono HG.out)⟩
theorem kindTree (v : Value) (w : World) : Calls Tryd.prog 113 #[.agg #[v]] w fun e w' => e = .returned (.int .i64 2) ∧ Below w.heap.size w w' := by
  go_enter Tryd.func113, Tryd.ntmps113
  go_wp2
  go_ret
  exact ⟨rfl, (Below.refl _ _).alloc (Nat.le_refl _) _⟩
theorem kindBlob (v : Value) (w : World) : Calls Tryd.prog 128 #[.agg #[v]] w fun e w' => e = .returned (.int .i64 3) ∧ Below w.heap.size w w' := by
  go_enter Tryd.func128, Tryd.ntmps128
  go_wp2
  go_ret
  exact ⟨rfl, (Below.refl _ _).alloc (Nat.le_refl _) _⟩
theorem kindCommit (v0 v1 v2 v3 v4 : Value) (w : World) : Calls Tryd.prog 118 #[.agg #[v0, v1, v2, v3, v4]] w fun e w' => e = .returned (.int .i64 1) ∧ Below w.heap.size w w' := by
  go_enter Tryd.func118, Tryd.ntmps118
  go_wp2
  go_ret
  exact ⟨rfl, (Below.refl _ _).alloc (Nat.le_refl _) _⟩
theorem kindTag (v0 v1 v2 v3 v4 : Value) (w : World) : Calls Tryd.prog 125 #[.agg #[v0, v1, v2, v3, v4]] w fun e w' => e = .returned (.int .i64 4) ∧ Below w.heap.size w w' := by
  go_enter Tryd.func125, Tryd.ntmps125
  go_wp2
  go_ret
  exact ⟨rfl, (Below.refl _ _).alloc (Nat.le_refl _) _⟩
end Go.Proofs.YtdlabapfcghfmaaDoor
namespace Go.Proofs.YtdlabapfcghfmaaDoor
open Go.RowKit
set_option linter.unusedVariables false
set_option linter.unusedSimpArgs false

/-- A call through an interface. -/
theorem run_invoke {P : Program} {o : Oper} {ρ : Operand → Value} {x : Operand} {name : String} {t : TypeId} {v r : Value} {f : FuncId} {w : World}
    (ho : o.op = .call { callee := .invoke x name, args := #[], argTypes := #[] }) (hx : ρ x = .iface t v) (hm : (method (P.types.size + Made.depth) t v name).run P w = .ok (f, r) w) (hc : (callFunc f #[r]).run P w = .ok (.enter f #[r]) w) :
    (execOp ρ o).run P w = .ok (.enter f #[r]) w := by
  have hp : (program).run P w = .ok P w := rfl
  unfold execOp
  simp only [ho, resolve, invoke, callMethod, hx, Sem.run_bind, Sem.run_pure, Result.andThen_ok, List.map_toArray, List.map_nil, hp]
  simp [Sem.run_bind, hp, hm, hc, callMethod]
def SlB (w : World) (v : Value) (L : List Int) (n : Nat) : Prop := ∃ A c, v = .slice A n c ∧ Ints .u8 w A L
theorem SlB.below {w w' : World} {v : Value} {L : List Int} {n : Nat} (h : SlB w v L n) (hb : Below w.heap.size w w') : SlB w' v L n := by
  obtain ⟨A, c, h1, h2⟩ := h
  exact ⟨A, c, h1, h2.below hb⟩
def IPr (w0 : World) (L : List Int) (n : Nat) : List Value → World → Prop
  | [], w => Below w0.heap.size w0 w
  | v :: _, w => Below w0.heap.size w0 w ∧ SlB w v L n
theorem IPr.bel {w0 : World} {L : List Int} {n : Nat} {us : List Value} {w : World} (h : IPr w0 L n us w) : Below w0.heap.size w0 w := by
  match us, h with
  | [], h => exact h
  | _ :: _, h => exact h.1
theorem IPr.mono {w0 : World} {L : List Int} {n : Nat} {us : List Value} {w w' : World} (h : IPr w0 L n us w) (hb : Below w.heap.size w w') : IPr w0 L n us w' := by
  have hB := h.bel.trans (hb.mono h.bel.size)
  match us, h with
  | [], h => exact hB
  | _ :: _, h => exact ⟨hB, h.2.below hb⟩
set_option maxRecDepth 100000 in
set_option maxHeartbeats 4000000 in
theorem printsTree (d : ByteArray) (AA : Option Addr) (NN CC : Nat) (t : ByteArray) (vP : Value) (a c o n : ByteArray) (ty : Int) (g m : ByteArray) (w : World) (hE : EnvO w) (L : List Ent) (hEA : EntsAt w AA L) (hN : L.length = NN) (hNb : NN ≤ 140737488355328) (hid : ∀ x ∈ L, x.i.size ≤ 140737488351232) (hsz : (treeL L).length ≤ 140737488351300) :
    Calls Tryd.prog 5 #[.agg #[.int .i64 2, .string d, .slice AA NN CC, .string t, vP, .string a, .string c, .string o, .string n, .int .i64 ty, .string g, .string m]] w fun e w' => e = .returned (.bool true) ∧ Below w.heap.size w w' := by
  have HEA0 := Lib.hid (hEA.below ((Below.refl w.heap.size w).alloc (Nat.le_refl _) (.cells #[.int .i64 2, .string d, .slice AA NN CC, .string t, vP, .string a, .string c, .string o, .string n, .int .i64 ty, .string g, .string m] 40)))
  have HTB := Lib.hid (fun w h => treeBytes_any AA NN CC L w h hN hNb hid hsz)
  have HTR := Lib.hid (fun w h => refTree_any d AA NN CC L t vP a c o n ty g m w h hN hNb hid hsz)
  generalize treeL L = RL at *
  clear hEA hN hNb hid hsz
  have hl0 : Below w.heap.size w (w.alloc (.cells #[.int .i64 2, .string d, .slice AA NN CC, .string t, vP, .string a, .string c, .string o, .string n, .int .i64 ty, .string g, .string m] 40)) := (Below.refl _ _).alloc (Nat.le_refl _) _
  have ho0 := O8At.new w 2 d (.slice AA NN CC) t vP a c o n ty g m
  have HE0 := Lib.hid (hE.below hl0)
  go_enter Tryd.func5, Tryd.ntmps5
  go_upto_region 1 with (fail)
  generalize w.alloc (.cells #[.int .i64 2, .string d, .slice AA NN CC, .string t, vP, .string a, .string c, .string o, .string n, .int .i64 ty, .string g, .string m] 40) = w0 at *
  have k0 := ho0.c0
  have k1 := ho0.c1
  have k2 := ho0.c2
  have k3 := ho0.c3
  have k4 := ho0.c4
  have k5 := ho0.c5
  have k6 := ho0.c6
  have k7 := ho0.c7
  have k8 := ho0.c8
  have k9 := ho0.c9
  have k10 := ho0.c10
  have k11 := ho0.c11
  have HO0 := Lib.hid ho0
  have HL0 := Lib.hid hl0
  clear ho0 hl0 hE
  generalize hog : w.heap.size = og at *
  have HOG := Lib.hid hog
  clear hog
  go_wp2_with fail
  refine (makeTree_any d AA NN CC t vP a c o n ty g m w0).mono ?_
  rintro e w3 ⟨rfl, hb3⟩
  have HKD := Lib.hid (fun w => kindTree (.slice AA NN CC) w)
  have HO := Lib.hid (HO0.out.below hb3)
  have HE := Lib.hid (HE0.out.below hb3)
  have HL := Lib.hid (HL0.out.trans (hb3.mono (by rw [← HOG.out]; exact HL0.out.size)))
  have HBY := Lib.hid (fun w1 (h : Below w3.heap.size w3 w1) => HTB.out w1 ((HEA0.out.below hb3).below h))
  have HRB := Lib.hid (fun w1 (h : Below w3.heap.size w3 w1) => HTR.out w1 ((HEA0.out.below hb3).below h))
  clear HTB HTR HEA0
  clear k0 k1 k2 k3 k4 k5 k6 k7 k8 k9 k10 k11 hb3 HO0 HE0
  generalize hRS : strOfNums RL = RS at *
  have HRS := Lib.hid hRS
  generalize hRN : RL.length = RN at *
  have HRN := Lib.hid hRN
  clear hRS hRN
  go_upto_region 4 with (fail)
  refine wp_region_ph (by kernel_rfl) [7] [.span 0 0, .span 0 0, .span 0 0, .span 0 0, .span 0 0, .span 0 0, .span 0 0, .phase 0, .span 1 1, .span 0 1, .span 1 1, .span 1 1, .span 1 1, .span 1 1, .span 1 1, .span 1 1, .span 1 1] [fun z9 => z9 = .iface 66 (.agg #[.slice AA NN CC]), fun z9 => z9 = .int .i64 2, fun z9 => z9 = .pointer (some ⟨og, 0, none⟩), fun z9 => z9 = .int .i64 2, fun z9 => z9 = .bool true, fun z9 => z9 = .bool true, fun z9 => z9 = .iface 66 (.agg #[.slice AA NN CC]), fun _ => True, fun z9 => z9 = .string RS, fun z9 => z9 = .agg #[.int .i64 2, .string d, .slice AA NN CC, .string t, vP, .string a, .string c, .string o, .string n, .int .i64 ty, .string g, .string m], fun z9 => z9 = .string RS, fun z9 => z9 = .bool true, fun z9 => z9 = .bool true, fun z9 => z9 = .bool true, fun z9 => z9 = .bool true, fun z9 => z9 = .bool true, fun z9 => z9 = .bool true] ((IPr w3 RL RN)) (by kernel_rfl) (by kernel_rfl) (by kernel_rfl) (by kernel_rfl) (by kernel_rfl) (by kernel_rfl) rfl rfl ((show Below w3.heap.size w3 w3.drew from (Below.refl _ _).drew)) ?steps ?done
  case steps =>
    refine ⟨?_, ?_, ?_, ?_, ?_, ?_, ?_, ?_, ?_, ?_, ?_, ?_, ?_, ?_, ?_, ?_, ?_, trivial⟩
    · intro us au w1 k0 hlo hhi ha hd hst hI
      obtain rfl : k0 = 0 := by omega
      have q3 := slot_far (t := 3) (v := .iface 66 (.agg #[.slice AA NN CC])) ha (by kernel_rfl) (by kernel_rfl)
      have p3 := slot_norm q3
      clear ha hd hst
      exact StepI.pure (v := .iface 66 (.agg #[.slice AA NN CC])) rfl rfl (by go_simp) ⟨rfl, hI⟩
    · intro us au w1 k1 hlo hhi ha hd hst hI
      obtain rfl : k1 = 0 := by omega
      have e0 := hd 0 _ (by kernel_rfl) rfl
      have q15 := slot_at (t := 15) 0 ha (by kernel_rfl) (by kernel_rfl) (by kernel_rfl) e0
      have p15 := slot_norm q15
      clear ha hd hst
      refine StepI.call (f := 113) (args := #[.agg #[.slice AA NN CC]]) rfl rfl (run_invoke (x := .tmp 15) (name := "Kind") (t := 66) (v := .agg #[.slice AA NN CC]) rfl (by go_simp) (by kernel_rfl) (enters_of Tryd.func113 (by kernel_rfl) rfl _ _)) ?_
      refine (HKD.out w1).mono ?_
      rintro e w5 ⟨rfl, hb⟩
      exact ⟨_, rfl, rfl, IPr.mono hI hb⟩
    · intro us au w1 k2 hlo hhi ha hd hst hI
      obtain rfl : k2 = 0 := by omega
      have q1 := slot_far (t := 1) (v := .pointer (some ⟨og, 0, none⟩)) ha (by kernel_rfl) (by kernel_rfl)
      have p1 := slot_norm q1
      clear ha hd hst
      exact StepI.pure (v := .pointer (some ⟨og, 0, none⟩)) rfl rfl (by go_simp) ⟨rfl, hI⟩
    · intro us au w1 k3 hlo hhi ha hd hst hI
      obtain rfl : k3 = 0 := by omega
      have e2 := hd 2 _ (by kernel_rfl) rfl
      have q17 := slot_at (t := 17) 2 ha (by kernel_rfl) (by kernel_rfl) (by kernel_rfl) e2
      have p17 := slot_norm q17
      clear ha hd hst
      have kk := (HO.out.below (IPr.bel hI)).c0
      exact StepI.pure (v := .int .i64 2) rfl rfl (by go_simp) ⟨rfl, hI⟩
    · intro us au w1 k4 hlo hhi ha hd hst hI
      obtain rfl : k4 = 0 := by omega
      have e1 := hd 1 _ (by kernel_rfl) rfl
      have e3 := hd 3 _ (by kernel_rfl) rfl
      have q16 := slot_at (t := 16) 1 ha (by kernel_rfl) (by kernel_rfl) (by kernel_rfl) e1
      have p16 := slot_norm q16
      have q18 := slot_at (t := 18) 3 ha (by kernel_rfl) (by kernel_rfl) (by kernel_rfl) e3
      have p18 := slot_norm q18
      clear ha hd hst
      exact StepI.pure (v := .bool true) rfl rfl (by go_simp) ⟨rfl, hI⟩
    · intro us au w1 k5 hlo hhi ha hd hst hI
      obtain rfl : k5 = 0 := by omega
      have e4 := hd 4 _ (by kernel_rfl) rfl
      have q19 := slot_at (t := 19) 4 ha (by kernel_rfl) (by kernel_rfl) (by kernel_rfl) e4
      have p19 := slot_norm q19
      clear ha hd hst
      exact StepI.pure (v := .bool true) rfl rfl (by go_simp) ⟨rfl, hI⟩
    · intro us au w1 k6 hlo hhi ha hd hst hI
      obtain rfl : k6 = 0 := by omega
      have e5 := hd 5 _ (by kernel_rfl) rfl
      have q3 := slot_far (t := 3) (v := .iface 66 (.agg #[.slice AA NN CC])) ha (by kernel_rfl) (by kernel_rfl)
      have p3 := slot_norm q3
      have hg := slot_at (t := 20) 5 ha (by kernel_rfl) (by kernel_rfl) (by kernel_rfl) e5
      clear ha hd hst
      exact StepI.pure (v := .iface 66 (.agg #[.slice AA NN CC])) rfl (wanted_at rfl rfl hg) (by go_simp) ⟨rfl, hI⟩
    · intro us au w1 ha hd hst hI
      have e6 := hd 6 _ (by kernel_rfl) rfl
      have e5 := hd 5 _ (by kernel_rfl) rfl
      have q21 := slot_at (t := 21) 6 ha (by kernel_rfl) (by kernel_rfl) (by kernel_rfl) e6
      have p21 := slot_norm q21
      have hg := slot_at (t := 20) 5 ha (by kernel_rfl) (by kernel_rfl) (by kernel_rfl) e5
      clear ha hd hst
      refine StepI.call (f := 112) (args := #[.agg #[.slice AA NN CC]]) rfl (wanted_at rfl rfl hg) (run_invoke (x := .tmp 21) (name := "Bytes") (t := 66) (v := .agg #[.slice AA NN CC]) rfl (by go_simp) (by kernel_rfl) (enters_of Tryd.func112 (by kernel_rfl) rfl _ _)) ?_
      refine (HBY.out w1 (IPr.bel hI)).mono ?_
      rintro e w5 ⟨A5, rfl, ho5, hb5⟩
      exact ⟨_, rfl, trivial, (IPr.bel hI).trans (hb5.mono (IPr.bel hI).size), A5, _, by rw [HRN.out], ho5.ints⟩
    · intro us au w1 k8 hlo hhi ha hd hst hI
      obtain rfl : k8 = 1 := by omega
      obtain ⟨e7⟩ := hd 7 _ (by kernel_rfl) rfl
      have e5 := hd 5 _ (by kernel_rfl) rfl
      have q22 := slot_at (t := 22) 7 ha (by kernel_rfl) (by kernel_rfl) (by kernel_rfl) (Eq.refl (us 7))
      have p22 := slot_norm q22
      have hg := slot_at (t := 20) 5 ha (by kernel_rfl) (by kernel_rfl) (by kernel_rfl) e5
      clear ha hd hst
      have hI0 := hI
      obtain ⟨hb, A, c, hv, hint⟩ := hI
      have hcv := run_str_ints (P := Tryd.prog) 30 9 5 Tryd.underlying30 Tryd.underlying5 Tryd.underlying9 A c RL hint
      rw [HRS.out, HRN.out] at hcv
      rw [hv] at p22
      exact StepI.pure (v := .string RS) rfl (wanted_at rfl rfl hg) (by go_simp) ⟨rfl, hI0⟩
    · intro us au w1 k9 hlo hhi ha hd hst hI
      have e5 := hd 5 _ (by kernel_rfl) rfl
      have q1 := slot_far (t := 1) (v := .pointer (some ⟨og, 0, none⟩)) ha (by kernel_rfl) (by kernel_rfl)
      have p1 := slot_norm q1
      have hg := slot_at (t := 20) 5 ha (by kernel_rfl) (by kernel_rfl) (by kernel_rfl) e5
      clear ha hd hst
      have kk := HO.out.below (IPr.bel hI)
      have kk0 := kk.c0
      have kk1 := kk.c1
      have kk2 := kk.c2
      have kk3 := kk.c3
      have kk4 := kk.c4
      have kk5 := kk.c5
      have kk6 := kk.c6
      have kk7 := kk.c7
      have kk8 := kk.c8
      have kk9 := kk.c9
      have kk10 := kk.c10
      have kk11 := kk.c11
      exact StepI.pure (v := .agg #[.int .i64 2, .string d, .slice AA NN CC, .string t, vP, .string a, .string c, .string o, .string n, .int .i64 ty, .string g, .string m]) rfl (wanted_at rfl rfl hg) (by go_simp) ⟨rfl, hI⟩
    · intro us au w1 k10 hlo hhi ha hd hst hI
      obtain rfl : k10 = 1 := by omega
      have e9 := hd 9 _ (by kernel_rfl) rfl
      have e5 := hd 5 _ (by kernel_rfl) rfl
      have q24 := slot_at (t := 24) 9 ha (by kernel_rfl) (by kernel_rfl) (by kernel_rfl) e9
      have p24 := slot_norm q24
      have hg := slot_at (t := 20) 5 ha (by kernel_rfl) (by kernel_rfl) (by kernel_rfl) e5
      clear ha hd hst
      refine StepI.call (f := 22) (args := #[.agg #[.int .i64 2, .string d, .slice AA NN CC, .string t, vP, .string a, .string c, .string o, .string n, .int .i64 ty, .string g, .string m]]) rfl (wanted_at rfl rfl hg) (by go_simp) ?_
      refine (HRB.out w1 (IPr.bel hI)).mono ?_
      rintro e w5 ⟨rfl, hb⟩
      exact ⟨_, rfl, rfl, IPr.mono hI hb⟩
    · intro us au w1 k11 hlo hhi ha hd hst hI
      obtain rfl : k11 = 1 := by omega
      have e8 := hd 8 _ (by kernel_rfl) rfl
      have e10 := hd 10 _ (by kernel_rfl) rfl
      have e5 := hd 5 _ (by kernel_rfl) rfl
      have q23 := slot_at (t := 23) 8 ha (by kernel_rfl) (by kernel_rfl) (by kernel_rfl) e8
      have p23 := slot_norm q23
      have q25 := slot_at (t := 25) 10 ha (by kernel_rfl) (by kernel_rfl) (by kernel_rfl) e10
      have p25 := slot_norm q25
      have hg := slot_at (t := 20) 5 ha (by kernel_rfl) (by kernel_rfl) (by kernel_rfl) e5
      clear ha hd hst
      exact StepI.pure (v := .bool true) rfl (wanted_at rfl rfl hg) (by go_simp) ⟨rfl, hI⟩
    · intro us au w1 k12 hlo hhi ha hd hst hI
      obtain rfl : k12 = 1 := by omega
      have e5 := hd 5 _ (by kernel_rfl) rfl
      have e11 := hd 11 _ (by kernel_rfl) rfl
      have q20 := slot_at (t := 20) 5 ha (by kernel_rfl) (by kernel_rfl) (by kernel_rfl) e5
      have p20 := slot_norm q20
      have q26 := slot_at (t := 26) 11 ha (by kernel_rfl) (by kernel_rfl) (by kernel_rfl) e11
      have p26 := slot_norm q26
      clear ha hd hst
      exact StepI.pure (v := .bool true) rfl rfl (by go_simp) ⟨rfl, hI⟩
    · intro us au w1 k13 hlo hhi ha hd hst hI
      obtain rfl : k13 = 1 := by omega
      have e12 := hd 12 _ (by kernel_rfl) rfl
      have q27 := slot_at (t := 27) 12 ha (by kernel_rfl) (by kernel_rfl) (by kernel_rfl) e12
      have p27 := slot_norm q27
      clear ha hd hst
      exact StepI.pure (v := .bool true) rfl rfl (by go_simp) ⟨rfl, hI⟩
    · intro us au w1 k14 hlo hhi ha hd hst hI
      obtain rfl : k14 = 1 := by omega
      have e13 := hd 13 _ (by kernel_rfl) rfl
      have hg := slot_at (t := 28) 13 ha (by kernel_rfl) (by kernel_rfl) (by kernel_rfl) e13
      clear ha hd hst
      refine StepI.call (f := 8) (args := #[]) rfl (wanted_at rfl rfl hg) (by go_simp) ?_
      refine (awake8_any w1 (HE.out.below (IPr.bel hI))).mono ?_
      rintro e w5 ⟨rfl, hb⟩
      exact ⟨_, rfl, rfl, IPr.mono hI hb⟩
    · intro us au w1 k15 hlo hhi ha hd hst hI
      obtain rfl : k15 = 1 := by omega
      have e13 := hd 13 _ (by kernel_rfl) rfl
      have e14 := hd 14 _ (by kernel_rfl) rfl
      have q28 := slot_at (t := 28) 13 ha (by kernel_rfl) (by kernel_rfl) (by kernel_rfl) e13
      have p28 := slot_norm q28
      have q29 := slot_at (t := 29) 14 ha (by kernel_rfl) (by kernel_rfl) (by kernel_rfl) e14
      have p29 := slot_norm q29
      clear ha hd hst
      exact StepI.pure (v := .bool true) rfl rfl (by go_simp) ⟨rfl, hI⟩
    · intro us au w1 k16 hlo hhi ha hd hst hI
      obtain rfl : k16 = 1 := by omega
      have e15 := hd 15 _ (by kernel_rfl) rfl
      have q30 := slot_at (t := 30) 15 ha (by kernel_rfl) (by kernel_rfl) (by kernel_rfl) e15
      have p30 := slot_norm q30
      clear ha hd hst
      exact StepI.pure (v := .bool true) rfl rfl (by go_simp) ⟨rfl, hI⟩
  case done =>
    intro us w1 hI hd
    have e16 := hd 16 _ (by decide) rfl
    have HW := Lib.hid (HL.out.trans (Below.mono (IPr.bel hI) (by rw [← HOG.out]; exact HL.out.size)))
    clear hd hI
    simp only [putAll]
    go_simp
    go_wp2
    go_ret
    exact ⟨rfl, by rw [HOG.out]; exact HW.out⟩
set_option maxRecDepth 100000 in
set_option maxHeartbeats 4000000 in
theorem printsCommit (d : ByteArray) (vL : Value) (t : ByteArray) (AA : Option Addr) (NN CC : Nat) (a c o n : ByteArray) (ty : Int) (g m : ByteArray) (w : World) (hE : EnvO w) (P : List ByteArray) (hEA : StrsAt w AA P) (hN : P.length = NN) (hNb : NN ≤ 140737488355328) (hsz : (commitL t P a c m).length ≤ 140737488351300) :
    Calls Tryd.prog 5 #[.agg #[.int .i64 1, .string d, vL, .string t, .slice AA NN CC, .string a, .string c, .string o, .string n, .int .i64 ty, .string g, .string m]] w fun e w' => e = .returned (.bool true) ∧ Below w.heap.size w w' := by
  have HEA0 := Lib.hid (hEA.below ((Below.refl w.heap.size w).alloc (Nat.le_refl _) (.cells #[.int .i64 1, .string d, vL, .string t, .slice AA NN CC, .string a, .string c, .string o, .string n, .int .i64 ty, .string g, .string m] 40)))
  have HTB := Lib.hid (fun w h => commitBytes_any t AA NN CC P a c m w h hN hNb hsz)
  have HTR := Lib.hid (fun w h => refCommit_any d vL t AA NN CC P a c o n ty g m w h hN hNb hsz)
  generalize commitL t P a c m = RL at *
  clear hEA hN hNb hsz
  have hl0 : Below w.heap.size w (w.alloc (.cells #[.int .i64 1, .string d, vL, .string t, .slice AA NN CC, .string a, .string c, .string o, .string n, .int .i64 ty, .string g, .string m] 40)) := (Below.refl _ _).alloc (Nat.le_refl _) _
  have ho0 := O8At.new w 1 d vL t (.slice AA NN CC) a c o n ty g m
  have HE0 := Lib.hid (hE.below hl0)
  go_enter Tryd.func5, Tryd.ntmps5
  go_upto_region 1 with (fail)
  generalize w.alloc (.cells #[.int .i64 1, .string d, vL, .string t, .slice AA NN CC, .string a, .string c, .string o, .string n, .int .i64 ty, .string g, .string m] 40) = w0 at *
  have k0 := ho0.c0
  have k1 := ho0.c1
  have k2 := ho0.c2
  have k3 := ho0.c3
  have k4 := ho0.c4
  have k5 := ho0.c5
  have k6 := ho0.c6
  have k7 := ho0.c7
  have k8 := ho0.c8
  have k9 := ho0.c9
  have k10 := ho0.c10
  have k11 := ho0.c11
  have HO0 := Lib.hid ho0
  have HL0 := Lib.hid hl0
  clear ho0 hl0 hE
  generalize hog : w.heap.size = og at *
  have HOG := Lib.hid hog
  clear hog
  go_wp2_with fail
  refine (makeCommit_any d vL t AA NN CC a c o n ty g m w0).mono ?_
  rintro e w3 ⟨rfl, hb3⟩
  have HKD := Lib.hid (fun w => kindCommit (.string t) (.slice AA NN CC) (.string a) (.string c) (.string m) w)
  have HO := Lib.hid (HO0.out.below hb3)
  have HE := Lib.hid (HE0.out.below hb3)
  have HL := Lib.hid (HL0.out.trans (hb3.mono (by rw [← HOG.out]; exact HL0.out.size)))
  have HBY := Lib.hid (fun w1 (h : Below w3.heap.size w3 w1) => HTB.out w1 ((HEA0.out.below hb3).below h))
  have HRB := Lib.hid (fun w1 (h : Below w3.heap.size w3 w1) => HTR.out w1 ((HEA0.out.below hb3).below h))
  clear HTB HTR HEA0
  clear k0 k1 k2 k3 k4 k5 k6 k7 k8 k9 k10 k11 hb3 HO0 HE0
  generalize hRS : strOfNums RL = RS at *
  have HRS := Lib.hid hRS
  generalize hRN : RL.length = RN at *
  have HRN := Lib.hid hRN
  clear hRS hRN
  go_upto_region 4 with (fail)
  refine wp_region_ph (by kernel_rfl) [7] [.span 0 0, .span 0 0, .span 0 0, .span 0 0, .span 0 0, .span 0 0, .span 0 0, .phase 0, .span 1 1, .span 0 1, .span 1 1, .span 1 1, .span 1 1, .span 1 1, .span 1 1, .span 1 1, .span 1 1] [fun z9 => z9 = .iface 68 (.agg #[.string t, .slice AA NN CC, .string a, .string c, .string m]), fun z9 => z9 = .int .i64 1, fun z9 => z9 = .pointer (some ⟨og, 0, none⟩), fun z9 => z9 = .int .i64 1, fun z9 => z9 = .bool true, fun z9 => z9 = .bool true, fun z9 => z9 = .iface 68 (.agg #[.string t, .slice AA NN CC, .string a, .string c, .string m]), fun _ => True, fun z9 => z9 = .string RS, fun z9 => z9 = .agg #[.int .i64 1, .string d, vL, .string t, .slice AA NN CC, .string a, .string c, .string o, .string n, .int .i64 ty, .string g, .string m], fun z9 => z9 = .string RS, fun z9 => z9 = .bool true, fun z9 => z9 = .bool true, fun z9 => z9 = .bool true, fun z9 => z9 = .bool true, fun z9 => z9 = .bool true, fun z9 => z9 = .bool true] ((IPr w3 RL RN)) (by kernel_rfl) (by kernel_rfl) (by kernel_rfl) (by kernel_rfl) (by kernel_rfl) (by kernel_rfl) rfl rfl ((show Below w3.heap.size w3 w3.drew from (Below.refl _ _).drew)) ?steps ?done
  case steps =>
    refine ⟨?_, ?_, ?_, ?_, ?_, ?_, ?_, ?_, ?_, ?_, ?_, ?_, ?_, ?_, ?_, ?_, ?_, trivial⟩
    · intro us au w1 k0 hlo hhi ha hd hst hI
      obtain rfl : k0 = 0 := by omega
      have q3 := slot_far (t := 3) (v := .iface 68 (.agg #[.string t, .slice AA NN CC, .string a, .string c, .string m])) ha (by kernel_rfl) (by kernel_rfl)
      have p3 := slot_norm q3
      clear ha hd hst
      exact StepI.pure (v := .iface 68 (.agg #[.string t, .slice AA NN CC, .string a, .string c, .string m])) rfl rfl (by go_simp) ⟨rfl, hI⟩
    · intro us au w1 k1 hlo hhi ha hd hst hI
      obtain rfl : k1 = 0 := by omega
      have e0 := hd 0 _ (by kernel_rfl) rfl
      have q15 := slot_at (t := 15) 0 ha (by kernel_rfl) (by kernel_rfl) (by kernel_rfl) e0
      have p15 := slot_norm q15
      clear ha hd hst
      refine StepI.call (f := 118) (args := #[.agg #[.string t, .slice AA NN CC, .string a, .string c, .string m]]) rfl rfl (run_invoke (x := .tmp 15) (name := "Kind") (t := 68) (v := .agg #[.string t, .slice AA NN CC, .string a, .string c, .string m]) rfl (by go_simp) (by kernel_rfl) (enters_of Tryd.func118 (by kernel_rfl) rfl _ _)) ?_
      refine (HKD.out w1).mono ?_
      rintro e w5 ⟨rfl, hb⟩
      exact ⟨_, rfl, rfl, IPr.mono hI hb⟩
    · intro us au w1 k2 hlo hhi ha hd hst hI
      obtain rfl : k2 = 0 := by omega
      have q1 := slot_far (t := 1) (v := .pointer (some ⟨og, 0, none⟩)) ha (by kernel_rfl) (by kernel_rfl)
      have p1 := slot_norm q1
      clear ha hd hst
      exact StepI.pure (v := .pointer (some ⟨og, 0, none⟩)) rfl rfl (by go_simp) ⟨rfl, hI⟩
    · intro us au w1 k3 hlo hhi ha hd hst hI
      obtain rfl : k3 = 0 := by omega
      have e2 := hd 2 _ (by kernel_rfl) rfl
      have q17 := slot_at (t := 17) 2 ha (by kernel_rfl) (by kernel_rfl) (by kernel_rfl) e2
      have p17 := slot_norm q17
      clear ha hd hst
      have kk := (HO.out.below (IPr.bel hI)).c0
      exact StepI.pure (v := .int .i64 1) rfl rfl (by go_simp) ⟨rfl, hI⟩
    · intro us au w1 k4 hlo hhi ha hd hst hI
      obtain rfl : k4 = 0 := by omega
      have e1 := hd 1 _ (by kernel_rfl) rfl
      have e3 := hd 3 _ (by kernel_rfl) rfl
      have q16 := slot_at (t := 16) 1 ha (by kernel_rfl) (by kernel_rfl) (by kernel_rfl) e1
      have p16 := slot_norm q16
      have q18 := slot_at (t := 18) 3 ha (by kernel_rfl) (by kernel_rfl) (by kernel_rfl) e3
      have p18 := slot_norm q18
      clear ha hd hst
      exact StepI.pure (v := .bool true) rfl rfl (by go_simp) ⟨rfl, hI⟩
    · intro us au w1 k5 hlo hhi ha hd hst hI
      obtain rfl : k5 = 0 := by omega
      have e4 := hd 4 _ (by kernel_rfl) rfl
      have q19 := slot_at (t := 19) 4 ha (by kernel_rfl) (by kernel_rfl) (by kernel_rfl) e4
      have p19 := slot_norm q19
      clear ha hd hst
      exact StepI.pure (v := .bool true) rfl rfl (by go_simp) ⟨rfl, hI⟩
    · intro us au w1 k6 hlo hhi ha hd hst hI
      obtain rfl : k6 = 0 := by omega
      have e5 := hd 5 _ (by kernel_rfl) rfl
      have q3 := slot_far (t := 3) (v := .iface 68 (.agg #[.string t, .slice AA NN CC, .string a, .string c, .string m])) ha (by kernel_rfl) (by kernel_rfl)
      have p3 := slot_norm q3
      have hg := slot_at (t := 20) 5 ha (by kernel_rfl) (by kernel_rfl) (by kernel_rfl) e5
      clear ha hd hst
      exact StepI.pure (v := .iface 68 (.agg #[.string t, .slice AA NN CC, .string a, .string c, .string m])) rfl (wanted_at rfl rfl hg) (by go_simp) ⟨rfl, hI⟩
    · intro us au w1 ha hd hst hI
      have e6 := hd 6 _ (by kernel_rfl) rfl
      have e5 := hd 5 _ (by kernel_rfl) rfl
      have q21 := slot_at (t := 21) 6 ha (by kernel_rfl) (by kernel_rfl) (by kernel_rfl) e6
      have p21 := slot_norm q21
      have hg := slot_at (t := 20) 5 ha (by kernel_rfl) (by kernel_rfl) (by kernel_rfl) e5
      clear ha hd hst
      refine StepI.call (f := 117) (args := #[.agg #[.string t, .slice AA NN CC, .string a, .string c, .string m]]) rfl (wanted_at rfl rfl hg) (run_invoke (x := .tmp 21) (name := "Bytes") (t := 68) (v := .agg #[.string t, .slice AA NN CC, .string a, .string c, .string m]) rfl (by go_simp) (by kernel_rfl) (enters_of Tryd.func117 (by kernel_rfl) rfl _ _)) ?_
      refine (HBY.out w1 (IPr.bel hI)).mono ?_
      rintro e w5 ⟨A5, rfl, ho5, hb5⟩
      exact ⟨_, rfl, trivial, (IPr.bel hI).trans (hb5.mono (IPr.bel hI).size), A5, _, by rw [HRN.out], ho5.ints⟩
    · intro us au w1 k8 hlo hhi ha hd hst hI
      obtain rfl : k8 = 1 := by omega
      obtain ⟨e7⟩ := hd 7 _ (by kernel_rfl) rfl
      have e5 := hd 5 _ (by kernel_rfl) rfl
      have q22 := slot_at (t := 22) 7 ha (by kernel_rfl) (by kernel_rfl) (by kernel_rfl) (Eq.refl (us 7))
      have p22 := slot_norm q22
      have hg := slot_at (t := 20) 5 ha (by kernel_rfl) (by kernel_rfl) (by kernel_rfl) e5
      clear ha hd hst
      have hI0 := hI
      obtain ⟨hb, A, c, hv, hint⟩ := hI
      have hcv := run_str_ints (P := Tryd.prog) 30 9 5 Tryd.underlying30 Tryd.underlying5 Tryd.underlying9 A c RL hint
      rw [HRS.out, HRN.out] at hcv
      rw [hv] at p22
      exact StepI.pure (v := .string RS) rfl (wanted_at rfl rfl hg) (by go_simp) ⟨rfl, hI0⟩
    · intro us au w1 k9 hlo hhi ha hd hst hI
      have e5 := hd 5 _ (by kernel_rfl) rfl
      have q1 := slot_far (t := 1) (v := .pointer (some ⟨og, 0, none⟩)) ha (by kernel_rfl) (by kernel_rfl)
      have p1 := slot_norm q1
      have hg := slot_at (t := 20) 5 ha (by kernel_rfl) (by kernel_rfl) (by kernel_rfl) e5
      clear ha hd hst
      have kk := HO.out.below (IPr.bel hI)
      have kk0 := kk.c0
      have kk1 := kk.c1
      have kk2 := kk.c2
      have kk3 := kk.c3
      have kk4 := kk.c4
      have kk5 := kk.c5
      have kk6 := kk.c6
      have kk7 := kk.c7
      have kk8 := kk.c8
      have kk9 := kk.c9
      have kk10 := kk.c10
      have kk11 := kk.c11
      exact StepI.pure (v := .agg #[.int .i64 1, .string d, vL, .string t, .slice AA NN CC, .string a, .string c, .string o, .string n, .int .i64 ty, .string g, .string m]) rfl (wanted_at rfl rfl hg) (by go_simp) ⟨rfl, hI⟩
    · intro us au w1 k10 hlo hhi ha hd hst hI
      obtain rfl : k10 = 1 := by omega
      have e9 := hd 9 _ (by kernel_rfl) rfl
      have e5 := hd 5 _ (by kernel_rfl) rfl
      have q24 := slot_at (t := 24) 9 ha (by kernel_rfl) (by kernel_rfl) (by kernel_rfl) e9
      have p24 := slot_norm q24
      have hg := slot_at (t := 20) 5 ha (by kernel_rfl) (by kernel_rfl) (by kernel_rfl) e5
      clear ha hd hst
      refine StepI.call (f := 22) (args := #[.agg #[.int .i64 1, .string d, vL, .string t, .slice AA NN CC, .string a, .string c, .string o, .string n, .int .i64 ty, .string g, .string m]]) rfl (wanted_at rfl rfl hg) (by go_simp) ?_
      refine (HRB.out w1 (IPr.bel hI)).mono ?_
      rintro e w5 ⟨rfl, hb⟩
      exact ⟨_, rfl, rfl, IPr.mono hI hb⟩
    · intro us au w1 k11 hlo hhi ha hd hst hI
      obtain rfl : k11 = 1 := by omega
      have e8 := hd 8 _ (by kernel_rfl) rfl
      have e10 := hd 10 _ (by kernel_rfl) rfl
      have e5 := hd 5 _ (by kernel_rfl) rfl
      have q23 := slot_at (t := 23) 8 ha (by kernel_rfl) (by kernel_rfl) (by kernel_rfl) e8
      have p23 := slot_norm q23
      have q25 := slot_at (t := 25) 10 ha (by kernel_rfl) (by kernel_rfl) (by kernel_rfl) e10
      have p25 := slot_norm q25
      have hg := slot_at (t := 20) 5 ha (by kernel_rfl) (by kernel_rfl) (by kernel_rfl) e5
      clear ha hd hst
      exact StepI.pure (v := .bool true) rfl (wanted_at rfl rfl hg) (by go_simp) ⟨rfl, hI⟩
    · intro us au w1 k12 hlo hhi ha hd hst hI
      obtain rfl : k12 = 1 := by omega
      have e5 := hd 5 _ (by kernel_rfl) rfl
      have e11 := hd 11 _ (by kernel_rfl) rfl
      have q20 := slot_at (t := 20) 5 ha (by kernel_rfl) (by kernel_rfl) (by kernel_rfl) e5
      have p20 := slot_norm q20
      have q26 := slot_at (t := 26) 11 ha (by kernel_rfl) (by kernel_rfl) (by kernel_rfl) e11
      have p26 := slot_norm q26
      clear ha hd hst
      exact StepI.pure (v := .bool true) rfl rfl (by go_simp) ⟨rfl, hI⟩
    · intro us au w1 k13 hlo hhi ha hd hst hI
      obtain rfl : k13 = 1 := by omega
      have e12 := hd 12 _ (by kernel_rfl) rfl
      have q27 := slot_at (t := 27) 12 ha (by kernel_rfl) (by kernel_rfl) (by kernel_rfl) e12
      have p27 := slot_norm q27
      clear ha hd hst
      exact StepI.pure (v := .bool true) rfl rfl (by go_simp) ⟨rfl, hI⟩
    · intro us au w1 k14 hlo hhi ha hd hst hI
      obtain rfl : k14 = 1 := by omega
      have e13 := hd 13 _ (by kernel_rfl) rfl
      have hg := slot_at (t := 28) 13 ha (by kernel_rfl) (by kernel_rfl) (by kernel_rfl) e13
      clear ha hd hst
      refine StepI.call (f := 8) (args := #[]) rfl (wanted_at rfl rfl hg) (by go_simp) ?_
      refine (awake8_any w1 (HE.out.below (IPr.bel hI))).mono ?_
      rintro e w5 ⟨rfl, hb⟩
      exact ⟨_, rfl, rfl, IPr.mono hI hb⟩
    · intro us au w1 k15 hlo hhi ha hd hst hI
      obtain rfl : k15 = 1 := by omega
      have e13 := hd 13 _ (by kernel_rfl) rfl
      have e14 := hd 14 _ (by kernel_rfl) rfl
      have q28 := slot_at (t := 28) 13 ha (by kernel_rfl) (by kernel_rfl) (by kernel_rfl) e13
      have p28 := slot_norm q28
      have q29 := slot_at (t := 29) 14 ha (by kernel_rfl) (by kernel_rfl) (by kernel_rfl) e14
      have p29 := slot_norm q29
      clear ha hd hst
      exact StepI.pure (v := .bool true) rfl rfl (by go_simp) ⟨rfl, hI⟩
    · intro us au w1 k16 hlo hhi ha hd hst hI
      obtain rfl : k16 = 1 := by omega
      have e15 := hd 15 _ (by kernel_rfl) rfl
      have q30 := slot_at (t := 30) 15 ha (by kernel_rfl) (by kernel_rfl) (by kernel_rfl) e15
      have p30 := slot_norm q30
      clear ha hd hst
      exact StepI.pure (v := .bool true) rfl rfl (by go_simp) ⟨rfl, hI⟩
  case done =>
    intro us w1 hI hd
    have e16 := hd 16 _ (by decide) rfl
    have HW := Lib.hid (HL.out.trans (Below.mono (IPr.bel hI) (by rw [← HOG.out]; exact HL.out.size)))
    clear hd hI
    simp only [putAll]
    go_simp
    go_wp2
    go_ret
    exact ⟨rfl, by rw [HOG.out]; exact HW.out⟩
set_option maxRecDepth 100000 in
set_option maxHeartbeats 4000000 in
theorem printsTag (d : ByteArray) (vL : Value) (t : ByteArray) (vP : Value) (a c o n : ByteArray) (ty : Int) (g m : ByteArray) (w : World) (hE : EnvO w) (hsz : (tagS o (strOfNums (nameL ty)) n g m).size ≤ 140737488351300) :
    Calls Tryd.prog 5 #[.agg #[.int .i64 4, .string d, vL, .string t, vP, .string a, .string c, .string o, .string n, .int .i64 ty, .string g, .string m]] w fun e w' => e = .returned (.bool true) ∧ Below w.heap.size w w' := by
  have HTB := Lib.hid (fun w => tagBytes_any o ty n g m w hsz)
  have HTR := Lib.hid (fun w => (refTag_any d vL t vP a c o n ty g m w hsz).mono fun e w' h => (⟨h.1.trans (by rw [strOfNums_bytes]), h.2⟩ : e = .returned (.string (strOfNums (bytesOf (tagS o (strOfNums (nameL ty)) n g m)))) ∧ Below w.heap.size w w'))
  generalize bytesOf (tagS o (strOfNums (nameL ty)) n g m) = RL at *
  clear hsz
  have hl0 : Below w.heap.size w (w.alloc (.cells #[.int .i64 4, .string d, vL, .string t, vP, .string a, .string c, .string o, .string n, .int .i64 ty, .string g, .string m] 40)) := (Below.refl _ _).alloc (Nat.le_refl _) _
  have ho0 := O8At.new w 4 d vL t vP a c o n ty g m
  have HE0 := Lib.hid (hE.below hl0)
  go_enter Tryd.func5, Tryd.ntmps5
  go_upto_region 1 with (fail)
  generalize w.alloc (.cells #[.int .i64 4, .string d, vL, .string t, vP, .string a, .string c, .string o, .string n, .int .i64 ty, .string g, .string m] 40) = w0 at *
  have k0 := ho0.c0
  have k1 := ho0.c1
  have k2 := ho0.c2
  have k3 := ho0.c3
  have k4 := ho0.c4
  have k5 := ho0.c5
  have k6 := ho0.c6
  have k7 := ho0.c7
  have k8 := ho0.c8
  have k9 := ho0.c9
  have k10 := ho0.c10
  have k11 := ho0.c11
  have HO0 := Lib.hid ho0
  have HL0 := Lib.hid hl0
  clear ho0 hl0 hE
  generalize hog : w.heap.size = og at *
  have HOG := Lib.hid hog
  clear hog
  go_wp2_with fail
  refine (makeTag_any d vL t vP a c o n ty g m w0).mono ?_
  rintro e w3 ⟨rfl, hb3⟩
  have HKD := Lib.hid (fun w => kindTag (.string o) (.int .i64 ty) (.string n) (.string g) (.string m) w)
  have HO := Lib.hid (HO0.out.below hb3)
  have HE := Lib.hid (HE0.out.below hb3)
  have HL := Lib.hid (HL0.out.trans (hb3.mono (by rw [← HOG.out]; exact HL0.out.size)))
  have HBY := Lib.hid (fun w1 (h : Below w3.heap.size w3 w1) => HTB.out w1)
  have HRB := Lib.hid (fun w1 (h : Below w3.heap.size w3 w1) => HTR.out w1)
  clear HTB HTR
  clear k0 k1 k2 k3 k4 k5 k6 k7 k8 k9 k10 k11 hb3 HO0 HE0
  generalize hRS : strOfNums RL = RS at *
  have HRS := Lib.hid hRS
  generalize hRN : RL.length = RN at *
  have HRN := Lib.hid hRN
  clear hRS hRN
  go_upto_region 4 with (fail)
  refine wp_region_ph (by kernel_rfl) [7] [.span 0 0, .span 0 0, .span 0 0, .span 0 0, .span 0 0, .span 0 0, .span 0 0, .phase 0, .span 1 1, .span 0 1, .span 1 1, .span 1 1, .span 1 1, .span 1 1, .span 1 1, .span 1 1, .span 1 1] [fun z9 => z9 = .iface 70 (.agg #[.string o, .int .i64 ty, .string n, .string g, .string m]), fun z9 => z9 = .int .i64 4, fun z9 => z9 = .pointer (some ⟨og, 0, none⟩), fun z9 => z9 = .int .i64 4, fun z9 => z9 = .bool true, fun z9 => z9 = .bool true, fun z9 => z9 = .iface 70 (.agg #[.string o, .int .i64 ty, .string n, .string g, .string m]), fun _ => True, fun z9 => z9 = .string RS, fun z9 => z9 = .agg #[.int .i64 4, .string d, vL, .string t, vP, .string a, .string c, .string o, .string n, .int .i64 ty, .string g, .string m], fun z9 => z9 = .string RS, fun z9 => z9 = .bool true, fun z9 => z9 = .bool true, fun z9 => z9 = .bool true, fun z9 => z9 = .bool true, fun z9 => z9 = .bool true, fun z9 => z9 = .bool true] ((IPr w3 RL RN)) (by kernel_rfl) (by kernel_rfl) (by kernel_rfl) (by kernel_rfl) (by kernel_rfl) (by kernel_rfl) rfl rfl ((show Below w3.heap.size w3 w3.drew from (Below.refl _ _).drew)) ?steps ?done
  case steps =>
    refine ⟨?_, ?_, ?_, ?_, ?_, ?_, ?_, ?_, ?_, ?_, ?_, ?_, ?_, ?_, ?_, ?_, ?_, trivial⟩
    · intro us au w1 k0 hlo hhi ha hd hst hI
      obtain rfl : k0 = 0 := by omega
      have q3 := slot_far (t := 3) (v := .iface 70 (.agg #[.string o, .int .i64 ty, .string n, .string g, .string m])) ha (by kernel_rfl) (by kernel_rfl)
      have p3 := slot_norm q3
      clear ha hd hst
      exact StepI.pure (v := .iface 70 (.agg #[.string o, .int .i64 ty, .string n, .string g, .string m])) rfl rfl (by go_simp) ⟨rfl, hI⟩
    · intro us au w1 k1 hlo hhi ha hd hst hI
      obtain rfl : k1 = 0 := by omega
      have e0 := hd 0 _ (by kernel_rfl) rfl
      have q15 := slot_at (t := 15) 0 ha (by kernel_rfl) (by kernel_rfl) (by kernel_rfl) e0
      have p15 := slot_norm q15
      clear ha hd hst
      refine StepI.call (f := 125) (args := #[.agg #[.string o, .int .i64 ty, .string n, .string g, .string m]]) rfl rfl (run_invoke (x := .tmp 15) (name := "Kind") (t := 70) (v := .agg #[.string o, .int .i64 ty, .string n, .string g, .string m]) rfl (by go_simp) (by kernel_rfl) (enters_of Tryd.func125 (by kernel_rfl) rfl _ _)) ?_
      refine (HKD.out w1).mono ?_
      rintro e w5 ⟨rfl, hb⟩
      exact ⟨_, rfl, rfl, IPr.mono hI hb⟩
    · intro us au w1 k2 hlo hhi ha hd hst hI
      obtain rfl : k2 = 0 := by omega
      have q1 := slot_far (t := 1) (v := .pointer (some ⟨og, 0, none⟩)) ha (by kernel_rfl) (by kernel_rfl)
      have p1 := slot_norm q1
      clear ha hd hst
      exact StepI.pure (v := .pointer (some ⟨og, 0, none⟩)) rfl rfl (by go_simp) ⟨rfl, hI⟩
    · intro us au w1 k3 hlo hhi ha hd hst hI
      obtain rfl : k3 = 0 := by omega
      have e2 := hd 2 _ (by kernel_rfl) rfl
      have q17 := slot_at (t := 17) 2 ha (by kernel_rfl) (by kernel_rfl) (by kernel_rfl) e2
      have p17 := slot_norm q17
      clear ha hd hst
      have kk := (HO.out.below (IPr.bel hI)).c0
      exact StepI.pure (v := .int .i64 4) rfl rfl (by go_simp) ⟨rfl, hI⟩
    · intro us au w1 k4 hlo hhi ha hd hst hI
      obtain rfl : k4 = 0 := by omega
      have e1 := hd 1 _ (by kernel_rfl) rfl
      have e3 := hd 3 _ (by kernel_rfl) rfl
      have q16 := slot_at (t := 16) 1 ha (by kernel_rfl) (by kernel_rfl) (by kernel_rfl) e1
      have p16 := slot_norm q16
      have q18 := slot_at (t := 18) 3 ha (by kernel_rfl) (by kernel_rfl) (by kernel_rfl) e3
      have p18 := slot_norm q18
      clear ha hd hst
      exact StepI.pure (v := .bool true) rfl rfl (by go_simp) ⟨rfl, hI⟩
    · intro us au w1 k5 hlo hhi ha hd hst hI
      obtain rfl : k5 = 0 := by omega
      have e4 := hd 4 _ (by kernel_rfl) rfl
      have q19 := slot_at (t := 19) 4 ha (by kernel_rfl) (by kernel_rfl) (by kernel_rfl) e4
      have p19 := slot_norm q19
      clear ha hd hst
      exact StepI.pure (v := .bool true) rfl rfl (by go_simp) ⟨rfl, hI⟩
    · intro us au w1 k6 hlo hhi ha hd hst hI
      obtain rfl : k6 = 0 := by omega
      have e5 := hd 5 _ (by kernel_rfl) rfl
      have q3 := slot_far (t := 3) (v := .iface 70 (.agg #[.string o, .int .i64 ty, .string n, .string g, .string m])) ha (by kernel_rfl) (by kernel_rfl)
      have p3 := slot_norm q3
      have hg := slot_at (t := 20) 5 ha (by kernel_rfl) (by kernel_rfl) (by kernel_rfl) e5
      clear ha hd hst
      exact StepI.pure (v := .iface 70 (.agg #[.string o, .int .i64 ty, .string n, .string g, .string m])) rfl (wanted_at rfl rfl hg) (by go_simp) ⟨rfl, hI⟩
    · intro us au w1 ha hd hst hI
      have e6 := hd 6 _ (by kernel_rfl) rfl
      have e5 := hd 5 _ (by kernel_rfl) rfl
      have q21 := slot_at (t := 21) 6 ha (by kernel_rfl) (by kernel_rfl) (by kernel_rfl) e6
      have p21 := slot_norm q21
      have hg := slot_at (t := 20) 5 ha (by kernel_rfl) (by kernel_rfl) (by kernel_rfl) e5
      clear ha hd hst
      refine StepI.call (f := 124) (args := #[.agg #[.string o, .int .i64 ty, .string n, .string g, .string m]]) rfl (wanted_at rfl rfl hg) (run_invoke (x := .tmp 21) (name := "Bytes") (t := 70) (v := .agg #[.string o, .int .i64 ty, .string n, .string g, .string m]) rfl (by go_simp) (by kernel_rfl) (enters_of Tryd.func124 (by kernel_rfl) rfl _ _)) ?_
      refine (HBY.out w1 (IPr.bel hI)).mono ?_
      rintro e w5 ⟨A5, rfl, ho5, hb5⟩
      exact ⟨_, rfl, trivial, (IPr.bel hI).trans (hb5.mono (IPr.bel hI).size), A5, _, by rw [HRN.out], ho5.ints⟩
    · intro us au w1 k8 hlo hhi ha hd hst hI
      obtain rfl : k8 = 1 := by omega
      obtain ⟨e7⟩ := hd 7 _ (by kernel_rfl) rfl
      have e5 := hd 5 _ (by kernel_rfl) rfl
      have q22 := slot_at (t := 22) 7 ha (by kernel_rfl) (by kernel_rfl) (by kernel_rfl) (Eq.refl (us 7))
      have p22 := slot_norm q22
      have hg := slot_at (t := 20) 5 ha (by kernel_rfl) (by kernel_rfl) (by kernel_rfl) e5
      clear ha hd hst
      have hI0 := hI
      obtain ⟨hb, A, c, hv, hint⟩ := hI
      have hcv := run_str_ints (P := Tryd.prog) 30 9 5 Tryd.underlying30 Tryd.underlying5 Tryd.underlying9 A c RL hint
      rw [HRS.out, HRN.out] at hcv
      rw [hv] at p22
      exact StepI.pure (v := .string RS) rfl (wanted_at rfl rfl hg) (by go_simp) ⟨rfl, hI0⟩
    · intro us au w1 k9 hlo hhi ha hd hst hI
      have e5 := hd 5 _ (by kernel_rfl) rfl
      have q1 := slot_far (t := 1) (v := .pointer (some ⟨og, 0, none⟩)) ha (by kernel_rfl) (by kernel_rfl)
      have p1 := slot_norm q1
      have hg := slot_at (t := 20) 5 ha (by kernel_rfl) (by kernel_rfl) (by kernel_rfl) e5
      clear ha hd hst
      have kk := HO.out.below (IPr.bel hI)
      have kk0 := kk.c0
      have kk1 := kk.c1
      have kk2 := kk.c2
      have kk3 := kk.c3
      have kk4 := kk.c4
      have kk5 := kk.c5
      have kk6 := kk.c6
      have kk7 := kk.c7
      have kk8 := kk.c8
      have kk9 := kk.c9
      have kk10 := kk.c10
      have kk11 := kk.c11
      exact StepI.pure (v := .agg #[.int .i64 4, .string d, vL, .string t, vP, .string a, .string c, .string o, .string n, .int .i64 ty, .string g, .string m]) rfl (wanted_at rfl rfl hg) (by go_simp) ⟨rfl, hI⟩
    · intro us au w1 k10 hlo hhi ha hd hst hI
      obtain rfl : k10 = 1 := by omega
      have e9 := hd 9 _ (by kernel_rfl) rfl
      have e5 := hd 5 _ (by kernel_rfl) rfl
      have q24 := slot_at (t := 24) 9 ha (by kernel_rfl) (by kernel_rfl) (by kernel_rfl) e9
      have p24 := slot_norm q24
      have hg := slot_at (t := 20) 5 ha (by kernel_rfl) (by kernel_rfl) (by kernel_rfl) e5
      clear ha hd hst
      refine StepI.call (f := 22) (args := #[.agg #[.int .i64 4, .string d, vL, .string t, vP, .string a, .string c, .string o, .string n, .int .i64 ty, .string g, .string m]]) rfl (wanted_at rfl rfl hg) (by go_simp) ?_
      refine (HRB.out w1 (IPr.bel hI)).mono ?_
      rintro e w5 ⟨rfl, hb⟩
      exact ⟨_, rfl, rfl, IPr.mono hI hb⟩
    · intro us au w1 k11 hlo hhi ha hd hst hI
      obtain rfl : k11 = 1 := by omega
      have e8 := hd 8 _ (by kernel_rfl) rfl
      have e10 := hd 10 _ (by kernel_rfl) rfl
      have e5 := hd 5 _ (by kernel_rfl) rfl
      have q23 := slot_at (t := 23) 8 ha (by kernel_rfl) (by kernel_rfl) (by kernel_rfl) e8
      have p23 := slot_norm q23
      have q25 := slot_at (t := 25) 10 ha (by kernel_rfl) (by kernel_rfl) (by kernel_rfl) e10
      have p25 := slot_norm q25
      have hg := slot_at (t := 20) 5 ha (by kernel_rfl) (by kernel_rfl) (by kernel_rfl) e5
      clear ha hd hst
      exact StepI.pure (v := .bool true) rfl (wanted_at rfl rfl hg) (by go_simp) ⟨rfl, hI⟩
    · intro us au w1 k12 hlo hhi ha hd hst hI
      obtain rfl : k12 = 1 := by omega
      have e5 := hd 5 _ (by kernel_rfl) rfl
      have e11 := hd 11 _ (by kernel_rfl) rfl
      have q20 := slot_at (t := 20) 5 ha (by kernel_rfl) (by kernel_rfl) (by kernel_rfl) e5
      have p20 := slot_norm q20
      have q26 := slot_at (t := 26) 11 ha (by kernel_rfl) (by kernel_rfl) (by kernel_rfl) e11
      have p26 := slot_norm q26
      clear ha hd hst
      exact StepI.pure (v := .bool true) rfl rfl (by go_simp) ⟨rfl, hI⟩
    · intro us au w1 k13 hlo hhi ha hd hst hI
      obtain rfl : k13 = 1 := by omega
      have e12 := hd 12 _ (by kernel_rfl) rfl
      have q27 := slot_at (t := 27) 12 ha (by kernel_rfl) (by kernel_rfl) (by kernel_rfl) e12
      have p27 := slot_norm q27
      clear ha hd hst
      exact StepI.pure (v := .bool true) rfl rfl (by go_simp) ⟨rfl, hI⟩
    · intro us au w1 k14 hlo hhi ha hd hst hI
      obtain rfl : k14 = 1 := by omega
      have e13 := hd 13 _ (by kernel_rfl) rfl
      have hg := slot_at (t := 28) 13 ha (by kernel_rfl) (by kernel_rfl) (by kernel_rfl) e13
      clear ha hd hst
      refine StepI.call (f := 8) (args := #[]) rfl (wanted_at rfl rfl hg) (by go_simp) ?_
      refine (awake8_any w1 (HE.out.below (IPr.bel hI))).mono ?_
      rintro e w5 ⟨rfl, hb⟩
      exact ⟨_, rfl, rfl, IPr.mono hI hb⟩
    · intro us au w1 k15 hlo hhi ha hd hst hI
      obtain rfl : k15 = 1 := by omega
      have e13 := hd 13 _ (by kernel_rfl) rfl
      have e14 := hd 14 _ (by kernel_rfl) rfl
      have q28 := slot_at (t := 28) 13 ha (by kernel_rfl) (by kernel_rfl) (by kernel_rfl) e13
      have p28 := slot_norm q28
      have q29 := slot_at (t := 29) 14 ha (by kernel_rfl) (by kernel_rfl) (by kernel_rfl) e14
      have p29 := slot_norm q29
      clear ha hd hst
      exact StepI.pure (v := .bool true) rfl rfl (by go_simp) ⟨rfl, hI⟩
    · intro us au w1 k16 hlo hhi ha hd hst hI
      obtain rfl : k16 = 1 := by omega
      have e15 := hd 15 _ (by kernel_rfl) rfl
      have q30 := slot_at (t := 30) 15 ha (by kernel_rfl) (by kernel_rfl) (by kernel_rfl) e15
      have p30 := slot_norm q30
      clear ha hd hst
      exact StepI.pure (v := .bool true) rfl rfl (by go_simp) ⟨rfl, hI⟩
  case done =>
    intro us w1 hI hd
    have e16 := hd 16 _ (by decide) rfl
    have HW := Lib.hid (HL.out.trans (Below.mono (IPr.bel hI) (by rw [← HOG.out]; exact HL.out.size)))
    clear hd hI
    simp only [putAll]
    go_simp
    go_wp2
    go_ret
    exact ⟨rfl, by rw [HOG.out]; exact HW.out⟩
set_option maxRecDepth 100000 in
set_option maxHeartbeats 4000000 in
theorem printsBlob (d : ByteArray) (vL : Value) (t : ByteArray) (vP : Value) (a c o n : ByteArray) (ty : Int) (g m : ByteArray) (w : World) (hE : EnvO w) (hsz : d.size ≤ 140737488351300) :
    Calls Tryd.prog 5 #[.agg #[.int .i64 3, .string d, vL, .string t, vP, .string a, .string c, .string o, .string n, .int .i64 ty, .string g, .string m]] w fun e w' => e = .returned (.bool true) ∧ Below w.heap.size w w' := by
  have HDZ := Lib.hid hsz
  have HTB := Lib.hid (fun A c w h hA => blobBytes_any A d.size c (bytesOf d) w h (bytesOf_len d) (by omega) hA)
  have HTR := Lib.hid (fun w => (refBlob_any d vL t vP a c o n ty g m w).mono fun e w' h => (⟨h.1.trans (by rw [strOfNums_bytes]), h.2⟩ : e = .returned (.string (strOfNums (bytesOf d))) ∧ Below w.heap.size w w'))
  generalize hRL : bytesOf d = RL at *
  have HRL := Lib.hid hRL
  clear hsz hRL
  have hl0 : Below w.heap.size w (w.alloc (.cells #[.int .i64 3, .string d, vL, .string t, vP, .string a, .string c, .string o, .string n, .int .i64 ty, .string g, .string m] 40)) := (Below.refl _ _).alloc (Nat.le_refl _) _
  have ho0 := O8At.new w 3 d vL t vP a c o n ty g m
  have HE0 := Lib.hid (hE.below hl0)
  go_enter Tryd.func5, Tryd.ntmps5
  go_upto_region 1 with (fail)
  generalize w.alloc (.cells #[.int .i64 3, .string d, vL, .string t, vP, .string a, .string c, .string o, .string n, .int .i64 ty, .string g, .string m] 40) = w0 at *
  have k0 := ho0.c0
  have k1 := ho0.c1
  have k2 := ho0.c2
  have k3 := ho0.c3
  have k4 := ho0.c4
  have k5 := ho0.c5
  have k6 := ho0.c6
  have k7 := ho0.c7
  have k8 := ho0.c8
  have k9 := ho0.c9
  have k10 := ho0.c10
  have k11 := ho0.c11
  have HO0 := Lib.hid ho0
  have HL0 := Lib.hid hl0
  clear ho0 hl0 hE
  generalize hog : w.heap.size = og at *
  have HOG := Lib.hid hog
  clear hog
  go_wp2_with fail
  refine (makeBlob_any d vL t vP a c o n ty g m w0 HDZ.out).mono ?_
  rintro e w3 ⟨Ab, cb, rfl, hob, hAb, hb3⟩
  rw [HRL.out] at hob
  have HIB := Lib.hid hob.ints
  have HAB := Lib.hid hAb
  clear hob hAb
  have HKD := Lib.hid (fun w => kindBlob (.slice Ab d.size cb) w)
  have HO := Lib.hid (HO0.out.below hb3)
  have HE := Lib.hid (HE0.out.below hb3)
  have HL := Lib.hid (HL0.out.trans (hb3.mono (by rw [← HOG.out]; exact HL0.out.size)))
  have HBY := Lib.hid (fun w1 (h : Below w3.heap.size w3 w1) => HTB.out Ab cb w1 (HIB.out.below h) HAB.out)
  have HRB := Lib.hid (fun w1 (h : Below w3.heap.size w3 w1) => HTR.out w1)
  clear HTB HTR
  clear k0 k1 k2 k3 k4 k5 k6 k7 k8 k9 k10 k11 hb3 HO0 HE0
  generalize hRS : strOfNums RL = RS at *
  have HRS := Lib.hid hRS
  generalize hRN : RL.length = RN at *
  have HRN := Lib.hid hRN
  clear hRS hRN
  go_upto_region 4 with (fail)
  refine wp_region_ph (by kernel_rfl) [7] [.span 0 0, .span 0 0, .span 0 0, .span 0 0, .span 0 0, .span 0 0, .span 0 0, .phase 0, .span 1 1, .span 0 1, .span 1 1, .span 1 1, .span 1 1, .span 1 1, .span 1 1, .span 1 1, .span 1 1] [fun z9 => z9 = .iface 72 (.agg #[.slice Ab d.size cb]), fun z9 => z9 = .int .i64 3, fun z9 => z9 = .pointer (some ⟨og, 0, none⟩), fun z9 => z9 = .int .i64 3, fun z9 => z9 = .bool true, fun z9 => z9 = .bool true, fun z9 => z9 = .iface 72 (.agg #[.slice Ab d.size cb]), fun _ => True, fun z9 => z9 = .string RS, fun z9 => z9 = .agg #[.int .i64 3, .string d, vL, .string t, vP, .string a, .string c, .string o, .string n, .int .i64 ty, .string g, .string m], fun z9 => z9 = .string RS, fun z9 => z9 = .bool true, fun z9 => z9 = .bool true, fun z9 => z9 = .bool true, fun z9 => z9 = .bool true, fun z9 => z9 = .bool true, fun z9 => z9 = .bool true] ((IPr w3 RL RN)) (by kernel_rfl) (by kernel_rfl) (by kernel_rfl) (by kernel_rfl) (by kernel_rfl) (by kernel_rfl) rfl rfl ((show Below w3.heap.size w3 w3.drew from (Below.refl _ _).drew)) ?steps ?done
  case steps =>
    refine ⟨?_, ?_, ?_, ?_, ?_, ?_, ?_, ?_, ?_, ?_, ?_, ?_, ?_, ?_, ?_, ?_, ?_, trivial⟩
    · intro us au w1 k0 hlo hhi ha hd hst hI
      obtain rfl : k0 = 0 := by omega
      have q3 := slot_far (t := 3) (v := .iface 72 (.agg #[.slice Ab d.size cb])) ha (by kernel_rfl) (by kernel_rfl)
      have p3 := slot_norm q3
      clear ha hd hst
      exact StepI.pure (v := .iface 72 (.agg #[.slice Ab d.size cb])) rfl rfl (by go_simp) ⟨rfl, hI⟩
    · intro us au w1 k1 hlo hhi ha hd hst hI
      obtain rfl : k1 = 0 := by omega
      have e0 := hd 0 _ (by kernel_rfl) rfl
      have q15 := slot_at (t := 15) 0 ha (by kernel_rfl) (by kernel_rfl) (by kernel_rfl) e0
      have p15 := slot_norm q15
      clear ha hd hst
      refine StepI.call (f := 128) (args := #[.agg #[.slice Ab d.size cb]]) rfl rfl (run_invoke (x := .tmp 15) (name := "Kind") (t := 72) (v := .agg #[.slice Ab d.size cb]) rfl (by go_simp) (by kernel_rfl) (enters_of Tryd.func128 (by kernel_rfl) rfl _ _)) ?_
      refine (HKD.out w1).mono ?_
      rintro e w5 ⟨rfl, hb⟩
      exact ⟨_, rfl, rfl, IPr.mono hI hb⟩
    · intro us au w1 k2 hlo hhi ha hd hst hI
      obtain rfl : k2 = 0 := by omega
      have q1 := slot_far (t := 1) (v := .pointer (some ⟨og, 0, none⟩)) ha (by kernel_rfl) (by kernel_rfl)
      have p1 := slot_norm q1
      clear ha hd hst
      exact StepI.pure (v := .pointer (some ⟨og, 0, none⟩)) rfl rfl (by go_simp) ⟨rfl, hI⟩
    · intro us au w1 k3 hlo hhi ha hd hst hI
      obtain rfl : k3 = 0 := by omega
      have e2 := hd 2 _ (by kernel_rfl) rfl
      have q17 := slot_at (t := 17) 2 ha (by kernel_rfl) (by kernel_rfl) (by kernel_rfl) e2
      have p17 := slot_norm q17
      clear ha hd hst
      have kk := (HO.out.below (IPr.bel hI)).c0
      exact StepI.pure (v := .int .i64 3) rfl rfl (by go_simp) ⟨rfl, hI⟩
    · intro us au w1 k4 hlo hhi ha hd hst hI
      obtain rfl : k4 = 0 := by omega
      have e1 := hd 1 _ (by kernel_rfl) rfl
      have e3 := hd 3 _ (by kernel_rfl) rfl
      have q16 := slot_at (t := 16) 1 ha (by kernel_rfl) (by kernel_rfl) (by kernel_rfl) e1
      have p16 := slot_norm q16
      have q18 := slot_at (t := 18) 3 ha (by kernel_rfl) (by kernel_rfl) (by kernel_rfl) e3
      have p18 := slot_norm q18
      clear ha hd hst
      exact StepI.pure (v := .bool true) rfl rfl (by go_simp) ⟨rfl, hI⟩
    · intro us au w1 k5 hlo hhi ha hd hst hI
      obtain rfl : k5 = 0 := by omega
      have e4 := hd 4 _ (by kernel_rfl) rfl
      have q19 := slot_at (t := 19) 4 ha (by kernel_rfl) (by kernel_rfl) (by kernel_rfl) e4
      have p19 := slot_norm q19
      clear ha hd hst
      exact StepI.pure (v := .bool true) rfl rfl (by go_simp) ⟨rfl, hI⟩
    · intro us au w1 k6 hlo hhi ha hd hst hI
      obtain rfl : k6 = 0 := by omega
      have e5 := hd 5 _ (by kernel_rfl) rfl
      have q3 := slot_far (t := 3) (v := .iface 72 (.agg #[.slice Ab d.size cb])) ha (by kernel_rfl) (by kernel_rfl)
      have p3 := slot_norm q3
      have hg := slot_at (t := 20) 5 ha (by kernel_rfl) (by kernel_rfl) (by kernel_rfl) e5
      clear ha hd hst
      exact StepI.pure (v := .iface 72 (.agg #[.slice Ab d.size cb])) rfl (wanted_at rfl rfl hg) (by go_simp) ⟨rfl, hI⟩
    · intro us au w1 ha hd hst hI
      have e6 := hd 6 _ (by kernel_rfl) rfl
      have e5 := hd 5 _ (by kernel_rfl) rfl
      have q21 := slot_at (t := 21) 6 ha (by kernel_rfl) (by kernel_rfl) (by kernel_rfl) e6
      have p21 := slot_norm q21
      have hg := slot_at (t := 20) 5 ha (by kernel_rfl) (by kernel_rfl) (by kernel_rfl) e5
      clear ha hd hst
      refine StepI.call (f := 127) (args := #[.agg #[.slice Ab d.size cb]]) rfl (wanted_at rfl rfl hg) (run_invoke (x := .tmp 21) (name := "Bytes") (t := 72) (v := .agg #[.slice Ab d.size cb]) rfl (by go_simp) (by kernel_rfl) (enters_of Tryd.func127 (by kernel_rfl) rfl _ _)) ?_
      refine (HBY.out w1 (IPr.bel hI)).mono ?_
      rintro e w5 ⟨A5, rfl, ho5, hb5⟩
      exact ⟨_, rfl, trivial, (IPr.bel hI).trans (hb5.mono (IPr.bel hI).size), A5, _, by rw [HRN.out], ho5.ints⟩
    · intro us au w1 k8 hlo hhi ha hd hst hI
      obtain rfl : k8 = 1 := by omega
      obtain ⟨e7⟩ := hd 7 _ (by kernel_rfl) rfl
      have e5 := hd 5 _ (by kernel_rfl) rfl
      have q22 := slot_at (t := 22) 7 ha (by kernel_rfl) (by kernel_rfl) (by kernel_rfl) (Eq.refl (us 7))
      have p22 := slot_norm q22
      have hg := slot_at (t := 20) 5 ha (by kernel_rfl) (by kernel_rfl) (by kernel_rfl) e5
      clear ha hd hst
      have hI0 := hI
      obtain ⟨hb, A, c, hv, hint⟩ := hI
      have hcv := run_str_ints (P := Tryd.prog) 30 9 5 Tryd.underlying30 Tryd.underlying5 Tryd.underlying9 A c RL hint
      rw [HRS.out, HRN.out] at hcv
      rw [hv] at p22
      exact StepI.pure (v := .string RS) rfl (wanted_at rfl rfl hg) (by go_simp) ⟨rfl, hI0⟩
    · intro us au w1 k9 hlo hhi ha hd hst hI
      have e5 := hd 5 _ (by kernel_rfl) rfl
      have q1 := slot_far (t := 1) (v := .pointer (some ⟨og, 0, none⟩)) ha (by kernel_rfl) (by kernel_rfl)
      have p1 := slot_norm q1
      have hg := slot_at (t := 20) 5 ha (by kernel_rfl) (by kernel_rfl) (by kernel_rfl) e5
      clear ha hd hst
      have kk := HO.out.below (IPr.bel hI)
      have kk0 := kk.c0
      have kk1 := kk.c1
      have kk2 := kk.c2
      have kk3 := kk.c3
      have kk4 := kk.c4
      have kk5 := kk.c5
      have kk6 := kk.c6
      have kk7 := kk.c7
      have kk8 := kk.c8
      have kk9 := kk.c9
      have kk10 := kk.c10
      have kk11 := kk.c11
      exact StepI.pure (v := .agg #[.int .i64 3, .string d, vL, .string t, vP, .string a, .string c, .string o, .string n, .int .i64 ty, .string g, .string m]) rfl (wanted_at rfl rfl hg) (by go_simp) ⟨rfl, hI⟩
    · intro us au w1 k10 hlo hhi ha hd hst hI
      obtain rfl : k10 = 1 := by omega
      have e9 := hd 9 _ (by kernel_rfl) rfl
      have e5 := hd 5 _ (by kernel_rfl) rfl
      have q24 := slot_at (t := 24) 9 ha (by kernel_rfl) (by kernel_rfl) (by kernel_rfl) e9
      have p24 := slot_norm q24
      have hg := slot_at (t := 20) 5 ha (by kernel_rfl) (by kernel_rfl) (by kernel_rfl) e5
      clear ha hd hst
      refine StepI.call (f := 22) (args := #[.agg #[.int .i64 3, .string d, vL, .string t, vP, .string a, .string c, .string o, .string n, .int .i64 ty, .string g, .string m]]) rfl (wanted_at rfl rfl hg) (by go_simp) ?_
      refine (HRB.out w1 (IPr.bel hI)).mono ?_
      rintro e w5 ⟨rfl, hb⟩
      exact ⟨_, rfl, rfl, IPr.mono hI hb⟩
    · intro us au w1 k11 hlo hhi ha hd hst hI
      obtain rfl : k11 = 1 := by omega
      have e8 := hd 8 _ (by kernel_rfl) rfl
      have e10 := hd 10 _ (by kernel_rfl) rfl
      have e5 := hd 5 _ (by kernel_rfl) rfl
      have q23 := slot_at (t := 23) 8 ha (by kernel_rfl) (by kernel_rfl) (by kernel_rfl) e8
      have p23 := slot_norm q23
      have q25 := slot_at (t := 25) 10 ha (by kernel_rfl) (by kernel_rfl) (by kernel_rfl) e10
      have p25 := slot_norm q25
      have hg := slot_at (t := 20) 5 ha (by kernel_rfl) (by kernel_rfl) (by kernel_rfl) e5
      clear ha hd hst
      exact StepI.pure (v := .bool true) rfl (wanted_at rfl rfl hg) (by go_simp) ⟨rfl, hI⟩
    · intro us au w1 k12 hlo hhi ha hd hst hI
      obtain rfl : k12 = 1 := by omega
      have e5 := hd 5 _ (by kernel_rfl) rfl
      have e11 := hd 11 _ (by kernel_rfl) rfl
      have q20 := slot_at (t := 20) 5 ha (by kernel_rfl) (by kernel_rfl) (by kernel_rfl) e5
      have p20 := slot_norm q20
      have q26 := slot_at (t := 26) 11 ha (by kernel_rfl) (by kernel_rfl) (by kernel_rfl) e11
      have p26 := slot_norm q26
      clear ha hd hst
      exact StepI.pure (v := .bool true) rfl rfl (by go_simp) ⟨rfl, hI⟩
    · intro us au w1 k13 hlo hhi ha hd hst hI
      obtain rfl : k13 = 1 := by omega
      have e12 := hd 12 _ (by kernel_rfl) rfl
      have q27 := slot_at (t := 27) 12 ha (by kernel_rfl) (by kernel_rfl) (by kernel_rfl) e12
      have p27 := slot_norm q27
      clear ha hd hst
      exact StepI.pure (v := .bool true) rfl rfl (by go_simp) ⟨rfl, hI⟩
    · intro us au w1 k14 hlo hhi ha hd hst hI
      obtain rfl : k14 = 1 := by omega
      have e13 := hd 13 _ (by kernel_rfl) rfl
      have hg := slot_at (t := 28) 13 ha (by kernel_rfl) (by kernel_rfl) (by kernel_rfl) e13
      clear ha hd hst
      refine StepI.call (f := 8) (args := #[]) rfl (wanted_at rfl rfl hg) (by go_simp) ?_
      refine (awake8_any w1 (HE.out.below (IPr.bel hI))).mono ?_
      rintro e w5 ⟨rfl, hb⟩
      exact ⟨_, rfl, rfl, IPr.mono hI hb⟩
    · intro us au w1 k15 hlo hhi ha hd hst hI
      obtain rfl : k15 = 1 := by omega
      have e13 := hd 13 _ (by kernel_rfl) rfl
      have e14 := hd 14 _ (by kernel_rfl) rfl
      have q28 := slot_at (t := 28) 13 ha (by kernel_rfl) (by kernel_rfl) (by kernel_rfl) e13
      have p28 := slot_norm q28
      have q29 := slot_at (t := 29) 14 ha (by kernel_rfl) (by kernel_rfl) (by kernel_rfl) e14
      have p29 := slot_norm q29
      clear ha hd hst
      exact StepI.pure (v := .bool true) rfl rfl (by go_simp) ⟨rfl, hI⟩
    · intro us au w1 k16 hlo hhi ha hd hst hI
      obtain rfl : k16 = 1 := by omega
      have e15 := hd 15 _ (by kernel_rfl) rfl
      have q30 := slot_at (t := 30) 15 ha (by kernel_rfl) (by kernel_rfl) (by kernel_rfl) e15
      have p30 := slot_norm q30
      clear ha hd hst
      exact StepI.pure (v := .bool true) rfl rfl (by go_simp) ⟨rfl, hI⟩
  case done =>
    intro us w1 hI hd
    have e16 := hd 16 _ (by decide) rfl
    have HW := Lib.hid (HL.out.trans (Below.mono (IPr.bel hI) (by rw [← HOG.out]; exact HL.out.size)))
    clear hd hI
    simp only [putAll]
    go_simp
    go_wp2
    go_ret
    exact ⟨rfl, by rw [HOG.out]; exact HW.out⟩
set_option maxRecDepth 100000 in
theorem printsNone (kd : Int) (d : ByteArray) (vL : Value) (t : ByteArray) (vP : Value) (a c o n : ByteArray) (ty : Int) (g m : ByteArray) (w : World) (hE : EnvO w) (hk : kd < 1 ∨ 4 < kd) :
    Calls Tryd.prog 5 #[.agg #[.int .i64 kd, .string d, vL, .string t, vP, .string a, .string c, .string o, .string n, .int .i64 ty, .string g, .string m]] w fun e w' => e = .returned (.bool true) ∧ Below w.heap.size w w' := by
  have hl0 : Below w.heap.size w (w.alloc (.cells #[.int .i64 kd, .string d, vL, .string t, vP, .string a, .string c, .string o, .string n, .int .i64 ty, .string g, .string m] 40)) := (Below.refl _ _).alloc (Nat.le_refl _) _
  have ho0 := O8At.new w kd d vL t vP a c o n ty g m
  have HE0 := Lib.hid (hE.below hl0)
  go_enter Tryd.func5, Tryd.ntmps5
  go_upto_region 1 with (fail)
  generalize w.alloc (.cells #[.int .i64 kd, .string d, vL, .string t, vP, .string a, .string c, .string o, .string n, .int .i64 ty, .string g, .string m] 40) = w0 at *
  have k0 := ho0.c0
  have HL0 := Lib.hid hl0
  clear ho0 hl0 hE
  by_cases h1 : kd < 1
  · have d1 : decide (kd < 1) = true := decide_eq_true h1
    clear hk
    go_wp2_with fail
    refine (awake8_any w0 HE0.out).mono ?_
    rintro e w1 ⟨rfl, hb⟩
    have HB := Lib.hid (HL0.out.trans (hb.mono HL0.out.size))
    clear hb
    go_wp2
    go_ret
    exact ⟨rfl, HB.out⟩
  · have h4 : 4 < kd := by omega
    have d1 : decide (kd < 1) = false := decide_eq_false h1
    have d2 : decide (4 < kd) = true := decide_eq_true h4
    clear hk
    go_wp2_with fail
    refine (awake8_any w0 HE0.out).mono ?_
    rintro e w1 ⟨rfl, hb⟩
    have HB := Lib.hid (HL0.out.trans (hb.mono HL0.out.size))
    clear hb
    go_wp2
    go_ret
    exact ⟨rfl, HB.out⟩
end Go.Proofs.YtdlabapfcghfmaaDoor
