/- Inflate: the program's reader in memory; Align, Bytes, take, put. -/
import Derived.Test.YtoeipgbnjcgbjaaInfM
import Derived.Test.YtoeipgbnjcgbjaaBits3
import Derived.Test.YtoeipgbnjcgbjaaPh
namespace Go.Proofs.Ytoeipgbnjcgbjaa
open Go.RowKit
set_option linter.unusedVariables false

theorem OwnS.clipI {w : World} {base : Nat} {e : TypeId} {A : Option Addr} {n c : Nat} {xs : List Value} (h : OwnS w base e 1 (.slice A n c) n xs) : OwnS w base e 1 (.slice A n n) n xs := by
  refine ⟨h.1, ?_⟩
  rcases h.2 with ⟨hv, rfl⟩ | ⟨g, off, cap, cur, hv, hb, hg, hn, hm, hs, ht⟩
  · injection hv with hA _ hc
    subst hA
    exact .inl ⟨rfl, rfl⟩
  · injection hv with hA _ hc
    subst hA; subst hc
    exact .inr ⟨g, off, n, cur, rfl, hb, hg, Nat.le_refl _, by omega, by omega, ht⟩
set_option maxRecDepth 100000 in
theorem bAlign (L g : Nat) (bs : List Int) (p : Nat) (w : World) (h : RdRep 130 L g w bs p) (hp : p ≤ 8 * bs.length) (hsz : bs.length ≤ 140737488351300) :
    Calls Try.prog 119 #[.pointer (some ⟨g, 0, none⟩)] w fun e w' => e = .returned (.tuple #[]) ∧ RdRep 130 L g w' bs (upto8 p) ∧ Chg (fun k => k = g) w w' := by
  have c1 := h.c1
  have f1 := h.frozen 1
  have HR := Lib.hid (h.set (upto8 p))
  obtain ⟨q, hq⟩ : ∃ q, upto8 p = q := ⟨_, rfl⟩
  have hq' : q = (p + 7) / 8 * 8 := hq.symm
  rw [hq] at HR
  have e1 : IntKind.i64.wrap ((p : Int) + 7) = (p : Int) + 7 := IntWalk.i64_in _ (by omega)
  have e2 : IntKind.i64.wrap (((p : Int) + 7) / 8) = ((p : Int) + 7) / 8 := IntWalk.i64_in _ (by omega)
  have e3 : IntKind.i64.wrap (((p : Int) + 7) / 8 * 8) = (q : Int) := by rw [IntWalk.i64_in _ (by omega)]; omega
  have e4 : ((p : Int) + 7) / 8 * 8 = (q : Int) := by omega
  have hp0 : (0 : Int) ≤ (p : Int) + 7 := by omega
  rw [hq]
  clear h hq hq'
  go_enter Try.func119, Try.ntmps119
  go_wp2
  go_end0
  exact ⟨rfl, HR.out, (Chg.refl (fun k => k = g) w).setCell (a := ⟨g, 1, none⟩) (.inl rfl) _⟩
/-- Bytes: between the operations. -/
def JBy (w0 : World) (n : Nat) (us : List Value) : List Value → World → Prop
  | [], w => w = w0
  | [v], w => ∃ A c, v = .slice A n c ∧ OwnS w w0.heap.size 5 1 (.slice A n c) n us ∧ Below w0.heap.size w0 w
  | _ :: v :: _, w => ∃ A c, v = .slice A n c ∧ OwnS w w0.heap.size 5 1 (.slice A n c) n us ∧ Below w0.heap.size w0 w
set_option maxRecDepth 100000 in
set_option maxHeartbeats 8000000 in
theorem bBytes_no (L g : Nat) (bs : List Int) (p n : Nat) (w : World) (h : RdRep 130 L g w bs p) (hp : p ≤ 8 * bs.length) (hsz : bs.length ≤ 140737488351232) (hn : n ≤ 16) (hq : 8 * bs.length < upto8 p + 8 * n) :
    Calls Try.prog 104 #[.pointer (some ⟨g, 0, none⟩), .int .i64 n] w fun e w' => e = .returned (.tuple #[.slice none 0 0, .bool false]) ∧ RdRep 130 L g w' bs (upto8 p) ∧ Chg (fun k => k = g) w w' := by
  have hqd : upto8 p % 8 = 0 := by unfold upto8; omega
  have hqp : upto8 p ≤ p + 7 := by unfold upto8; omega
  have HB := Lib.hid (bAlign L g bs p w h hp (by omega))
  generalize upto8 p = q at *
  have d0 : decide ((n : Int) < 0) = false := decide_eq_false (by omega)
  have e1 : IntKind.i64.wrap ((q : Int) / 8) = (q : Int) / 8 := IntWalk.i64_in _ (by omega)
  have e2 : IntKind.i64.wrap ((bs.length : Int) - (q : Int) / 8) = (bs.length : Int) - (q : Int) / 8 := IntWalk.i64_in _ (by omega)
  have d1 : decide ((bs.length : Int) - (q : Int) / 8 < (n : Int)) = true := decide_eq_true (by omega)
  clear h
  go_enter Try.func104, Try.ntmps104
  go_wp2_with fail
  refine HB.out.mono ?_
  rintro e w1 ⟨rfl, hR, hC⟩
  obtain ⟨A, c, c0, hI, hA⟩ := hR.c0
  have c1 := hR.c1
  have HR := Lib.hid hR
  have HC := Lib.hid hC
  clear hR hC HB
  go_wp2
  go_quiet (fail)
  go_wp2
  go_ret2
  exact ⟨rfl, HR.out.drewN nq, HC.out.drewN nq⟩
set_option maxRecDepth 100000 in
set_option maxHeartbeats 8000000 in
theorem bBytes_yes (L g : Nat) (bs : List Int) (p n : Nat) (w : World) (h : RdRep 130 L g w bs p) (hp : p ≤ 8 * bs.length) (hsz : bs.length ≤ 140737488351232) (hn : n ≤ 16) (hn0 : 0 < n) (hq : upto8 p + 8 * n ≤ 8 * bs.length) :
    Calls Try.prog 104 #[.pointer (some ⟨g, 0, none⟩), .int .i64 n] w fun e w' => (∃ A, e = .returned (.tuple #[.slice A n n, .bool true]) ∧ OwnS w' w.heap.size 5 1 (.slice A n n) n (((bs.drop (upto8 p / 8)).take n).map (Value.int .u8))) ∧ RdRep 130 L g w' bs (upto8 p + 8 * n) ∧ Chg (fun k => k = g) w w' := by
  have hqd : upto8 p % 8 = 0 := by unfold upto8; omega
  have hqp : upto8 p ≤ p + 7 := by unfold upto8; omega
  have HB := Lib.hid (bAlign L g bs p w h hp (by omega))
  generalize upto8 p = q at *
  have d0 : decide ((n : Int) < 0) = false := decide_eq_false (by omega)
  obtain ⟨d, hd⟩ : ∃ d : Nat, q / 8 = d := ⟨_, rfl⟩
  have e0 : (q : Int) / 8 = (d : Int) := by omega
  have e1 : IntKind.i64.wrap (d : Int) = (d : Int) := IntWalk.i64_in _ (by omega)
  have e2 : IntKind.i64.wrap ((bs.length : Int) - (d : Int)) = (bs.length : Int) - (d : Int) := IntWalk.i64_in _ (by omega)
  have d1 : decide ((bs.length : Int) - (d : Int) < (n : Int)) = false := decide_eq_false (by omega)
  obtain ⟨m, hm⟩ : ∃ m : Nat, d + n = m := ⟨_, rfl⟩
  obtain ⟨r, hr⟩ : ∃ r : Nat, q + 8 * n = r := ⟨_, rfl⟩
  have e3 : IntKind.i64.wrap ((d : Int) + (n : Int)) = (m : Int) := by rw [IntWalk.i64_in _ (by omega)]; omega
  have e4 : IntKind.i64.wrap (8 * (n : Int)) = 8 * (n : Int) := IntWalk.i64_in _ (by omega)
  have e5 : IntKind.i64.wrap ((q : Int) + 8 * (n : Int)) = (r : Int) := by rw [IntWalk.i64_in _ (by omega)]; omega
  have hgb := h.blk
  obtain ⟨i0, hi, hz0, hz1, hz2⟩ := info_parts Try.info_u8
  clear h
  go_enter Try.func104, Try.ntmps104
  go_wp2_with fail
  refine HB.out.mono ?_
  rintro e wA ⟨rfl, hR, hC⟩
  obtain ⟨A0, cc0, c0, hI, hA, hcl, hcm⟩ := hR.c0'
  have c1 := hR.c1
  have HR := Lib.hid hR
  have HC := Lib.hid hC
  clear hR hC HB hI hA
  have HD8 := Lib.hid hd
  have HM := Lib.hid hm
  have HRR := Lib.hid hr
  have hqr : q + 8 * n = r := hr
  clear hm hr hd
  go_wp2
  clear hqr
  go_quiet (fail)
  clear c0 c1 hcl hcm
  have hR := HR.out.drewN nq
  have HC2 := Lib.hid (HC.out.drewN nq)
  have hsz2 : w.heap.size ≤ (wA.drewN nq).heap.size := (HC.out.drewN nq).size
  clear HR HC
  generalize wA.drewN nq = wB at *
  obtain ⟨A, c, c0, hI, hA, hcl, hcm⟩ := hR.c0'
  have c1 := hR.c1
  obtain ⟨b, o, rfl, hbl, hcell⟩ := hI (by omega)
  have HR := Lib.hid hR
  have hrow : Ints .u8 wB (some ⟨b, o + d, none⟩) ((bs.drop d).take n) := by
    intro hl
    refine ⟨b, o + d, rfl, hbl, fun j hj => ?_⟩
    rw [List.length_take, List.length_drop] at hj
    rw [show o + d + j = o + (d + j) by omega, hcell (d + j) (by omega)]
    simp only [List.getD_eq_getElem?_getD, List.getElem?_take, List.getElem?_drop]
    rw [if_pos (by omega)]
  have HROW := Lib.hid hrow
  have hlen : ((bs.drop d).take n).length = n := by rw [List.length_take, List.length_drop]; omega
  have HLEN := Lib.hid hlen
  have hm := HM.out
  have s1 : (0 : Int) ≤ (d : Int) := by omega
  have s2 : (d : Int) ≤ (m : Int) := by omega
  have s3 : (m : Int) ≤ (c : Int) := by omega
  have s4 : ¬ c = d := by omega
  have s5 : ¬ (c : Int) = (d : Int) := by omega
  have s6 : m - d = n := by omega
  unfold maxLen at hcm
  clear hR hrow hcell hI hA hlen hm
  go_upto_region 4 with (fail)
  go_cut [6] (fun v wx => ∃ A c', v = .slice A n c' ∧ OwnS wx wB.heap.size 5 1 (.slice A n c') n (((bs.drop d).take n).map (Value.int .u8)) ∧ Below wB.heap.size wB wx)
  case first =>
    refine wp_region_ph (by kernel_rfl) [17, 18] [.span 0 0, .span 0 0, .span 0 0, .span 0 0, .span 0 0, .span 0 0, .span 0 0, .span 0 0, .span 0 0, .span 0 0, .span 0 0, .span 0 0, .span 0 0, .span 0 0, .span 0 0, .span 0 0, .span 0 0, .phase 0, .phase 1] [fun z9 => z9 = .pointer (some ⟨g, 0, none⟩), fun z9 => z9 = .pointer (some ⟨g, 0, none⟩), fun z9 => z9 = .pointer (some ⟨g, 0, none⟩), fun z9 => z9 = .slice (some ⟨b, o, none⟩) bs.length c, fun z9 => z9 = .pointer (some ⟨g, 0, none⟩), fun z9 => z9 = .pointer (some ⟨g, 0, none⟩), fun z9 => z9 = .pointer (some ⟨g, 1, none⟩), fun z9 => z9 = .int .i64 q, fun z9 => z9 = .int .i64 d, fun z9 => z9 = .pointer (some ⟨g, 0, none⟩), fun z9 => z9 = .pointer (some ⟨g, 0, none⟩), fun z9 => z9 = .pointer (some ⟨g, 1, none⟩), fun z9 => z9 = .int .i64 q, fun z9 => z9 = .int .i64 d, fun z9 => z9 = .int .i64 n, fun z9 => z9 = .int .i64 m, fun z9 => z9 = .slice (some ⟨b, o + d, none⟩) n (c - d), fun v => ∃ A c, v = .slice A n c, fun v => ∃ A c, v = .slice A n c] (JBy wB.drew n (((bs.drop d).take n).map (Value.int .u8))) (by kernel_rfl) (by kernel_rfl) (by kernel_rfl) (by kernel_rfl) (by kernel_rfl) (by kernel_rfl) rfl rfl (rfl) ?steps ?done
    case steps =>
      refine ⟨?_, ?_, ?_, ?_, ?_, ?_, ?_, ?_, ?_, ?_, ?_, ?_, ?_, ?_, ?_, ?_, ?_, ?_, ?_, trivial⟩
      · intro us au w1 k0 hlo hhi ha hd hst hI
        obtain rfl : k0 = 0 := by omega
        have q0 := slot_far (t := 0) (v := .pointer (some ⟨g, 0, none⟩)) ha (by kernel_rfl) (by kernel_rfl)
        have p0 := slot_norm q0
        clear ha hd hst
        exact StepI.pure (v := .pointer (some ⟨g, 0, none⟩)) rfl rfl (by go_simp) ⟨rfl, hI⟩
      · intro us au w1 k1 hlo hhi ha hd hst hI
        obtain rfl : k1 = 0 := by omega
        have e0 := hd 0 _ (by kernel_rfl) rfl
        have q26 := slot_at (t := 26) 0 ha (by kernel_rfl) (by kernel_rfl) (by kernel_rfl) e0
        have p26 := slot_norm q26
        clear ha hd hst
        exact StepI.pure (v := .pointer (some ⟨g, 0, none⟩)) rfl rfl (by go_simp) ⟨rfl, hI⟩
      · intro us au w1 k2 hlo hhi ha hd hst hI
        obtain rfl : k2 = 0 := by omega
        have e1 := hd 1 _ (by kernel_rfl) rfl
        have q27 := slot_at (t := 27) 1 ha (by kernel_rfl) (by kernel_rfl) (by kernel_rfl) e1
        have p27 := slot_norm q27
        clear ha hd hst
        exact StepI.pure (v := .pointer (some ⟨g, 0, none⟩)) rfl rfl (by go_simp) ⟨rfl, hI⟩
      · intro us au w1 k3 hlo hhi ha hd hst hI
        obtain rfl : k3 = 0 := by omega
        have e2 := hd 2 _ (by kernel_rfl) rfl
        have q28 := slot_at (t := 28) 2 ha (by kernel_rfl) (by kernel_rfl) (by kernel_rfl) e2
        have p28 := slot_norm q28
        clear ha hd hst
        have cl : w1.cell? ⟨g, 0, none⟩ = some (.slice (some ⟨b, o, none⟩) bs.length c) := by rw [show w1 = _ from hI]; exact c0
        exact StepI.pure (v := .slice (some ⟨b, o, none⟩) bs.length c) rfl rfl (by go_simp) ⟨rfl, hI⟩
      · intro us au w1 k4 hlo hhi ha hd hst hI
        obtain rfl : k4 = 0 := by omega
        have q0 := slot_far (t := 0) (v := .pointer (some ⟨g, 0, none⟩)) ha (by kernel_rfl) (by kernel_rfl)
        have p0 := slot_norm q0
        clear ha hd hst
        exact StepI.pure (v := .pointer (some ⟨g, 0, none⟩)) rfl rfl (by go_simp) ⟨rfl, hI⟩
      · intro us au w1 k5 hlo hhi ha hd hst hI
        obtain rfl : k5 = 0 := by omega
        have e4 := hd 4 _ (by kernel_rfl) rfl
        have q30 := slot_at (t := 30) 4 ha (by kernel_rfl) (by kernel_rfl) (by kernel_rfl) e4
        have p30 := slot_norm q30
        clear ha hd hst
        exact StepI.pure (v := .pointer (some ⟨g, 0, none⟩)) rfl rfl (by go_simp) ⟨rfl, hI⟩
      · intro us au w1 k6 hlo hhi ha hd hst hI
        obtain rfl : k6 = 0 := by omega
        have e5 := hd 5 _ (by kernel_rfl) rfl
        have q31 := slot_at (t := 31) 5 ha (by kernel_rfl) (by kernel_rfl) (by kernel_rfl) e5
        have p31 := slot_norm q31
        clear ha hd hst
        exact StepI.pure (v := .pointer (some ⟨g, 1, none⟩)) rfl rfl (by go_simp) ⟨rfl, hI⟩
      · intro us au w1 k7 hlo hhi ha hd hst hI
        obtain rfl : k7 = 0 := by omega
        have e6 := hd 6 _ (by kernel_rfl) rfl
        have q32 := slot_at (t := 32) 6 ha (by kernel_rfl) (by kernel_rfl) (by kernel_rfl) e6
        have p32 := slot_norm q32
        clear ha hd hst
        have cl : w1.cell? ⟨g, 1, none⟩ = some (.int .i64 q) := by rw [show w1 = _ from hI]; exact c1
        exact StepI.pure (v := .int .i64 q) rfl rfl (by go_simp) ⟨rfl, hI⟩
      · intro us au w1 k8 hlo hhi ha hd hst hI
        obtain rfl : k8 = 0 := by omega
        have e7 := hd 7 _ (by kernel_rfl) rfl
        have q33 := slot_at (t := 33) 7 ha (by kernel_rfl) (by kernel_rfl) (by kernel_rfl) e7
        have p33 := slot_norm q33
        clear ha hd hst
        exact StepI.pure (v := .int .i64 d) rfl rfl (by go_simp) ⟨rfl, hI⟩
      · intro us au w1 k9 hlo hhi ha hd hst hI
        obtain rfl : k9 = 0 := by omega
        have q0 := slot_far (t := 0) (v := .pointer (some ⟨g, 0, none⟩)) ha (by kernel_rfl) (by kernel_rfl)
        have p0 := slot_norm q0
        clear ha hd hst
        exact StepI.pure (v := .pointer (some ⟨g, 0, none⟩)) rfl rfl (by go_simp) ⟨rfl, hI⟩
      · intro us au w1 k10 hlo hhi ha hd hst hI
        obtain rfl : k10 = 0 := by omega
        have e9 := hd 9 _ (by kernel_rfl) rfl
        have q35 := slot_at (t := 35) 9 ha (by kernel_rfl) (by kernel_rfl) (by kernel_rfl) e9
        have p35 := slot_norm q35
        clear ha hd hst
        exact StepI.pure (v := .pointer (some ⟨g, 0, none⟩)) rfl rfl (by go_simp) ⟨rfl, hI⟩
      · intro us au w1 k11 hlo hhi ha hd hst hI
        obtain rfl : k11 = 0 := by omega
        have e10 := hd 10 _ (by kernel_rfl) rfl
        have q36 := slot_at (t := 36) 10 ha (by kernel_rfl) (by kernel_rfl) (by kernel_rfl) e10
        have p36 := slot_norm q36
        clear ha hd hst
        exact StepI.pure (v := .pointer (some ⟨g, 1, none⟩)) rfl rfl (by go_simp) ⟨rfl, hI⟩
      · intro us au w1 k12 hlo hhi ha hd hst hI
        obtain rfl : k12 = 0 := by omega
        have e11 := hd 11 _ (by kernel_rfl) rfl
        have q37 := slot_at (t := 37) 11 ha (by kernel_rfl) (by kernel_rfl) (by kernel_rfl) e11
        have p37 := slot_norm q37
        clear ha hd hst
        have cl : w1.cell? ⟨g, 1, none⟩ = some (.int .i64 q) := by rw [show w1 = _ from hI]; exact c1
        exact StepI.pure (v := .int .i64 q) rfl rfl (by go_simp) ⟨rfl, hI⟩
      · intro us au w1 k13 hlo hhi ha hd hst hI
        obtain rfl : k13 = 0 := by omega
        have e12 := hd 12 _ (by kernel_rfl) rfl
        have q38 := slot_at (t := 38) 12 ha (by kernel_rfl) (by kernel_rfl) (by kernel_rfl) e12
        have p38 := slot_norm q38
        clear ha hd hst
        exact StepI.pure (v := .int .i64 d) rfl rfl (by go_simp) ⟨rfl, hI⟩
      · intro us au w1 k14 hlo hhi ha hd hst hI
        obtain rfl : k14 = 0 := by omega
        have q1 := slot_far (t := 1) (v := .int .i64 n) ha (by kernel_rfl) (by kernel_rfl)
        have p1 := slot_norm q1
        clear ha hd hst
        exact StepI.pure (v := .int .i64 n) rfl rfl (by go_simp) ⟨rfl, hI⟩
      · intro us au w1 k15 hlo hhi ha hd hst hI
        obtain rfl : k15 = 0 := by omega
        have e13 := hd 13 _ (by kernel_rfl) rfl
        have e14 := hd 14 _ (by kernel_rfl) rfl
        have q39 := slot_at (t := 39) 13 ha (by kernel_rfl) (by kernel_rfl) (by kernel_rfl) e13
        have p39 := slot_norm q39
        have q40 := slot_at (t := 40) 14 ha (by kernel_rfl) (by kernel_rfl) (by kernel_rfl) e14
        have p40 := slot_norm q40
        clear ha hd hst
        exact StepI.pure (v := .int .i64 m) rfl rfl (by go_simp) ⟨rfl, hI⟩
      · intro us au w1 k16 hlo hhi ha hd hst hI
        obtain rfl : k16 = 0 := by omega
        have e3 := hd 3 _ (by kernel_rfl) rfl
        have e8 := hd 8 _ (by kernel_rfl) rfl
        have e15 := hd 15 _ (by kernel_rfl) rfl
        have q29 := slot_at (t := 29) 3 ha (by kernel_rfl) (by kernel_rfl) (by kernel_rfl) e3
        have p29 := slot_norm q29
        have q34 := slot_at (t := 34) 8 ha (by kernel_rfl) (by kernel_rfl) (by kernel_rfl) e8
        have p34 := slot_norm q34
        have q41 := slot_at (t := 41) 15 ha (by kernel_rfl) (by kernel_rfl) (by kernel_rfl) e15
        have p41 := slot_norm q41
        clear ha hd hst
        exact StepI.pure (v := .slice (some ⟨b, o + d, none⟩) n (c - d)) rfl rfl (by go_simp) ⟨rfl, hI⟩
      · intro us au w1 ha hd hst hI
        have e16 := hd 16 _ (by kernel_rfl) rfl
        have q42 := slot_at (t := 42) 16 ha (by kernel_rfl) (by kernel_rfl) (by kernel_rfl) e16
        have p42 := slot_norm q42
        clear ha hd hst
        have hw1 : w1 = wB.drew := hI
        have hsrc := Src.ints (P := Try.prog) (c := c - d) (HROW.out.heap (w' := w1) (by rw [hw1]; rfl))
        rw [HLEN.out] at hsrc
        have hws : wB.heap.size ≤ w1.heap.size := by rw [hw1]; exact Nat.le_refl _
        have hwb : Below wB.drew.heap.size wB.drew w1 := by rw [hw1]; exact Below.refl _ _
        refine StepI.wp rfl rfl (fun K hK => ?_)
        refine wp_append_S (.const (.slice none 0 0)) (.tmp 42) 22 22 rfl i0 (.int .u8 0) 1 (.slice 5) Try.underlying22 Try.underlying22 (fun _ h => by cases h) hi hz0 hz1 hz2 rfl (v := .slice none 0 0) (x := .slice (some ⟨b, o + d, none⟩) n (c - d)) rfl q42 (OwnS.nil w1 wB.heap.size _ _) hsrc (by unfold maxLen; omega) (by omega) hws ?_
        rw [Nat.zero_add, List.nil_append]
        intro A c w9 ho9 hg9 hw9
        exact hK _ _ ⟨⟨A, c, rfl⟩, ⟨A, c, rfl, ho9, hwb.grown hg9 hws (fun k h => by cases h)⟩⟩
      · intro us au w1 ha hd hst hI
        obtain ⟨A17, c17, e17⟩ := hd 17 _ (by kernel_rfl) rfl
        have q43 := slot_at (t := 43) 17 ha (by kernel_rfl) (by kernel_rfl) (by kernel_rfl) (Eq.refl (us 17))
        have p43 := slot_norm q43
        clear ha hd hst
        obtain ⟨A9, c9, hv9, h9⟩ := hI
        exact StepI.pure (v := us 17) rfl rfl (by go_simp) ⟨⟨A9, c9, hv9⟩, A9, c9, hv9, h9⟩
    case done =>
      intro us w1 hI hd
      obtain ⟨A5, c5, hv5, ho5, hb5⟩ := hI
      clear hd
      simp only [putAll]
      go_simp
      go_wp2
      go_meet
      exact ⟨A5, c5, (by first | rfl | exact hv5), ho5, ((Below.refl _ _).drew).trans hb5⟩
  case rest =>
    obtain ⟨A5, c5, rfl, ho5, hb5⟩ := hcut
    have hR5 := HR.out.below hb5
    have k1 := hR5.c1
    have f1 := hR5.frozen 1
    have hc5 := ho5.cap
    have HB5 := Lib.hid hb5
    have HO5 := Lib.hid (OwnS.setFar ho5 (a := ⟨g, 1, none⟩) (fun e => by have h1 : wB.heap.size ≤ g := (ho5.lt _ e).1; have := HR.out.blk; omega) (.int .i64 r))
    have HR5 := Lib.hid (hR5.set r)
    have hn9 : (n : Int) ≤ (c5 : Int) := by omega
    have hn8 : (0 : Int) ≤ (n : Int) := by omega
    clear hR5 ho5 hb5 c0 c1
    go_wp2
    go_ret2
    exact ⟨⟨A5, rfl, by rw [HD8.out]; exact (HO5.out.clipI).base_ hsz2⟩, by rw [HRR.out]; exact HR5.out, ((HC2.out.trans (Chg.of_below (S := fun _ => False) HB5.out) (fun _ _ h => h.elim)).setCell (a := ⟨g, 1, none⟩) (.inl rfl) _)⟩
/-- The reader's three cells. -/
def infF (G : Nat) (vo : Value) (most : Nat) (i : Nat) : Value := if i = 0 then .pointer (some ⟨G, 0, none⟩) else if i = 1 then vo else .int .i64 most
/-- The program's reader: block R; its bits: block G; what was made: vo. -/
structure InfAt (L R G : Nat) (bs : List Int) (most : Nat) (w : World) (p : Nat) (vo : Value) (out : List Int) : Prop where
  cel : Cel w R 107 3 (infF G vo most)
  rd : RdRep 130 L G w bs p
  own : OwnS w L 5 1 vo out.length (out.map (Value.int .u8))
  hp : p ≤ 8 * bs.length
  low : L ≤ R
  hm : most ≤ 1000000
  hb : Bytes bs
  ob : Bytes out
  hs : bs.length ≤ 140737488351232
  ol : out.length ≤ most
/-- The blocks that a reader may change. -/
def FiP (R G : Nat) (vo : Value) (k : Nat) : Prop := k = R ∨ k = G ∨ vo.ownBlock = some k
def FreshI (w : World) (v v' : Value) : Prop := v'.ownBlock = v.ownBlock ∨ ∀ k, v'.ownBlock = some k → w.heap.size ≤ k
section
variable {L R G most p : Nat} {bs out : List Int} {w w' w1 : World} {vo vo' vo1 : Value}
theorem InfAt.c0 (h : InfAt L R G bs most w p vo out) : w.cell? ⟨R, 0, none⟩ = some (.pointer (some ⟨G, 0, none⟩)) := h.cel.cell 0 (by decide)
theorem InfAt.c1 (h : InfAt L R G bs most w p vo out) : w.cell? ⟨R, 1, none⟩ = some vo := h.cel.cell 1 (by decide)
theorem InfAt.c2 (h : InfAt L R G bs most w p vo out) : w.cell? ⟨R, 2, none⟩ = some (.int .i64 most) := h.cel.cell 2 (by decide)
theorem InfAt.frozen (h : InfAt L R G bs most w p vo out) (i : Nat) : w.frozen? ⟨R, i, none⟩ = false := h.cel.frozen i
theorem InfAt.neR (h : InfAt L R G bs most w p vo out) : vo.ownBlock ≠ some R := h.own.ne_cel h.cel (by decide)
theorem InfAt.neG (h : InfAt L R G bs most w p vo out) : vo.ownBlock ≠ some G := by
  obtain ⟨f, hf⟩ := h.rd.cel
  exact h.own.ne_cel hf (by decide)
theorem InfAt.RG (h : InfAt L R G bs most w p vo out) : R ≠ G := by
  obtain ⟨f, cs, h1, _⟩ := h.rd.cel
  obtain ⟨cs', h2, _⟩ := h.cel
  intro e
  subst e
  rw [h1] at h2
  injection h2 with h2
  injection h2 with _ h3 _
  exact absurd h3 (by decide)
theorem InfAt.lt (h : InfAt L R G bs most w p vo out) : ∀ k, FiP R G vo k → L ≤ k ∧ k < w.heap.size := by
  rintro k (rfl | rfl | hk)
  · exact ⟨h.low, h.cel.blk⟩
  · exact ⟨h.rd.low, h.rd.blk⟩
  · exact h.own.lt k hk
/-- What leaves the reader's blocks alone. -/
theorem InfAt.far {S : Nat → Prop} (h : InfAt L R G bs most w p vo out) (hc : Chg S w w') (hS : ∀ k, FiP R G vo k → ¬ S k) (hL : ∀ k, k < L → ¬ S k) : InfAt L R G bs most w' p vo out :=
  ⟨h.cel.chg hc (hS _ (.inl rfl)), h.rd.chg hc (hS _ (.inr (.inl rfl))) hL, h.own.chg hc (fun k hk => hS k (.inr (.inr hk))), h.hp, h.low, h.hm, h.hb, h.ob, h.hs, h.ol⟩
theorem InfAt.below (h : InfAt L R G bs most w p vo out) (hb : Below w.heap.size w w') : InfAt L R G bs most w' p vo out :=
  h.far (S := fun _ => False) (Chg.of_below hb) (fun _ _ h => h) (fun _ _ h => h)
theorem InfAt.drewN (h : InfAt L R G bs most w p vo out) (n : Nat) : InfAt L R G bs most (w.drewN n) p vo out := h.below ⟨rfl, rfl, rfl, Nat.le_refl _, fun _ _ => rfl⟩
theorem InfAt.drew (h : InfAt L R G bs most w p vo out) : InfAt L R G bs most w.drew p vo out := h.below (Below.refl _ _).drew
/-- The bits have gone on. -/
theorem InfAt.went {q : Nat} (h : InfAt L R G bs most w p vo out) (hr : RdRep 130 L G w' bs q) (hc : Chg (fun k => k = G) w w') (hq : q ≤ 8 * bs.length) : InfAt L R G bs most w' q vo out :=
  ⟨h.cel.chg hc h.RG, hr, h.own.chg hc (fun k hk e => h.neG (by rw [← e]; exact hk)), hq, h.low, h.hm, h.hb, h.ob, h.hs, h.ol⟩
theorem FreshI.refl (w : World) (v : Value) : FreshI w v v := .inl rfl
theorem FreshI.trans (h : FreshI w vo vo1) (h' : FreshI w1 vo1 vo') (hs : w.heap.size ≤ w1.heap.size) : FreshI w vo vo' := by
  rcases h' with h' | h'
  · rcases h with h | h
    · exact .inl (h'.trans h)
    · exact .inr fun k hk => h k (by rw [← h']; exact hk)
  · exact .inr fun k hk => Nat.le_trans hs (h' k hk)
/-- Two steps, one behind the other. -/
theorem FiP.trans (h : Chg (FiP R G vo) w w1) (h' : Chg (FiP R G vo1) w1 w') (hF : FreshI w vo vo1) : Chg (FiP R G vo) w w' :=
  h.trans h' fun k hk hs => by
    rcases hs with hs | hs | hs
    · exact .inl hs
    · exact .inr (.inl hs)
    · rcases hF with hF | hF
      · exact .inr (.inr (by rw [← hF]; exact hs))
      · have := hF k hs; omega
end
theorem u32_i64 (x : Int) (h : 0 ≤ x ∧ x < 4294967296) : IntKind.i64.wrap x = x := IntWalk.i64_in _ (by omega)
set_option maxRecDepth 100000 in
set_option maxHeartbeats 4000000 in
theorem iTake_yes (L R G most p n : Nat) (bs out : List Int) (w : World) (vo : Value) (v : Int) (h : InfAt L R G bs most w p vo out) (hn : n ≤ 16) (hv : tk bs p n = some v) :
    Calls Try.prog 70 #[.pointer (some ⟨R, 0, none⟩), .int .i64 n] w fun e w' => e = .returned (.tuple #[.int .i64 v, .int .i64 0]) ∧ InfAt L R G bs most w' (p + n) vo out ∧ Chg (fun k => k = G) w w' := by
  unfold tk at hv
  by_cases hp : p + n ≤ 8 * bs.length
  · rw [if_pos hp] at hv
    injection hv with hv
    have hb := takeN_le bs p n
    rw [hv] at hb
    have h2 : ((2 : Int) ^ n) ≤ 65536 := by rw [two_pow_cast]; have := Nat.pow_le_pow_right (n := 2) (by decide) hn; omega
    have hu := u32_i64 v ⟨hb.1, by omega⟩
    have ht := take_yes L G bs p n w h.rd h.hb (by omega) hp (by have := h.hs; omega)
    rw [hv] at ht
    have HT := Lib.hid ht
    have HI := Lib.hid h
    have c0 := h.c0
    clear ht h hv hb h2
    go_enter Try.func70, Try.ntmps70
    go_wp2_with fail
    refine HT.out.mono ?_
    rintro e w1 ⟨rfl, hR, hC⟩
    have HR := Lib.hid hR
    have HC := Lib.hid hC
    clear hR hC HT
    go_wp2
    go_ret2
    exact ⟨rfl, HI.out.went HR.out HC.out hp, HC.out⟩
  · rw [if_neg hp] at hv; cases hv
set_option maxRecDepth 100000 in
set_option maxHeartbeats 4000000 in
theorem iTake_no (L R G most p n : Nat) (bs out : List Int) (w : World) (vo : Value) (h : InfAt L R G bs most w p vo out) (hn : n ≤ 16) (hv : tk bs p n = none) :
    Calls Try.prog 70 #[.pointer (some ⟨R, 0, none⟩), .int .i64 n] w fun e w' => e = .returned (.tuple #[.int .i64 0, .int .i64 4]) ∧ ∃ m, w' = w.drewN m := by
  unfold tk at hv
  by_cases hp : p + n ≤ 8 * bs.length
  · rw [if_pos hp] at hv; cases hv
  · have ht := take_no L G bs p n w h.rd (by omega) h.hp (by omega) (by have := h.hs; omega)
    have HT := Lib.hid ht
    have c0 := h.c0
    clear ht h hv
    go_enter Try.func70, Try.ntmps70
    go_wp2_with fail
    refine HT.out.mono ?_
    rintro e w1 ⟨rfl, m, rfl⟩
    clear HT
    go_wp2
    go_ret2
    exact ⟨rfl, m, rfl⟩
set_option maxRecDepth 100000 in
set_option maxHeartbeats 4000000 in
theorem iPut_no (L R G most p : Nat) (bs out : List Int) (w : World) (vo : Value) (c : Int) (h : InfAt L R G bs most w p vo out) (hl : most ≤ out.length) :
    Calls Try.prog 105 #[.pointer (some ⟨R, 0, none⟩), .int .u8 c] w fun e w' => e = .returned (.int .i64 5) ∧ ∃ m, w' = w.drewN m := by
  obtain ⟨A, cc, hvo⟩ := h.own.shape
  subst hvo
  have c1 := h.c1
  have c2 := h.c2
  have d1 : decide ((most : Int) ≤ (out.length : Int)) = true := decide_eq_true (by omega)
  have d2 : decide (most ≤ out.length) = true := decide_eq_true hl
  clear h
  go_enter Try.func105, Try.ntmps105
  go_wp2
  go_quiet (fail)
  go_wp2
  go_ret
  exact ⟨rfl, nq, rfl⟩
/-- What put leaves. -/
def PutPost (L R G : Nat) (bs : List Int) (most p : Nat) (vo : Value) (out' : List Int) (w : World) (e : Ending) (w' : World) : Prop :=
  e = .returned (.int .i64 0) ∧ ∃ vo', InfAt L R G bs most w' p vo' out' ∧ Chg (FiP R G vo) w w' ∧ FreshI w vo vo'
set_option maxRecDepth 100000 in
set_option maxHeartbeats 4000000 in
theorem iPut_yes (L R G most p : Nat) (bs out : List Int) (w : World) (vo : Value) (c : Int) (h : InfAt L R G bs most w p vo out) (hl : out.length < most) (hc : 0 ≤ c ∧ c < 256) :
    Calls Try.prog 105 #[.pointer (some ⟨R, 0, none⟩), .int .u8 c] w (PutPost L R G bs most p vo (out ++ [c]) w) := by
  obtain ⟨A, cc, hvo⟩ := h.own.shape
  have c1 := h.c1
  have c2 := h.c2
  have hown := h.own
  have HI := Lib.hid h
  have hm := h.hm
  rw [hvo] at c1 hown
  have HV := Lib.hid hvo
  have d1 : decide ((most : Int) ≤ (out.length : Int)) = false := decide_eq_false (by omega)
  have d2 : decide (most ≤ out.length) = false := decide_eq_false (by omega)
  obtain ⟨i0, hi, hz0, hz1, hz2⟩ := info_parts Try.info_u8
  have hmx1 : out.length + 1 ≤ maxLen := by unfold maxLen; omega
  have hmx2 : (out.length + 1) * 1 ≤ 140737488355328 := by omega
  have HC := Lib.hid h.cel
  clear h hvo
  go_enter Try.func105, Try.ntmps105
  go_wp2
  go_quiet (fail)
  have hown2 : OwnS (w.drewN nq) L 5 1 (.slice A out.length cc) out.length (out.map (Value.int .u8)) := hown.heap (fun _ _ => rfl)
  have HI2 := Lib.hid (HI.out.drewN nq)
  have k1 := HI2.out.c1
  rw [HV.out] at k1
  have HD := Lib.hid (show Chg (FiP R G vo) w (w.drewN nq) from (Chg.refl _ _).drewN nq)
  clear c1 c2 hown HC HI
  generalize w.drewN nq = wA at *
  have hLs : L ≤ (wA.alloc (.cells #[.int .u8 c] 5)).heap.size := by have h1 := HI2.out.low; have h2 := HI2.out.cel.blk; simp; omega
  have hown3 := Lib.hid (hown2.alloc (.cells #[.int .u8 c] 5))
  have k3 := (HI2.out.cel.alloc (.cells #[.int .u8 c] 5)).cell 1 (by decide)
  have k4 : (wA.alloc (.cells #[.int .u8 c] 5)).cell? ⟨R, 1, none⟩ = some (.slice A out.length cc) := k3.trans (by rw [← HV.out]; rfl)
  clear hown2 k3
  go_wp2_with (at_builtin; go_loud (refine wpList_append_S rfl (.tmp 19) (.tmp 21) 22 22 rfl i0 (.int .u8 0) 1 (.slice 5) Try.underlying22 Try.underlying22 (fun _ h => by cases h) hi hz0 hz1 hz2 rfl rfl rfl hown3.out (Src.one_new (u := .int .u8 c) rfl) hmx1 hmx2 hLs ?_; intro A9 c9 w9 ho9 hg9 hw9; have hC9 := (HI2.out.cel.alloc (.cells #[.int .u8 c] 5)).grown hg9 (by have := HI2.out.neR; rw [HV.out] at this; exact this); have y9 := hC9.cell 1 (by decide); have yf := hC9.frozen 1))
  all_goals
    go_wp2
    go_ret
    have hC := ((Chg.refl (FiP R G vo) wA).alloc (.cells #[.int .u8 c] 5)).trans (Chg.of_grown (S := FiP R G vo) hg9 (fun k hk => .inr (.inr (by rw [HV.out]; exact hk)))) (fun _ _ h => h)
    have hC2 := hC.setCell (a := ⟨R, 1, none⟩) (.inl (.inl rfl)) (.slice A9 (out.length + 1) c9)
    have hw9 : (Value.slice A9 (out.length + 1) c9).ownBlock = (Value.slice A out.length cc).ownBlock ∨ (Value.slice A9 (out.length + 1) c9).ownBlock = some (wA.alloc (.cells #[.int .u8 c] 5)).heap.size := hw9
    have ho9' : OwnS w9 L 5 1 (.slice A9 (out.length + 1) c9) (out ++ [c]).length ((out ++ [c]).map (Value.int .u8)) := by
      rw [List.length_append, List.map_append]; exact ho9
    have hRd : RdRep 130 L G w9 bs p := HI2.out.rd.chg (S := fun k => vo.ownBlock = some k) ((Chg.refl _ wA).alloc _ |>.trans (Chg.of_grown hg9 (fun k hk => by rw [HV.out]; exact hk)) (fun _ _ h => h)) (fun e => HI2.out.neG e) (fun k hk e => by have := (HI2.out.own.lt k e).1; omega)
    refine ⟨rfl, .slice A9 (out.length + 1) c9, ⟨?_, ?_, ?_, HI2.out.hp, HI2.out.low, HI2.out.hm, HI2.out.hb, ?_, HI2.out.hs, by rw [List.length_append]; exact hl⟩, HD.out.trans hC2 (fun _ _ h => h), ?_⟩
    · refine (hC9.set 1 _).congr (fun i hi => ?_)
      unfold infF
      by_cases e : i = 1
      · subst e; rfl
      · rw [if_neg e]
        by_cases e0 : i = 0
        · rw [if_pos e0, if_pos e0]
        · rw [if_neg e0, if_neg e0, if_neg e, if_neg e]
    · exact hRd.chg ((Chg.refl (fun k => k = R) w9).setCell (a := ⟨R, 1, none⟩) (.inl rfl) _) (fun e => HI2.out.RG e.symm) (fun k hk e => by have := HI2.out.low; omega)
    · refine ho9'.setFar (fun e => ?_) _
      rcases hw9 with hw9 | hw9
      · exact HI2.out.neR (by rw [HV.out, ← hw9]; exact e)
      · rw [hw9] at e
        injection e with e
        have h1 := HI2.out.cel.blk
        have h2 : (wA.alloc (.cells #[.int .u8 c] 5)).heap.size = R := e
        simp at h2
        omega
    · intro x hx
      rcases List.mem_append.1 hx with hx | hx
      · exact HI2.out.ob x hx
      · rw [List.mem_singleton] at hx; subst hx; exact hc
    · rcases hw9 with hw9 | hw9
      · exact .inl (by rw [hw9, HV.out])
      · refine .inr fun k hk => ?_
        rw [hw9] at hk
        injection hk with hk
        have h1 := HD.out.size
        subst hk
        simp
        omega
end Go.Proofs.Ytoeipgbnjcgbjaa
