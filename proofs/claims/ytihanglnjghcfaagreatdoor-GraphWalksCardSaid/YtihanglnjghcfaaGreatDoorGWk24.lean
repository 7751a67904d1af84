/- What the document fixes, awake. -/
import Derived.Test.YtihanglnjghcfaaGreatDoorGWk23
import Derived.Deep.CutBlock
import Derived.Deep.DeepCutAuto
import Derived.Test.YtihanglnjghcfaaGreatDoorGWk20
import Derived.Test.YtihanglnjghcfaaGreatDoorGWk19
import Derived.Test.YtihanglnjghcfaaGreatDoorGWk3
import Derived.Test.YtihanglnjghcfaaGreatDoorGWk11
namespace Go.Proofs.YtihanglnjghcfaaGreatDoor
open Go.RowKit Go.Maps
set_option linter.unusedVariables false
set_option linter.unusedSimpArgs false

theorem StrsAt.one (w : World) (d : Gid) : StrsAt (w.alloc (.cells #[.string (bk d)] 9)) (some ⟨w.heap.size, 0, none⟩) ([d].map bk) := fun _ =>
  ⟨w.heap.size, 0, rfl, by simp, fun i s hi => by
    have : i = 0 := by have := (List.getElem?_eq_some_iff.1 hi).1; simp at this; exact this
    subst this
    simp at hi
    subst hi
    rw [World.cell?_alloc_at _ _ _ _ (by simp)]; rfl⟩
/-- The closure by way of the law's Get. -/
theorem clos_get (hSo : SortsS) {B r b1 b2 : Nat} {W : World} {R : List Kn} {gone : Gid} {U : List Gid} (hU : Univ (withoutK R gone) U) (hR : RepAt W (fun k => B ≤ k) r R) (hl : R.length ≤ 1073741824) (hE : EnvO W)
    (ht : 1 < B ∧ 2 < B) (hB : B ≤ W.heap.size) (h1 : B ≤ b1) (h2 : B ≤ b2) (k1 : W.cell? ⟨b1, 0, none⟩ = some (.pointer (some ⟨r, 0, none⟩))) (k2 : W.cell? ⟨b2, 0, none⟩ = some (.string (bk gone))) (hz : ∀ x ∈ R, x.b.length ≤ 268435456)
    (A : Option Addr) (n c : Nat) (rs : List Gid) (most : Int) (hS : StrsAt W A (rs.map bk)) (hn : rs.length = n) (hln : n ≤ 268435456) (hs : ∀ r ∈ rs, r.length ≤ 1099511627776) (hrU : ∀ r ∈ rs, r ∈ U) :
    Calls Tryz.prog 16 #[fnV 38 (.pointer (some ⟨b1, 0, none⟩)) (.pointer (some ⟨b2, 0, none⟩)), .slice A n c, .int .i64 most] W fun e w' =>
      RepAt w' (fun k => B ≤ k) r R ∧ Chg (fun k => B ≤ k) W w' ∧ ClosAns (closR (withoutK R gone) U rs most) W w' e := by
  have hst : GetSt r b1 b2 R gone (fun k => B ≤ k ∧ k < W.heap.size) [] W := ⟨fun k h => h.2, hR.mono fun k hk hl => ⟨hk, hl⟩, ⟨h1, block_lt k1⟩, ⟨h2, block_lt k2⟩, k1, k2⟩
  refine (closure_any hSo (getter_get r b1 b2 R gone hl (fun x hx => by have := hz x hx; omega)) hU _ [] W A n c rs most hst hE (fun h => by have := h.1; omega) (fun h => by have := h.1; omega) hS hn hln hs hrU).mono ?_
  rintro e w' ⟨F', qs', hst', _, hc, hf, ha⟩
  refine ⟨hst'.2.1.mono fun k hk _ => ?_, hc.mono fun k _ h => h.1, ha⟩
  rcases hf k hk with h | h
  · exact h.1
  · omega
theorem check_get (hSo : SortsS) {B r b1 b2 : Nat} {W : World} {R : List Kn} {gone : Gid} {U : List Gid} (hU : Univ (withoutK R gone) U) (hR : RepAt W (fun k => B ≤ k) r R) (hl : R.length ≤ 1073741824) (hE : EnvO W)
    (ht : 1 < B ∧ 2 < B) (hB : B ≤ W.heap.size) (h1 : B ≤ b1) (h2 : B ≤ b2) (k1 : W.cell? ⟨b1, 0, none⟩ = some (.pointer (some ⟨r, 0, none⟩))) (k2 : W.cell? ⟨b2, 0, none⟩ = some (.string (bk gone))) (hz : ∀ x ∈ R, x.b.length ≤ 268435456)
    (A : Option Addr) (n c : Nat) (rs : List Gid) (most : Int) (hS : StrsAt W A (rs.map bk)) (hn : rs.length = n) (hln : n ≤ 268435456) (hs : ∀ r ∈ rs, r.length ≤ 1099511627776) (hrU : ∀ r ∈ rs, r ∈ U) :
    Calls Tryz.prog 20 #[fnV 38 (.pointer (some ⟨b1, 0, none⟩)) (.pointer (some ⟨b2, 0, none⟩)), .slice A n c, .int .i64 most] W fun e w' =>
      RepAt w' (fun k => B ≤ k) r R ∧ Chg (fun k => B ≤ k) W w' ∧ e = .returned (.int .i64 (match closR (withoutK R gone) U rs most with | .error x => x | .ok _ => 0)) := by
  have hst : GetSt r b1 b2 R gone (fun k => B ≤ k ∧ k < W.heap.size) [] W := ⟨fun k h => h.2, hR.mono fun k hk hl => ⟨hk, hl⟩, ⟨h1, block_lt k1⟩, ⟨h2, block_lt k2⟩, k1, k2⟩
  refine (check_any hSo (getter_get r b1 b2 R gone hl (fun x hx => by have := hz x hx; omega)) hU _ [] W A n c rs most hst hE (fun h => by have := h.1; omega) (fun h => by have := h.1; omega) hS hn hln hs hrU).mono ?_
  rintro e w' ⟨⟨F', qs', hst', hc, hf⟩, ha⟩
  refine ⟨hst'.2.1.mono fun k hk _ => ?_, hc.mono fun k _ h => h.1, ha⟩
  rcases hf k hk with h | h
  · exact h.1
  · omega
set_option maxRecDepth 100000 in
set_option maxHeartbeats 4000000 in
theorem awake_any (hSo : SortsS) (w : World) (hE : EnvO w) : Calls Tryz.prog 11 #[] w fun e w' => e = .returned (.bool true) ∧ Below w.heap.size w w' := by
  have HSO := Lib.hid hSo
  have HE := Lib.hid hE
  have HLT := Lib.hid hE.lt
  have hR0 := RepAt.new w ⟨#[]⟩
  have hB0 : Below w.heap.size w (w.alloc (.cells #[.slice none 0 0, .slice none 0 0, .string ⟨#[]⟩, .bool false] 47)) := (Below.refl _ _).alloc (Nat.le_refl _) _
  clear hSo hE
  go_enter Tryz.func11, Tryz.ntmps11
  go_upto_region 2 with (fail)
  generalize w.alloc (.cells #[.slice none 0 0, .slice none 0 0, .string ⟨#[]⟩, .bool false] 47) = w1 at *
  have HR0 := Lib.hid hR0
  have HB0 := Lib.hid hB0
  clear hR0 hB0
  have HA1 := radd_any (fun k => w.heap.size ≤ k) w.heap.size [] 2 [] w1 HR0.out (fun k hk => by have := HB0.out.size; omega) (by simp) (by simp)
  have HA1 := Lib.hid HA1
  unfold AddK at HA1
  rw [aw_one, show idK 2 [] = et_d from et_id, show bk [] = ⟨#[]⟩ from rfl] at HA1
  go_wp2_with fail
  refine HA1.out.mono ?_
  rintro e w2 ⟨rfl, hr2, hc2⟩
  have HR2 := Lib.hid hr2
  have HB2 := Lib.hid (HB0.out.trans (hc2.below HB0.out.size (fun k hk h => by have h2 : w.heap.size ≤ k := h; omega)))
  clear hr2 hc2 HA1
  have HREF := Lib.hid (refCommit_any ⟨#[]⟩ (.slice none 0 0) (bk et_d) none 0 0 [] perW perW ⟨#[]⟩ ⟨#[]⟩ 0 ⟨#[]⟩ ⟨#[]⟩ w2 StrsAt.nil rfl (by decide) (by decide +kernel))
  rw [aw_bytes] at HREF
  unfold perW at HREF
  go_wp2_with fail
  refine HREF.out.mono ?_
  rintro e w3 ⟨rfl, hb3⟩
  have HB3 := Lib.hid (HB2.out.trans (hb3.mono HB2.out.size))
  have HA2 := radd_any (fun k => w.heap.size ≤ k) w.heap.size [⟨2, [], et_d⟩] 1 ec_b w3 (HR2.out.below hb3) (fun k hk => by have := HB3.out.size; omega) (by simp) (by decide)
  have HA2 := Lib.hid HA2
  unfold AddK at HA2
  rw [aw_two, ec_id] at HA2
  clear hb3 HREF
  go_wp2_with fail
  refine HA2.out.mono ?_
  rintro e w4 ⟨rfl, hr4, hc4⟩
  have HR4 := Lib.hid hr4
  have HB4 := Lib.hid (HB3.out.trans (hc4.below HB3.out.size (fun k hk h => by have h2 : w.heap.size ≤ k := h; omega)))
  clear hr4 hc4 HA2
  have HEB : Hid (∀ W, Below w.heap.size w W → EnvO W) := Lib.hid (fun W hb => HE.out.below hb)
  have HZ : Hid (∀ x ∈ awR, x.b.length ≤ 268435456) := Lib.hid (by
    intro x hx
    simp [awR] at hx
    rcases hx with rfl | rfl
    · simp
    · show ec_b.length ≤ _; decide)
  have HGT := Lib.hid (fun W => get_any W w.heap.size [])
  rw [show bk [] = ⟨#[]⟩ from rfl] at HGT
  have HCL : Hid (∀ (W W1 : World) (b1 b2 : Nat) (most : Int), Below w.heap.size w W → RepAt W (fun k => w.heap.size ≤ k) w.heap.size awR → Below W.heap.size W W1 → b1 = W.heap.size → b2 = W.heap.size + 1 → W1.cell? ⟨b1, 0, none⟩ = some (.pointer (some ⟨w.heap.size, 0, none⟩)) → W1.cell? ⟨b2, 0, none⟩ = some (.string ⟨#[]⟩) →
      Calls Tryz.prog 16 #[.func (.func 38) #[] #[.pointer (some ⟨b1, 0, none⟩), .pointer (some ⟨b2, 0, none⟩)], .slice (some ⟨W1.heap.size, 0, none⟩) 1 1, .int .i64 most] (W1.alloc (.cells #[.string (bk ec_d)] 9)) fun e w' =>
        RepAt w' (fun k => w.heap.size ≤ k) w.heap.size awR ∧ Below w.heap.size w w' ∧ ClosAns (closR (withoutK awR []) [ec_d, et_d] [ec_d] most) (W1.alloc (.cells #[.string (bk ec_d)] 9)) w' e) := Lib.hid (fun W W1 b1 b2 most hb hR hb1 e1 e2 k1 k2 => by
    have hs := hb.size
    have hal : Below W1.heap.size W1 (W1.alloc (.cells #[.string (bk ec_d)] 9)) := (Below.refl _ _).alloc (Nat.le_refl _) _
    have hbW1 : Below w.heap.size w W1 := hb.trans (hb1.mono hs)
    have hbA : Below w.heap.size w (W1.alloc (.cells #[.string (bk ec_d)] 9)) := hbW1.trans (hal.mono hbW1.size)
    refine (clos_get HSO.out (B := w.heap.size) (b1 := b1) (b2 := b2) aw_univ ((hR.below hb1).below hal) (by decide) (HEB.out _ hbA) HLT.out hbA.size (by omega) (by omega) ((hal.cell (block_lt k1)).trans k1) ((hal.cell (block_lt k2)).trans k2) HZ.out _ 1 1 [ec_d] most (StrsAt.one W1 ec_d) rfl (by decide) (by intro q hq; simp at hq; subst hq; decide) (by simp)).mono ?_
    rintro e w' ⟨hR', hc', ha⟩
    exact ⟨hR', hbA.trans (hc'.below hbA.size (fun k hk h => by omega)), ha⟩)
  have HCH : Hid (∀ (W W1 : World) (b1 b2 : Nat) (most : Int), Below w.heap.size w W → RepAt W (fun k => w.heap.size ≤ k) w.heap.size awR → Below W.heap.size W W1 → b1 = W.heap.size → b2 = W.heap.size + 1 → W1.cell? ⟨b1, 0, none⟩ = some (.pointer (some ⟨w.heap.size, 0, none⟩)) → W1.cell? ⟨b2, 0, none⟩ = some (.string ⟨#[]⟩) →
      Calls Tryz.prog 20 #[.func (.func 38) #[] #[.pointer (some ⟨b1, 0, none⟩), .pointer (some ⟨b2, 0, none⟩)], .slice (some ⟨W1.heap.size, 0, none⟩) 1 1, .int .i64 most] (W1.alloc (.cells #[.string (bk ec_d)] 9)) fun e w' =>
        Below w.heap.size w w' ∧ e = .returned (.int .i64 (match closR (withoutK awR []) [ec_d, et_d] [ec_d] most with | .error x => x | .ok _ => 0))) := Lib.hid (fun W W1 b1 b2 most hb hR hb1 e1 e2 k1 k2 => by
    have hs := hb.size
    have hal : Below W1.heap.size W1 (W1.alloc (.cells #[.string (bk ec_d)] 9)) := (Below.refl _ _).alloc (Nat.le_refl _) _
    have hbW1 : Below w.heap.size w W1 := hb.trans (hb1.mono hs)
    have hbA : Below w.heap.size w (W1.alloc (.cells #[.string (bk ec_d)] 9)) := hbW1.trans (hal.mono hbW1.size)
    refine (check_get HSO.out (B := w.heap.size) (b1 := b1) (b2 := b2) aw_univ ((hR.below hb1).below hal) (by decide) (HEB.out _ hbA) HLT.out hbA.size (by omega) (by omega) ((hal.cell (block_lt k1)).trans k1) ((hal.cell (block_lt k2)).trans k2) HZ.out _ 1 1 [ec_d] most (StrsAt.one W1 ec_d) rfl (by decide) (by intro q hq; simp at hq; subst hq; decide) (by simp)).mono ?_
    rintro e w' ⟨hR', hc', ha⟩
    exact ⟨hbA.trans (hc'.below hbA.size (fun k hk h => by omega)), ha⟩)
  unfold fnV at HGT
  have H9 := HCL.out
  go_wp2_with fail
  refine (HGT.out w4).mono ?_
  rintro e w5 ⟨rfl, hb5, k51, k52⟩
  have HCL5 := Lib.hid (HCL.out w4 w5 w4.heap.size (w4.heap.size + 1) 9 HB4.out HR4.out hb5 rfl rfl k51 k52)
  rw [aw_clos9] at HCL5
  clear hb5 k51 k52 H9
  go_wp2_with fail
  refine HCL5.out.mono ?_
  rintro e w6 ⟨hr6, hb6, A6, rfl, _⟩
  have HR6 := Lib.hid hr6
  have HB6 := Lib.hid hb6
  clear hr6 hb6 HCL5
  go_wp2_with fail
  refine (HGT.out w6).mono ?_
  rintro e w7 ⟨rfl, hb7, k71, k72⟩
  have HCL7 := Lib.hid (HCL.out w6 w7 w6.heap.size (w6.heap.size + 1) 1 HB6.out HR6.out hb7 rfl rfl k71 k72)
  rw [aw_clos1] at HCL7
  clear hb7 k71 k72
  go_wp2_with fail
  refine HCL7.out.mono ?_
  rintro e w8 ⟨hr8, hb8, rfl⟩
  have HR8 := Lib.hid hr8
  have HB8 := Lib.hid hb8
  clear hr8 hb8 HCL7
  go_wp2_with fail
  refine (HGT.out w8).mono ?_
  rintro e w9 ⟨rfl, hb9, k91, k92⟩
  have HCL9 := Lib.hid (HCH.out w8 w9 w8.heap.size (w8.heap.size + 1) 9 HB8.out HR8.out hb9 rfl rfl k91 k92)
  rw [aw_clos9] at HCL9
  clear hb9 k91 k92
  go_wp2_with fail
  refine HCL9.out.mono ?_
  rintro e w10 ⟨hb10, rfl⟩
  have HB10 := Lib.hid hb10
  clear hb10 HCL9
  go_wp2
  go_ret
  exact ⟨rfl, HB10.out⟩
end Go.Proofs.YtihanglnjghcfaaGreatDoor
namespace Go.Proofs.YtihanglnjghcfaaGreatDoor
open Go.RowKit Go.Maps
set_option linter.unusedVariables false
set_option linter.unusedSimpArgs false

def noneW : Gid := [110, 111, 110, 101]
/-- The n-th of all IDs, or a text that is none. -/
def someK (R : List Kn) (n : Int) : Gid := if R.length = 0 ∨ n < 0 then noneW else (R[n.toNat % R.length]?.map (·.id)).getD []
set_option maxRecDepth 100000 in
set_option maxHeartbeats 2000000 in
theorem some_any (K : Nat → Prop) (r : Nat) (R : List Kn) (n : Int) (w : World) (h : RepAt w K r R) (hl : R.length ≤ 1048576) (hn : n ≤ 9223372036854775807) :
    Calls Tryz.prog 13 #[.pointer (some ⟨r, 0, none⟩), .int .i64 n] w fun e w' => e = .returned (.string (bk (someK R n))) ∧ Below w.heap.size w w' := by
  obtain ⟨_, A, c, _, _, _, hce, how, _⟩ := h
  have k0 : w.cell? ⟨r, 0, none⟩ = some (.slice A R.length c) := hce.cell 0 (by decide)
  by_cases hz : R.length = 0
  · have HR : Hid (someK R n = noneW) := Lib.hid (by unfold someK; rw [if_pos (.inl hz)])
    have d0 : ((R.length : Int) == 0) = true := by rw [beq_iff_eq]; omega
    have d0' : (R.length : Int) = 0 := by omega
    rw [hz] at k0 d0'
    clear hce how hz d0
    go_enter Tryz.func13, Tryz.ntmps13
    go_wp2
    go_ret
    exact ⟨by rw [HR.out]; rfl, Below.refl _ _⟩
  · have d0 : ((R.length : Int) == 0) = false := by rw [beq_eq_false_iff_ne]; omega
    have d0' : ¬ (R.length : Int) = 0 := by omega
    have d0'' : ¬ R.length = 0 := hz
    by_cases hneg : n < 0
    · have d1 : decide (n < 0) = true := decide_eq_true hneg
      have HR : Hid (someK R n = noneW) := Lib.hid (by unfold someK; rw [if_pos (.inr hneg)])
      clear hce how
      go_enter Tryz.func13, Tryz.ntmps13
      go_wp2
      go_ret
      exact ⟨by rw [HR.out]; rfl, Below.refl _ _⟩
    · have d1 : decide (n < 0) = false := decide_eq_false hneg
      have hq : n.toNat % R.length < R.length := Nat.mod_lt _ (by omega)
      have HR : Hid (someK R n = R[n.toNat % R.length].id) := Lib.hid (by unfold someK; rw [if_neg (by omega), List.getElem?_eq_getElem hq]; rfl)
      have ht : (n.tmod (R.length : Int)) = ((n.toNat % R.length : Nat) : Int) := by
        rw [Int.tmod_eq_emod_of_nonneg (by omega)]
        have : n = (n.toNat : Int) := by omega
        conv => lhs; rw [this]
        rfl
      obtain ⟨b, o, hA, _, _, hc⟩ := OwnS.flat knV_len (by decide) how (List.getElem?_eq_getElem hq)
      subst hA
      have f2 : w.cell? ⟨b, o + (n.toNat % R.length) * 3 + 2, none⟩ = some (.string (bk R[n.toNat % R.length].id)) := hc 2 (by decide)
      generalize hy : R[n.toNat % R.length] = y at *
      clear hy
      generalize n.toNat % R.length = q at *
      have hle : ¬ (R.length : Int) ≤ q := by omega
      have hn0 : (0 : Int) ≤ q := by omega
      have hnl : (q : Int) < R.length := by omega
      have hw : IntKind.i64.wrap (q : Int) = q := IntWalk.i64_in _ (by omega)
      clear hce how hc hl
      go_enter Tryz.func13, Tryz.ntmps13
      go_upto_region 3 with (fail)
      go_quiet (fail)
      go_wp2
      go_ret
      exact ⟨by rw [HR.out]; rfl, Below.drewN (Below.refl _ _) _⟩
end Go.Proofs.YtihanglnjghcfaaGreatDoor
namespace Go.Proofs.YtihanglnjghcfaaGreatDoor
open Go.RowKit Go.Maps
set_option linter.unusedVariables false
set_option linter.unusedSimpArgs false

def idsK (R : List Kn) (xs : List Int) : List Gid := (xs.take 6).map (someK R)
theorem idsK_len (R : List Kn) (xs : List Int) : (idsK R xs).length ≤ 6 := by unfold idsK; rw [List.length_map, List.length_take]; omega
def LIdsPost (L : List Gid) (w : World) (e : Ending) (w' : World) : Prop :=
  Below w.heap.size w w' ∧ ∃ A c, e = .returned (.slice A L.length c) ∧ OwnS w' w.heap.size 9 1 (.slice A L.length c) L.length (strVs L)
set_option maxRecDepth 100000 in
set_option maxHeartbeats 2000000 in
theorem lids_any (K : Nat → Prop) (r : Nat) (R : List Kn) (A : Option Addr) (n c : Nat) (xs : List Int) (w : World) (h : RepAt w K r R) (hl : R.length ≤ 1048576) (hI : Ints .i64 w A xs) (hn : xs.length = n) (hnm : n ≤ 9223372036854775807) (hx : ∀ x ∈ xs, x ≤ 9223372036854775807) :
    Calls Tryz.prog 15 #[.pointer (some ⟨r, 0, none⟩), .slice A n c] w (LIdsPost (idsK R xs) w) := by
  obtain ⟨i0, hi, hz0, hz1, hz2⟩ := info_parts info_str1
  have HI := Lib.hid hI
  have HN := Lib.hid hn
  have HX := Lib.hid hx
  have HR := Lib.hid h
  have HL := Lib.hid hl
  clear h hl hI hn hx
  go_enter Tryz.func15, Tryz.ntmps15
  go_wp2
  go_loopw [5, 6] (fun v5 v6 wr => ∃ (i : Nat) (A5 : Option Addr) (c5 : Nat), v6 = .int .i64 i ∧ v5 = .slice A5 i c5 ∧ i ≤ n ∧ i ≤ 6 ∧ OwnS wr w.heap.size 9 1 (.slice A5 i c5) i (strVs ((xs.take i).map (someK R))) ∧ Below w.heap.size w wr) (fun _ v6 _ => 6 - (intOf v6).toNat)
  case atStart => exact ⟨0, none, 0, rfl, rfl, by omega, by omega, OwnS.nil _ _ _ _, Below.refl _ _⟩
  case round =>
    obtain ⟨i, A5, c5, rfl, rfl, hin, hi6, ho, hb⟩ := hrel
    have HO := Lib.hid ho
    have HB := Lib.hid hb
    clear ho hb
    by_cases hlt : i < n
    · have d1 : decide ((i : Int) < (n : Int)) = true := decide_eq_true (by omega)
      have d1' : decide (i < n) = true := decide_eq_true hlt
      by_cases hlt6 : i < 6
      · have d2 : decide ((i : Int) < 6) = true := decide_eq_true (by omega)
        have d2' : decide (i < 6) = true := decide_eq_true hlt6
        have hix : i < xs.length := by rw [HN.out]; exact hlt
        obtain ⟨b, o, hA, hbl, hcl⟩ := HI.out (by omega)
        have hc0 := hcl i hix
        have hgd : xs.getD i 0 = xs[i] := by rw [List.getD_eq_getElem?_getD, List.getElem?_eq_getElem hix]; rfl
        rw [hgd] at hc0
        have hxb := HX.out xs[i] (List.getElem_mem hix)
        have HTK : Hid (strVs ((xs.take (i + 1)).map (someK R)) = strVs ((xs.take i).map (someK R)) ++ [.string (bk (someK R xs[i]))]) := Lib.hid (by unfold strVs; rw [List.take_add_one, List.getElem?_eq_getElem hix, List.map_append, List.map_append]; rfl)
        subst hA
        generalize xs[i] = x at *
        have f0 := (HB.out.cell (p := ⟨b, o + i, none⟩) hbl).trans hc0
        have hle : ¬ (n : Int) ≤ i := by omega
        have hn0 : (0 : Int) ≤ i := by omega
        have hnl : (i : Int) < n := by omega
        have hw1 : IntKind.i64.wrap ((i : Int) + 1) = (i : Int) + 1 := IntWalk.i64_in _ (by omega)
        have HSM := Lib.hid (some_any K r R x wr (HR.out.below HB.out) HL.out hxb)
        have hm9 : i + 1 ≤ maxLen := by unfold maxLen; omega
        have hb9 : (i + 1) * 16 ≤ 140737488355328 := by omega
        clear hcl hc0 hbl hix hgd hxb
        go_wp2_with fail
        refine HSM.out.mono ?_
        rintro e w2 ⟨rfl, hb2⟩
        have HS := Lib.hid (Src.one_new (P := Tryz.prog) (w := w2) (u := .string (bk (someK R x))) (t := 9) rfl)
        have HOA := Lib.hid ((HO.out.chg (S := fun _ => False) (Chg.of_below hb2) (fun _ _ h => h)).alloc (.cells #[.string (bk (someK R x))] 9))
        have HBA : Hid (Below w.heap.size w (w2.alloc (.cells #[.string (bk (someK R x))] 9))) := Lib.hid ((HB.out.trans (hb2.mono HB.out.size)).trans (((Below.refl _ _).alloc (Nat.le_refl _) _).mono (HB.out.trans (hb2.mono HB.out.size)).size))
        clear hb2
        go_wp2_with (at_builtin; go_loud (refine wpList_append_S rfl (.tmp 17) (.tmp 24) 32 32 rfl i0 (.string ⟨#[]⟩) 16 (.slice 9) Tryz.underlying32 Tryz.underlying32 (fun _ h => by cases h) hi hz0 hz1 hz2 rfl rfl rfl HOA.out HS.out hm9 hb9 HBA.out.size ?_; intro A8 c8 w8; generalize hnn : i + 1 = nn at *; intro ho8 hg8 hw8; have HO8 := Lib.hid ho8; have HB8 := Lib.hid (HBA.out.grown hg8 HBA.out.size (fun j hj => (HOA.out.lt j hj).1)); have HNN := Lib.hid hnn; clear ho8 hg8 hw8 hnn))
        go_roundw
        case rel => exact ⟨nn, A8, c8, by rw [← HNN.out]; rfl, rfl, by have := HNN.out; omega, by have := HNN.out; omega, by rw [HTK.out]; exact HO8.out, HB8.out⟩
        case measure => have := HNN.out; simp [intOf]; omega
      · have d2 : decide ((i : Int) < 6) = false := decide_eq_false (by omega)
        have d2' : decide (i < 6) = false := decide_eq_false hlt6
        have he6 : i = 6 := by omega
        have e1 : (idsK R xs).length = i := by unfold idsK; rw [List.length_map, List.length_take, HN.out]; omega
        have HE := Lib.hid e1
        have HT6 : Hid (strVs ((xs.take i).map (someK R)) = strVs (idsK R xs)) := Lib.hid (by rw [he6]; rfl)
        clear e1 he6
        go_wp2
        go_ret
        exact ⟨HB.out, A5, c5, by rw [HE.out]; rfl, by rw [HE.out, ← HT6.out]; exact HO.out⟩
    · have d1 : decide ((i : Int) < (n : Int)) = false := decide_eq_false (by omega)
      have d1' : decide (i < n) = false := decide_eq_false hlt
      have e1 : (idsK R xs).length = i := by unfold idsK; rw [List.length_map, List.length_take, HN.out]; omega
      have HE := Lib.hid e1
      have HT6 : Hid (strVs ((xs.take i).map (someK R)) = strVs (idsK R xs)) := Lib.hid (by
        unfold idsK
        have hni : n = i := by omega
        rw [List.take_of_length_le (l := xs) (i := i) (by rw [HN.out]; omega), List.take_of_length_le (l := xs) (i := 6) (by rw [HN.out]; omega)])
      clear e1
      go_wp2
      go_ret
      exact ⟨HB.out, A5, c5, by rw [HE.out]; rfl, by rw [HE.out, ← HT6.out]; exact HO.out⟩
end Go.Proofs.YtihanglnjghcfaaGreatDoor
namespace Go.Proofs.YtihanglnjghcfaaGreatDoor
open Go.RowKit Go.Maps
set_option linter.unusedVariables false
set_option linter.unusedSimpArgs false

/-- All that may be come to from some roots. -/
def univK (R : List Kn) (rs : List Gid) : List Gid := rs ++ R.flatMap fun x => ((lkOf x.kd x.b).getD []).map fun k => k.id.data.toList
theorem univ_of {G : Gid → Option Kn} {R : List Kn} {rs : List Gid} (hG : ∀ d o, G d = some o → o ∈ R) (hl : R.length ≤ 100) (hr : rs.length ≤ 100) (hb : ∀ x ∈ R, x.b.length ≤ 2000) : Univ G (univK R rs) where
  num := by
    unfold univK
    rw [List.length_append]
    have key : ∀ (Q : List Kn), (∀ x ∈ Q, x.b.length ≤ 2000) → (Q.flatMap fun x => ((lkOf x.kd x.b).getD []).map fun k => k.id.data.toList).length ≤ Q.length * 2001 := by
      intro Q
      induction Q with
      | nil => intro _; simp
      | cons x Q ih =>
        intro h
        rw [List.flatMap_cons, List.length_append, List.length_map, List.length_cons, Nat.succ_mul]
        have h1 := ih fun y hy => h y (List.mem_cons_of_mem _ hy)
        have h2 : ((lkOf x.kd x.b).getD []).length ≤ 2001 := by
          cases hk : lkOf x.kd x.b with
          | none => simp
          | some ks =>
            have := lkOf_num hk
            have := h x (by simp)
            show ks.length ≤ _
            omega
        omega
    have := key R hb
    have : R.length * 2001 ≤ 100 * 2001 := Nat.mul_le_mul_right _ hl
    omega
  sz := fun d o h => by have := hb o (hG d o h); omega
  lk := fun d o ks h hk k hkm => by
    unfold univK
    refine List.mem_append_right _ (List.mem_flatMap.2 ⟨o, hG d o h, ?_⟩)
    rw [hk]
    exact List.mem_map.2 ⟨k, hkm, rfl⟩
theorem univ_roots (R : List Kn) (rs : List Gid) : ∀ r ∈ rs, r ∈ univK R rs := fun r hr => List.mem_append_left _ hr
theorem someK_len {R : List Kn} (hR : IdR R) (n : Int) : (someK R n).length ≤ 40 := by
  unfold someK
  split
  · decide
  · cases h : R[n.toNat % R.length]? with
    | none => simp
    | some x =>
      show x.id.length ≤ 40
      rw [hR x (List.mem_of_getElem? h), idK_len]
      exact Nat.le_refl _
theorem getK_mem {R : List Kn} {d : Gid} {o : Kn} (h : getK R d = some o) : o ∈ R := List.mem_of_find?_eq_some h
end Go.Proofs.YtihanglnjghcfaaGreatDoor
namespace Go.Proofs.YtihanglnjghcfaaGreatDoor
open Go.RowKit Go.Maps
set_option linter.unusedVariables false
set_option linter.unusedSimpArgs false

theorem hole_getK (R : List Kn) (gone : Gid) : getK (holeK R gone) = withoutK R gone := by
  funext d
  unfold withoutK
  induction R with
  | nil => simp [holeK, getK]
  | cons x R ih =>
    unfold holeK getK at *
    rw [List.filter_cons]
    by_cases hx : x.id = gone
    · have h1 : (!(x.id == gone)) = false := by simp [hx]
      rw [h1, if_neg (by simp), ih, List.find?_cons]
      by_cases hd : d = gone
      · rw [if_pos hd, if_pos hd]
      · rw [if_neg hd, if_neg hd]
        have h2 : (x.id == d) = false := by rw [beq_eq_false_iff_ne]; exact fun h => hd (h.symm.trans hx)
        rw [h2]
    · have h1 : (!(x.id == gone)) = true := by simp [hx]
      rw [h1, if_pos rfl, List.find?_cons, List.find?_cons]
      by_cases hd : x.id = d
      · have h2 : (x.id == d) = true := by rw [beq_iff_eq]; exact hd
        rw [h2]
        dsimp only
        rw [if_neg (fun h => hx (hd.trans h))]
      · have h2 : (x.id == d) = false := by rw [beq_eq_false_iff_ne]; exact hd
        rw [h2]
        exact ih
theorem goG_one {G : Gid → Option Gob} {most : Int} : ∀ {n i : Nat} {l m : List Git}, goG G most n i l = .ok m → OneG l → OneG m
  | 0, i, l, m, h, h1 => by unfold goG at h; injection h with h; rw [← h]; exact h1
  | n + 1, i, l, m, h, h1 => by
    unfold goG at h
    split at h
    · split at h
      · cases h
      · split at h
        · cases h
        · rename_i hl
          exact goG_one h (lookG_one h1 hl)
    · injection h with h; rw [← h]; exact h1
theorem closR_one {G : Gid → Option Kn} {U : List Gid} {rs : List Gid} {most : Int} {m : List Git} (h : closR G U rs most = .ok m) : OneG m := goG_one h (rootsP_one rs [] List.Pairwise.nil)
theorem before_lt : ∀ a b : List UInt8, bytesBefore a b = true ↔ a < b
  | [], [] => by simp [bytesBefore]
  | _ :: _, [] => by simp [bytesBefore]
  | [], _ :: _ => by simp [bytesBefore]
  | a :: x, b :: y => by
    rw [List.cons_lt_cons_iff, ← before_lt x y]
    simp [bytesBefore]
theorem sortG_rise {L : List Gid} (h : L.Nodup) : Rise (sortG L) := by
  have hs : (sortG L).Pairwise fun x y => decide (x ≤ y) = true := List.pairwise_mergeSort (fun a b c h1 h2 => by simp only [decide_eq_true_eq] at *; exact List.le_trans h1 h2) (fun a b => by simp only [Bool.or_eq_true, decide_eq_true_eq]; exact List.le_total a b) L
  have hn : (sortG L).Nodup := (List.mergeSort_perm _ _).nodup_iff.2 h
  unfold Rise
  refine (hs.and hn).imp fun {a b} hab => ?_
  rw [before_lt]
  have h1 : a ≤ b := by simpa using hab.1
  exact Classical.byContradiction fun hn => hab.2 (List.le_antisymm h1 (List.not_lt.1 hn))
theorem clos_same {G : Gid → Option Kn} {U : List Gid} {rs : List Gid} {most : Int} {m : List Git} (h : closR G U rs most = .ok m) : sortG (m.map (·.id)) = putAllS [] (m.map (·.id)) :=
  sorted_put (fun x => sortG_mem) (sortG_rise (closR_one h))
theorem holeK_le (R : List Kn) (gone : Gid) : (holeK R gone).length ≤ R.length := List.length_filter_le _ _
theorem without_mem {R : List Kn} {gone d : Gid} {o : Kn} (h : withoutK R gone d = some o) : o ∈ R := by
  unfold withoutK at h
  split at h
  · cases h
  · exact getK_mem h
end Go.Proofs.YtihanglnjghcfaaGreatDoor
namespace Go.Proofs.YtihanglnjghcfaaGreatDoor
open Go.RowKit Go.Maps
set_option linter.unusedVariables false
set_option linter.unusedSimpArgs false

def lstE : Except Int (List Git) → List Gid
  | .error _ => []
  | .ok m => putAllS [] (m.map (·.id))
def errE : Except Int (List Git) → Int
  | .error x => x
  | .ok _ => 0
theorem clos_ans {G : Gid → Option Kn} {U rs : List Gid} {most : Int} {w w' : World} {e : Ending} (h : ClosAns (closR G U rs most) w w' e) :
    ∃ A c, e = .returned (.tuple #[.slice A (lstE (closR G U rs most)).length c, .int .i64 (errE (closR G U rs most))]) ∧ StrsAt w' A ((lstE (closR G U rs most)).map bk) ∧ (lstE (closR G U rs most)).length ≤ 9223372036854775807 := by
  cases hc : closR G U rs most with
  | error x =>
    rw [hc] at h
    exact ⟨none, 0, h, StrsAt.nil, Nat.zero_le _⟩
  | ok m =>
    rw [hc] at h
    obtain ⟨A, he, ho⟩ := h
    have hs := clos_same hc
    have hl : m.length = (putAllS [] (m.map (·.id))).length := by rw [← hs, sortG_len, List.length_map]
    rw [hs, hl] at ho
    refine ⟨A, m.length, ?_, ho.strsAt, Nat.le_trans ho.cap ho.capM⟩
    rw [he]
    show _ = Ending.returned (.tuple #[.slice A (putAllS [] (m.map (·.id))).length m.length, .int .i64 0])
    rw [← hl]
theorem rclos_ans {E : Except Int (List Git)} {w w' : World} {e : Ending} (h : RClosAns E w w' e) :
    ∃ A c, e = .returned (.tuple #[.slice A (lstE E).length c, .int .i64 (errE E)]) ∧ StrsAt w' A ((lstE E).map bk) := by
  cases E with
  | error x => exact ⟨none, 0, h, StrsAt.nil⟩
  | ok m =>
    obtain ⟨A, c, he, ho⟩ := h
    exact ⟨A, c, he, ho.strsAt⟩
/-- The closure by way of the law's Get; what is not the repository's stays. -/
theorem clos_getK (hSo : SortsS) {B r b1 b2 : Nat} {K : Nat → Prop} {W : World} {R : List Kn} {gone : Gid} {U : List Gid} (hU : Univ (withoutK R gone) U) (hR : RepAt W K r R) (hK : ∀ k, K k → B ≤ k) (hl : R.length ≤ 1073741824) (hE : EnvO W)
    (ht : 1 < B ∧ 2 < B) (h1 : B ≤ b1) (h2 : B ≤ b2) (k1 : W.cell? ⟨b1, 0, none⟩ = some (.pointer (some ⟨r, 0, none⟩))) (k2 : W.cell? ⟨b2, 0, none⟩ = some (.string (bk gone))) (hz : ∀ x ∈ R, x.b.length ≤ 268435456)
    (A : Option Addr) (n c : Nat) (rs : List Gid) (most : Int) (hS : StrsAt W A (rs.map bk)) (hn : rs.length = n) (hln : n ≤ 268435456) (hs : ∀ r ∈ rs, r.length ≤ 1099511627776) (hrU : ∀ r ∈ rs, r ∈ U) :
    Calls Tryz.prog 16 #[fnV 38 (.pointer (some ⟨b1, 0, none⟩)) (.pointer (some ⟨b2, 0, none⟩)), .slice A n c, .int .i64 most] W fun e w' =>
      RepAt w' (fun k => K k ∨ k = b1 ∨ k = b2 ∨ W.heap.size ≤ k) r R ∧ Chg (fun k => K k ∨ k = b1 ∨ k = b2) W w' ∧ ClosAns (closR (withoutK R gone) U rs most) W w' e := by
  have hst : GetSt r b1 b2 R gone (fun k => (K k ∨ k = b1 ∨ k = b2) ∧ k < W.heap.size) [] W := ⟨fun k h => h.2, hR.mono fun k hk hl => ⟨.inl hk, hl⟩, ⟨.inr (.inl rfl), block_lt k1⟩, ⟨.inr (.inr rfl), block_lt k2⟩, k1, k2⟩
  refine (closure_any hSo (getter_get r b1 b2 R gone hl (fun x hx => by have := hz x hx; omega)) hU _ [] W A n c rs most hst hE (fun h => by rcases h.1 with h | h | h; have := hK _ h; omega; omega; omega) (fun h => by rcases h.1 with h | h | h; have := hK _ h; omega; omega; omega) hS hn hln hs hrU).mono ?_
  rintro e w' ⟨F', qs', hst', _, hc, hf, ha⟩
  refine ⟨hst'.2.1.mono fun k hk _ => ?_, hc.mono fun k _ h => h.1, ha⟩
  rcases hf k hk with h | h
  · rcases h.1 with h | h | h
    · exact .inl h
    · exact .inr (.inl h)
    · exact .inr (.inr (.inl h))
  · exact .inr (.inr (.inr h))
set_option maxRecDepth 100000 in
set_option maxHeartbeats 2000000 in
theorem sameTexts_any (A : Option Addr) (c : Nat) (A2 : Option Addr) (c2 n : Nat) (L : List Gid) (w : World) (h1 : StrsAt w A (L.map bk)) (h2 : StrsAt w A2 (L.map bk)) (hn : L.length = n) (hl : n ≤ 9223372036854775807) :
    Calls Tryz.prog 19 #[.slice A n c, .slice A2 n c2] w fun e w' => e = .returned (.bool true) ∧ Below w.heap.size w w' := by
  have H1 := Lib.hid h1
  have H2 := Lib.hid h2
  have HN := Lib.hid (And.intro hn hl)
  clear h1 h2 hn hl
  go_enter Tryz.func19, Tryz.ntmps19
  go_wp2
  go_loopw [5] (fun vn wr => ∃ i : Nat, vn = .int .i64 i ∧ i ≤ n ∧ Below w.heap.size w wr) (fun vn _ => n - (intOf vn).toNat)
  case atStart => exact ⟨0, rfl, by omega, Below.refl _ _⟩
  case round =>
    obtain ⟨i, rfl, hi, hb⟩ := hrel
    have HB := Lib.hid hb
    clear hb
    by_cases hlt : i < n
    · have d1 : decide ((i : Int) < (n : Int)) = true := decide_eq_true (by omega)
      have d1' : decide (i < n) = true := decide_eq_true hlt
      obtain ⟨x, hx⟩ : ∃ x, L[i]? = some x := ⟨_, List.getElem?_eq_getElem (by rw [HN.out.1]; exact hlt)⟩
      obtain ⟨b, o, rfl, hbl, hc⟩ := H1.out (by rw [List.length_map, HN.out.1]; omega)
      obtain ⟨b2, o2, rfl, hbl2, hc2⟩ := H2.out (by rw [List.length_map, HN.out.1]; omega)
      have f1 : wr.cell? ⟨b, o + i, none⟩ = some (.string (bk x)) := (HB.out.cell (p := ⟨b, o + i, none⟩) hbl).trans (hc i (bk x) (by rw [List.getElem?_map, hx]; rfl))
      have f2 : wr.cell? ⟨b2, o2 + i, none⟩ = some (.string (bk x)) := (HB.out.cell (p := ⟨b2, o2 + i, none⟩) hbl2).trans (hc2 i (bk x) (by rw [List.getElem?_map, hx]; rfl))
      have hle : ¬ (n : Int) ≤ i := by omega
      have hn0 : (0 : Int) ≤ i := by omega
      have hnl : (i : Int) < n := by omega
      have hw : IntKind.i64.wrap ((i : Int) + 1) = (i : Int) + 1 := IntWalk.i64_in _ (by have := HN.out; omega)
      clear hc hc2 hx hbl hbl2
      go_upto_region 6 with (fail)
      go_cut [25] (fun v wx => v = .bool false ∧ Below wr.heap.size wr wx)
      case first =>
        go_quiet (fail)
        go_wp2_with fail
        go_meet
        exact ⟨by first | rfl | simp, Below.drewN (Below.refl _ _) _⟩
      case rest =>
        obtain ⟨rfl, hbc⟩ := hcut
        have HB2 := Lib.hid (HB.out.trans (hbc.mono HB.out.size))
        clear hbc f1 f2
        go_wp2
        go_roundw
        case rel => exact ⟨i + 1, rfl, hlt, HB2.out⟩
        case measure => simp [intOf]; omega
    · have d1 : decide ((i : Int) < (n : Int)) = false := decide_eq_false (by omega)
      have d1' : decide (i < n) = false := decide_eq_false hlt
      go_wp2
      go_ret
      exact ⟨rfl, HB.out⟩
end Go.Proofs.YtihanglnjghcfaaGreatDoor
namespace Go.Proofs.YtihanglnjghcfaaGreatDoor
open Go.RowKit Go.Maps
set_option linter.unusedVariables false
set_option linter.unusedSimpArgs false

theorem addK_idR {R : List Kn} (h : IdR R) (k : Int) (b : List UInt8) : IdR (addK R k b) := by
  unfold addK
  split
  · exact h
  · intro x hx
    rcases List.mem_append.1 hx with hx | hx
    · exact h x hx
    · rw [List.mem_singleton.1 hx]
theorem addK_le (R : List Kn) (k : Int) (b : List UInt8) : (addK R k b).length ≤ R.length + 1 := by
  unfold addK
  split
  · omega
  · simp
theorem addK_sz {R : List Kn} {k : Int} {b : List UInt8} {N : Nat} (h : ∀ x ∈ R, x.b.length ≤ N) (hb : b.length ≤ N) : ∀ x ∈ addK R k b, x.b.length ≤ N := by
  unfold addK
  split
  · exact h
  · intro x hx
    rcases List.mem_append.1 hx with hx | hx
    · exact h x hx
    · rw [List.mem_singleton.1 hx]; exact hb
/-- A history with some odd objects more. -/
structure OddOk (R : List Kn) : Prop where
  ids : IdR R
  num : R.length ≤ 34
  sz : ∀ x ∈ R, x.b.length ≤ 2000
theorem OddOk.univ {R : List Kn} (h : OddOk R) (gone : Gid) {rs : List Gid} (hr : rs.length ≤ 100) : Univ (withoutK R gone) (univK R rs) :=
  univ_of (R := R) (fun d o h => without_mem h) (by have := h.num; omega) hr h.sz
set_option maxRecDepth 100000 in
set_option maxHeartbeats 8000000 in
theorem graphWalks_walk (hSo : SortsS) (A : Option Addr) (n c : Nat) (xs : List Int) (A2 : Option Addr) (n2 c2 : Nat) (ys : List Int) (miss : Int) (A3 : Option Addr) (n3 c3 : Nat) (L : List Kn) (most : Int) (w : World) (hE : EnvO w) (hI : Ints .i64 w A xs) (hn : xs.length = n) (hnm : n ≤ 9223372036854775807) (hx : ∀ x ∈ xs, x ≤ 9223372036854775807) (hI2 : Ints .i64 w A2 ys) (hn2 : ys.length = n2) (hnm2 : n2 ≤ 9223372036854775807) (hy : ∀ x ∈ ys, x ≤ 9223372036854775807) (hm : miss ≤ 9223372036854775807)
    (hL : KnsAt w A3 L) (hn3 : L.length = n3) (hnm3 : n3 ≤ 9223372036854775807) (hLs : ∀ x ∈ L, x.b.length ≤ 140737488351232) :
    Calls Tryz.prog 3 #[.slice A n c, .slice A2 n2 c2, .int .i64 miss, .slice A3 n3 c3, .int .i64 most] w fun e w' => e = .returned (.bool true) ∧ Below w.heap.size w w' := by
  have HSO := Lib.hid hSo
  have HE := Lib.hid hE
  have HLT := Lib.hid hE.lt
  have HEB : Hid (∀ W, Below w.heap.size w W → EnvO W) := Lib.hid (fun W hb => hE.below hb)
  have HMK := Lib.hid (make_any A n c xs w hI hn hnm)
  have HI2 := Lib.hid hI2
  have HY := Lib.hid (And.intro hn2 (And.intro hnm2 hy))
  have HMI := Lib.hid hm
  have HL := Lib.hid hL
  have HN3 := Lib.hid (And.intro hn3 (And.intro hnm3 hLs))
  clear hSo hE hI hn hnm hx hI2 hn2 hnm2 hy hm hL hn3 hnm3 hLs
  go_enter Tryz.func3, Tryz.ntmps3
  go_wp2_with fail
  refine HMK.out.mono ?_
  rintro e w1 ⟨hb1, r, R0, rfl, hR1, hM, hRl⟩
  have HR1 := Lib.hid hR1
  have HB1 := Lib.hid hb1
  have HO1 : Hid (IdR R0 ∧ R0.length ≤ 30 + 0 ∧ ∀ x ∈ R0, x.b.length ≤ 2000) := Lib.hid ⟨hM.ids, hRl, fun x hx => (hM.made x hx).2⟩
  clear hb1 hR1 hM hRl HMK
  go_wp2
  go_loopw [12] (fun vn wr => ∃ (i : Nat) (R : List Kn), vn = .int .i64 i ∧ i ≤ n3 ∧ i ≤ 4 ∧ RepAt wr (fun k => w.heap.size ≤ k) r R ∧ Below w.heap.size w wr ∧ IdR R ∧ R.length ≤ 30 + i ∧ ∀ x ∈ R, x.b.length ≤ 2000) (fun vn _ => n3 - (intOf vn).toNat)
  case atStart => exact ⟨0, R0, rfl, by omega, by omega, HR1.out, HB1.out, HO1.out⟩
  case round =>
    obtain ⟨i, R, rfl, hi3, hi4, hr, hb, hids, hnum, hsz⟩ := hrel
    have HR := Lib.hid hr
    have HB := Lib.hid hb
    have HOI := Lib.hid (And.intro hids (And.intro hnum hsz))
    clear hr hb hids hnum hsz HR1 HB1 HO1
    go_upto_region 3 with (fail)
    go_cut [29] (fun v wx => v = .bool (decide (i < n3 ∧ i < 4)) ∧ wx = wr)
    case first =>
      by_cases h3 : i < n3
      · have d1 : decide ((i : Int) < (n3 : Int)) = true := decide_eq_true (by omega)
        have d1' : decide (i < n3) = true := decide_eq_true h3
        by_cases h4 : i < 4
        · have d2 : decide ((i : Int) < 4) = true := decide_eq_true (by omega)
          have d2' : decide (i < 4) = true := decide_eq_true h4
          have HQ : Hid (decide (i < n3 ∧ i < 4) = true) := Lib.hid (decide_eq_true ⟨h3, h4⟩)
          clear h3 h4
          go_wp2
          go_meet
          exact ⟨by first | (rw [HQ.out]; done) | (rw [HQ.out]; rfl), by first | rfl | trivial⟩
        · have d2 : decide ((i : Int) < 4) = false := decide_eq_false (by omega)
          have d2' : decide (i < 4) = false := decide_eq_false h4
          have HQ : Hid (decide (i < n3 ∧ i < 4) = false) := Lib.hid (decide_eq_false (fun h => h4 h.2))
          clear h3 h4
          go_wp2
          go_meet
          exact ⟨by first | (rw [HQ.out]; done) | (rw [HQ.out]; rfl), by first | rfl | trivial⟩
      · have d1 : decide ((i : Int) < (n3 : Int)) = false := decide_eq_false (by omega)
        have d1' : decide (i < n3) = false := decide_eq_false h3
        have HQ : Hid (decide (i < n3 ∧ i < 4) = false) := Lib.hid (decide_eq_false (fun h => h3 h.1))
        clear h3
        go_wp2
        go_meet
        exact ⟨by first | (rw [HQ.out]; done) | (rw [HQ.out]; rfl), by first | rfl | trivial⟩
    case rest =>
      obtain ⟨rfl, hwc⟩ := hcut
      subst hwc
      generalize wc = wr at *
      by_cases hlt : i < n3 ∧ i < 4
      · have e1 : decide (i < n3 ∧ i < 4) = true := decide_eq_true hlt
        obtain ⟨h3, h4⟩ := hlt
        obtain ⟨x, hx⟩ : ∃ x, L[i]? = some x := ⟨_, List.getElem?_eq_getElem (by rw [HN3.out.1]; exact h3)⟩
        obtain ⟨b, o, rfl, hbl, hc⟩ := HL.out (by rw [HN3.out.1]; omega)
        have f0 : wr.cell? ⟨b, o + i * 3, none⟩ = some (.int .i64 x.kd) := (HB.out.cell (p := ⟨b, o + i * 3, none⟩) hbl).trans (hc i x hx).1
        have f1 : wr.cell? ⟨b, o + i * 3 + 1, none⟩ = some (.string (bk x.b)) := (HB.out.cell (p := ⟨b, o + i * 3 + 1, none⟩) hbl).trans (hc i x hx).2
        have HXS : Hid (x.b.length ≤ 140737488351232) := Lib.hid (HN3.out.2.2 x (List.mem_of_getElem? hx))
        have hle : ¬ (n3 : Int) ≤ i := by omega
        have hn0 : (0 : Int) ≤ i := by omega
        have hnl : (i : Int) < n3 := by omega
        have hw1 : IntKind.i64.wrap ((i : Int) + 1) = (i : Int) + 1 := IntWalk.i64_in _ (by omega)
        have hsz : (bk x.b).size = x.b.length := bk_size _
        clear hc hx hbl
        rw [e1]
        by_cases hbig : 2000 < x.b.length
        · have d2 : decide ((2000 : Int) < ((bk x.b).size : Int)) = true := decide_eq_true (by rw [hsz]; omega)
          have d2' : decide (2000 < (bk x.b).size) = true := decide_eq_true (by rw [hsz]; exact hbig)
          have HAW := Lib.hid (awake_any HSO.out wr (HEB.out _ HB.out))
          clear hbig hsz
          go_wp2_with fail
          refine HAW.out.mono ?_
          rintro e w11 ⟨rfl, hb11⟩
          have HB11 := Lib.hid (HB.out.trans (hb11.mono HB.out.size))
          clear hb11
          go_wp2
          go_ret
          exact ⟨rfl, HB11.out⟩
        · have d2 : decide ((2000 : Int) < ((bk x.b).size : Int)) = false := decide_eq_false (by rw [hsz]; omega)
          have d2' : decide (2000 < (bk x.b).size) = false := decide_eq_false (by rw [hsz]; exact hbig)
          have HXB : Hid (x.b.length ≤ 2000) := Lib.hid (by omega)
          clear hbig hsz
          by_cases hk1 : 1 ≤ x.kd
          · have d3 : decide ((1 : Int) ≤ x.kd) = true := decide_eq_true hk1
            by_cases hk4 : x.kd ≤ 4
            · have d4 : decide (x.kd ≤ (4 : Int)) = true := decide_eq_true hk4
              have HAD := radd_any (fun k => w.heap.size ≤ k) r R x.kd x.b
              have HAD : Hid (∀ W, Below wr.heap.size wr W → Calls Tryz.prog 12 #[.pointer (some ⟨r, 0, none⟩), .int .i64 x.kd, .string (bk x.b)] W (AddK (fun k => w.heap.size ≤ k) r R x.kd x.b W)) := Lib.hid (fun W hb => HAD W (HR.out.below hb) (fun q hq => by have h1 := hb.size; have h2 := HB.out.size; omega) (by have := HOI.out.2.1; omega) (by have := HXB.out; omega))
              unfold AddK at HAD
              clear hk1 hk4
              go_upto_region 8 with (fail)
              have HO4 : Hid (IdR (addK R x.kd x.b) ∧ (addK R x.kd x.b).length ≤ 30 + (i + 1) ∧ ∀ y ∈ addK R x.kd x.b, y.b.length ≤ 2000) := Lib.hid ⟨addK_idR HOI.out.1 _ _, by have h1 := addK_le R x.kd x.b; have h2 := HOI.out.2.1; omega, addK_sz HOI.out.2.2 HXB.out⟩
              go_region_with (go_at_call 12; refine (HAD.out _ ((Below.refl _ _).drew)).mono ?_; rintro e w4 ⟨rfl, hr4, hc4⟩; have HR4 := Lib.hid hr4; have HB4 := Lib.hid (HB.out.trans ((((Chg.refl (fun k => w.heap.size ≤ k) wr).drew).trans hc4 (fun _ _ h => h)).below HB.out.size (fun q hq h => by omega))); clear hr4 hc4)
              all_goals
                go_wp2_with fail
                go_roundw
                case rel => exact ⟨i + 1, _, rfl, h3, h4, HR4.out, HB4.out, HO4.out⟩
                case measure => simp [intOf]; omega
            · have d4 : decide (x.kd ≤ (4 : Int)) = false := decide_eq_false hk4
              clear hk1 hk4
              go_wp2
              go_roundw
              case rel => exact ⟨i + 1, _, rfl, h3, h4, HR.out, HB.out, HOI.out.1, by have h2 := HOI.out.2.1; omega, HOI.out.2.2⟩
              case measure => simp [intOf]; omega
          · have d3 : decide ((1 : Int) ≤ x.kd) = false := decide_eq_false hk1
            clear hk1
            go_wp2
            go_roundw
            case rel => exact ⟨i + 1, _, rfl, h3, h4, HR.out, HB.out, HOI.out.1, by have h2 := HOI.out.2.1; omega, HOI.out.2.2⟩
            case measure => simp [intOf]; omega
      · have e1 : decide (i < n3 ∧ i < 4) = false := decide_eq_false hlt
        rw [e1]
        have HO : Hid (OddOk R) := Lib.hid ⟨HOI.out.1, by have := HOI.out.2.1; omega, HOI.out.2.2⟩
        have HSM := Lib.hid (some_any _ r R miss wr HR.out (by have := HO.out.num; omega) HMI.out)
        clear hlt e1 HOI
        go_wp2_with fail
        refine HSM.out.mono ?_
        rintro e w2 ⟨rfl, hb2⟩
        have HG40 : Hid ((someK R miss).length ≤ 40) := Lib.hid (someK_len HO.out.ids miss)
        generalize someK R miss = gone at *
        have HR2 := Lib.hid ((HR.out.below hb2).mono (K' := fun k => w.heap.size ≤ k ∧ k < w2.heap.size) (fun k hk hl => ⟨hk, hl⟩))
        have HB2 := Lib.hid (HB.out.trans (hb2.mono HB.out.size))
        have HHO := Lib.hid (hole_any _ r R gone w2 HR2.out (by have := HO.out.num; omega))
        clear hb2 HSM HR HB
        go_wp2_with fail
        refine HHO.out.mono ?_
        rintro e w3 ⟨hb3, r2, rfl, hh3⟩
        have HR3 := Lib.hid (HR2.out.below hb3)
        have HH3 := Lib.hid (hh3.mono (K' := fun k => w2.heap.size ≤ k ∧ k < w3.heap.size) (fun k hk hl => ⟨hk, hl⟩))
        have HB3 := Lib.hid (HB2.out.trans (hb3.mono HB2.out.size))
        have HS3 := Lib.hid hb3.size
        have HID := Lib.hid (lids_any _ r R A2 n2 c2 ys w3 HR3.out (by have := HO.out.num; omega) (HI2.out.below HB3.out) HY.out.1 HY.out.2.1 HY.out.2.2)
        clear hb3 hh3 HHO HR2
        go_wp2_with fail
        refine HID.out.mono ?_
        rintro e w4 ⟨hb4, Aw, cw, rfl, hw4⟩
        have HRS : Hid ((idsK R ys).length ≤ 6 ∧ ∀ q ∈ idsK R ys, q.length ≤ 1099511627776) := Lib.hid ⟨idsK_len R ys, fun q hq => by
          unfold idsK at hq
          obtain ⟨z, _, rfl⟩ := List.mem_map.1 hq
          have := someK_len HO.out.ids z; omega⟩
        generalize hrs : idsK R ys = rs at *
        have HR4 := Lib.hid (HR3.out.below hb4)
        have HH4 := Lib.hid (HH3.out.below hb4)
        have HW4 := Lib.hid hw4
        have HB4 := Lib.hid (HB3.out.trans (hb4.mono HB3.out.size))
        have HS4 := Lib.hid hb4.size
        have HGT := Lib.hid (fun W => get_any W r gone)
        unfold fnV at HGT
        clear hb4 hw4 HID HR3 HH3 hrs
        go_wp2_with fail
        refine (HGT.out w4).mono ?_
        rintro e w5 ⟨rfl, hb5, k51, k52⟩
        have HR5 := Lib.hid (HR4.out.below hb5)
        have HH5 := Lib.hid (HH4.out.below hb5)
        have HW5 := Lib.hid (HW4.out.low w5 hb5)
        have HWL := Lib.hid HW4.out.lt
        have HB5 := Lib.hid (HB4.out.trans (hb5.mono HB4.out.size))
        have HS5 := Lib.hid (And.intro hb5.size (block_lt k52))
        have HUN := Lib.hid (HO.out.univ gone (rs := rs) (by have := HRS.out.1; omega))
        have HCL := Lib.hid (clos_getK HSO.out (B := w.heap.size) (b1 := w4.heap.size) (b2 := w4.heap.size + 1) HUN.out HR5.out (fun k hk => hk.1) (by have := HO.out.num; omega) (HEB.out _ HB5.out) HLT.out (by have := HB4.out.size; omega) (by have := HB4.out.size; omega) k51 k52 (fun x hx => by have := HO.out.sz x hx; omega) Aw rs.length cw rs most HW5.out.strsAt rfl (by have := HRS.out.1; omega) HRS.out.2 (univ_roots _ _))
        unfold fnV at HCL
        clear hb5 k51 k52 HR4 HH4 HW4
        go_wp2_with fail
        refine HCL.out.mono ?_
        rintro e w6 ⟨hr6, hc6, ha6⟩
        obtain ⟨A6, c6, rfl, hs6, hl6⟩ := clos_ans ha6
        have HEQ : Hid (closR (withoutK R gone) (univK R rs) rs most = closR (getK (holeK R gone)) (univK R rs) rs most) := Lib.hid (by rw [hole_getK])
        have HR6 := Lib.hid hr6
        have HNB : Hid (∀ k, w2.heap.size ≤ k → k < w4.heap.size → ¬ ((w.heap.size ≤ k ∧ k < w2.heap.size) ∨ k = w4.heap.size ∨ k = w4.heap.size + 1)) := Lib.hid (fun k h1 h2 h => by omega)
        have HH6 := Lib.hid (HH5.out.keep (K' := fun k => w2.heap.size ≤ k ∧ k < w3.heap.size) hc6 (fun k hk _ => HNB.out k hk.1 (by have := HS4.out; omega)) (fun k hk _ => hk))
        have HW6 := Lib.hid (HW5.out.chg hc6 (fun k hk => HNB.out k (by have h1 := (HWL.out k hk).1; have h2 := HS3.out; omega) (HWL.out k hk).2))
        have HB6 := Lib.hid (HB5.out.trans (hc6.below HB5.out.size (fun k hk h => by have h2 := HB4.out.size; omega)))
        have HS6 := Lib.hid (And.intro hs6 hl6)
        have HRC := Lib.hid (rclosure_any w6 _ r2 (holeK R gone) (univK R rs) Aw rs.length cw rs most HH6.out (by have h1 := holeK_le R gone; have := HO.out.num; omega) (by rw [hole_getK]; exact HUN.out) HW6.out.strsAt rfl (by have := HRS.out.1; omega) (univ_roots _ _))
        rw [← HEQ.out] at HRC
        clear hr6 hc6 ha6 hs6 hl6 HCL HR5 HH5 HW5
        generalize hEE : closR (withoutK R gone) (univK R rs) rs most = E at *
        have HEE := Lib.hid hEE
        clear hEE
        have HRC2 := Lib.hid (HRC.out.mono fun e w7 h => (⟨h.1, rclos_ans h.2⟩ : Below w6.heap.size w6 w7 ∧ ∃ A c, e = .returned (.tuple #[.slice A (lstE E).length c, .int .i64 (errE E)]) ∧ StrsAt w7 A ((lstE E).map bk)))
        have HCH : Hid (∀ (W : World) (b1 b2 : Nat), RepAt W (fun k => w.heap.size ≤ k) r R → Below w.heap.size w W → w.heap.size ≤ b1 → w.heap.size ≤ b2 → W.cell? ⟨b1, 0, none⟩ = some (.pointer (some ⟨r, 0, none⟩)) → W.cell? ⟨b2, 0, none⟩ = some (.string (bk gone)) → OwnS W w3.heap.size 9 1 (.slice Aw rs.length cw) rs.length (strVs rs) →
            Calls Tryz.prog 20 #[.func (.func 38) #[] #[.pointer (some ⟨b1, 0, none⟩), .pointer (some ⟨b2, 0, none⟩)], .slice Aw rs.length cw, .int .i64 most] W fun e w' => Below w.heap.size w w' ∧ e = .returned (.int .i64 (errE E))) := Lib.hid (fun W b1 b2 hR hb h1 h2 k1 k2 hw => by
          refine (check_get HSO.out (B := w.heap.size) (b1 := b1) (b2 := b2) HUN.out hR (by have := HO.out.num; omega) (HEB.out _ hb) HLT.out hb.size h1 h2 k1 k2 (fun x hx => by have := HO.out.sz x hx; omega) Aw rs.length cw rs most hw.strsAt rfl (by have := HRS.out.1; omega) HRS.out.2 (univ_roots _ _)).mono ?_
          rintro e w' ⟨_, hc', rfl⟩
          exact ⟨hb.trans (hc'.below hb.size (fun k hk h => by omega)), by rw [HEE.out]; cases E <;> rfl⟩)
        have HRR : Hid (RepAt w6 (fun k => w.heap.size ≤ k) r R) := Lib.hid (HR6.out.mono fun k hk _ => by
          have h1 := HB4.out.size
          have h2 := HB5.out.size
          rcases hk with h | h | h | h
          · exact h.1
          · omega
          · omega
          · omega)
        clear HRC HR6
        generalize lstE E = LE at *
        generalize errE E = ev at *
        generalize hnl : LE.length = nl at *
        have HNL := Lib.hid hnl
        clear hnl
        go_wp2_with fail
        refine HRC2.out.mono ?_
        rintro e w7 ⟨hb7, A7, c7, rfl, hs7⟩
        have HR7 := Lib.hid (HRR.out.below hb7)
        have HW7 := Lib.hid (HW6.out.low w7 hb7)
        have HB7 := Lib.hid (HB6.out.trans (hb7.mono HB6.out.size))
        have HST := Lib.hid (sameTexts_any A6 c6 A7 c7 nl LE w7 (HS6.out.1.below hb7) hs7 HNL.out HS6.out.2)
        clear hb7 hs7 HRC2 HRR HW6
        go_wp2_with fail
        refine HST.out.mono ?_
        rintro e w8 ⟨rfl, hb8⟩
        have HR8 := Lib.hid (HR7.out.below hb8)
        have HW8 := Lib.hid (HW7.out.low w8 hb8)
        have HB8 := Lib.hid (HB7.out.trans (hb8.mono HB7.out.size))
        clear hb8 HST HR7 HW7
        go_wp2_with fail
        refine (HGT.out w8).mono ?_
        rintro e w9 ⟨rfl, hb9, k91, k92⟩
        have HB9 := Lib.hid (HB8.out.trans (hb9.mono HB8.out.size))
        have HC9 := Lib.hid (HCH.out w9 w8.heap.size (w8.heap.size + 1) (HR8.out.below hb9) HB9.out (by have := HB8.out.size; omega) (by have := HB8.out.size; omega) k91 k92 (HW8.out.low w9 hb9))
        clear hb9 k91 k92 HCH
        go_wp2_with fail
        refine HC9.out.mono ?_
        rintro e w10 ⟨hb10, rfl⟩
        have HB10 := Lib.hid hb10
        have HAW := Lib.hid (awake_any HSO.out w10 (HEB.out _ hb10))
        clear hb10 HC9
        go_wp2_with fail
        refine HAW.out.mono ?_
        rintro e w11 ⟨rfl, hb11⟩
        have HB11 := Lib.hid (HB10.out.trans (hb11.mono HB10.out.size))
        clear hb11
        go_wp2
        go_ret
        exact ⟨rfl, HB11.out⟩
end Go.Proofs.YtihanglnjghcfaaGreatDoor
