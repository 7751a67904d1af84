/- The walk of ObjectNames (printed by genobna.py). -/
import Derived.Test.YtdlabapfcghfmaaDoorObW
import Derived.Test.YtdlabapfcghfmaaDoorObYY
import Derived.Test.YtdlabapfcghfmaaDoorObH
import Derived.Test.YtdlabapfcghfmaaDoorObZ
import Derived.Test.YtdlabapfcghfmaaDoorPh
namespace Go.Proofs.YtdlabapfcghfmaaDoor
open Go.RowKit
set_option linter.unusedVariables false
set_option linter.unusedSimpArgs false

def SlI (w : World) (v : Value) (L : List Int) (n : Nat) : Prop := ∃ A c, v = .slice A n c ∧ Ints .u8 w A L
theorem SlI.below {w w' : World} {v : Value} {L : List Int} {n : Nat} (h : SlI w v L n) (hb : Below w.heap.size w w') : SlI w' v L n := by
  obtain ⟨A, c, h1, h2⟩ := h
  exact ⟨A, c, h1, h2.below hb⟩
def IOn (w0 : World) (HL SL : List Int) (HN SN : Nat) : List Value → World → Prop
  | [], w => Below w0.heap.size w0 w
  | [v], w => Below w0.heap.size w0 w ∧ SlI w v HL HN
  | v :: u :: _, w => Below w0.heap.size w0 w ∧ SlI w v HL HN ∧ SlI w u SL SN
theorem IOn.bel {w0 : World} {HL SL : List Int} {HN SN : Nat} {us : List Value} {w : World} (h : IOn w0 HL SL HN SN us w) : Below w0.heap.size w0 w := by
  match us, h with
  | [], h => exact h
  | [_], h => exact h.1
  | _ :: _ :: _, h => exact h.1
theorem IOn.mono {w0 : World} {HL SL : List Int} {HN SN : Nat} {us : List Value} {w w' : World} (h : IOn w0 HL SL HN SN us w) (hb : Below w.heap.size w w') : IOn w0 HL SL HN SN us w' := by
  have hB := h.bel.trans (hb.mono h.bel.size)
  match us, h with
  | [], h => exact hB
  | [_], h => exact ⟨hB, h.2.below hb⟩
  | _ :: _ :: _, h => exact ⟨hB, h.2.1.below hb, h.2.2.below hb⟩
set_option maxRecDepth 100000 in
set_option maxHeartbeats 4000000 in
theorem objectNames_walk (s : ByteArray) (kd sz : Int) (w : World) (hE : EnvO w) (hs : s.size ≤ 140737488351232) (hk : (Lit.int .i64 kd).wf = true) (hz : (Lit.int .i64 sz).wf = true) :
    Calls Tryd.prog 4 #[.string s, .int .i64 kd, .int .i64 sz] w fun e w' => e = .returned (.bool true) ∧ Below w.heap.size w w' := by
  have hz1 : sz ≤ 9223372036854775807 := by simp [Lit.wf, IntKind.min, IntKind.max, IntKind.bits, IntKind.signed] at hz; omega
  have HE0 := Lib.hid hE
  have HSZ := Lib.hid hs
  have HH1 := Lib.hid (fun w hE => headI_any kd sz w hE hz1)
  have HH2 := Lib.hid (fun w => headerI_any kd sz w hz1)
  have HID1 := Lib.hid (fun w hE A c hint => oidB_any kd A s.size c (bytesOf s) w hE hint (bytesOf_len s) (bytesOf_ok s) hs)
  have HID2 := Lib.hid (fun w => ridB_any kd s w hs)
  have HA1 := Lib.hid (fun w => hash_any s w (by omega))
  have HA2 := Lib.hid (fun w => hashR_any s w (by omega))
  have HP1 := Lib.hid (fun w hE => person_any s w hE (by omega))
  have HP2 := Lib.hid (fun w => personR_any s w (by omega))
  have HK1 := Lib.hid (fun w => kind_any s w)
  have HNA1 := Lib.hid (fun w => name_any kd w)
  have HNA2 := Lib.hid (fun w => rname_any kd w)
  have HK2 := Lib.hid (fun w => kindR_any s w)
  unfold PersPost at HP1 HP2
  unfold KindPost at HK1 HK2
  have hidS : oidS kd (bytesOf s) = strOfNums (hexL (shaAll (headL kd s.size ++ bytesOf s))) := by unfold oidS; rw [bytesOf_len]
  rw [← hidS] at HID2
  have HNL := Lib.hid (show (headL kd sz.toNat).length = (headL kd sz.toNat).length from rfl)
  generalize strOfNums (nameL kd) = NM at *
  generalize oidS kd (bytesOf s) = ID at *
  generalize hashB (bytesOf s) = hb0 at *
  generalize persB s = pb at *
  generalize decide (0 < kindN s) = ko at *
  generalize ((kindN s : Nat) : Int) = kn at *
  generalize headL kd sz.toNat = HL at *
  generalize hHS : strOfNums HL = HS at *
  generalize hHN : HL.length = HN at *
  generalize hSL : bytesOf s = SL at *
  have HHS := Lib.hid hHS
  have HHN := Lib.hid hHN
  clear hidS hE hs hHS hHN hk hz hz1 HNL
  go_enter Tryd.func4, Tryd.ntmps4
  go_wp2_with fail
  refine (HK1.out w).mono ?_
  rintro e w1 ⟨rfl, hb1⟩
  have HB1 := Lib.hid hb1
  clear hb1 HK1
  go_wp2_with fail
  refine (HK2.out w1).mono ?_
  rintro e w0 ⟨rfl, hb2⟩
  have HB2 := Lib.hid (HB1.out.trans (hb2.mono HB1.out.size))
  have HE := Lib.hid (HE0.out.below HB2.out)
  clear hb2 HK2
  generalize hSN : s.size = SN at *
  have HSN := Lib.hid hSN
  have HSL := Lib.hid hSL
  clear hSN hSL
  go_upto_region 3 with (fail)
  refine wp_region_ph (by kernel_rfl) [18, 28] [.span 0 0, .span 0 0, .span 0 0, .span 0 0, .span 0 0, .span 0 0, .span 0 0, .span 0 0, .span 0 0, .span 0 0, .span 0 0, .span 0 0, .span 0 0, .span 0 0, .span 0 0, .span 0 0, .span 0 0, .span 0 0, .phase 0, .span 1 1, .span 0 1, .span 0 1, .span 1 1, .span 1 1, .span 1 1, .span 1 1, .span 1 2, .span 1 1, .phase 1, .span 2 2, .span 1 2, .span 1 2, .span 2 2, .span 2 2, .span 2 2, .span 2 2, .span 2 2, .span 2 2, .span 2 2, .span 2 2, .span 2 2, .span 2 2, .span 2 2, .span 2 2, .span 2 2, .span 2 2, .span 2 2, .span 2 2, .span 2 2, .span 2 2, .span 2 2, .span 2 2, .span 2 2] [fun z9 => z9 = .int .i64 kd, fun z9 => z9 = .string NM, fun z9 => z9 = .int .i64 kd, fun z9 => z9 = .string NM, fun z9 => z9 = .bool true, fun z9 => z9 = .bool true, fun z9 => z9 = .int .i64 kn, fun z9 => z9 = .int .i64 kn, fun z9 => z9 = .bool true, fun z9 => z9 = .bool true, fun z9 => z9 = .bool true, fun z9 => z9 = .bool ko, fun z9 => z9 = .bool ko, fun z9 => z9 = .bool true, fun z9 => z9 = .bool true, fun z9 => z9 = .bool true, fun z9 => z9 = .int .i64 kd, fun z9 => z9 = .int .i64 sz, fun v => ∃ A c, v = .slice A HN c, fun z9 => z9 = .string HS, fun z9 => z9 = .int .i64 kd, fun z9 => z9 = .int .i64 sz, fun z9 => z9 = .string HS, fun z9 => z9 = .bool true, fun z9 => z9 = .bool true, fun z9 => z9 = .bool true, fun z9 => z9 = .int .i64 kd, fun z9 => z9 = .string s, fun v => ∃ A c, v = .slice A SN c, fun z9 => z9 = .string ID, fun z9 => z9 = .int .i64 kd, fun z9 => z9 = .string s, fun z9 => z9 = .string ID, fun z9 => z9 = .bool true, fun z9 => z9 = .bool true, fun z9 => z9 = .bool true, fun z9 => z9 = .string s, fun z9 => z9 = .bool hb0, fun z9 => z9 = .string s, fun z9 => z9 = .bool hb0, fun z9 => z9 = .bool true, fun z9 => z9 = .bool true, fun z9 => z9 = .bool true, fun z9 => z9 = .string s, fun z9 => z9 = .bool pb, fun z9 => z9 = .string s, fun z9 => z9 = .bool pb, fun z9 => z9 = .bool true, fun z9 => z9 = .bool true, fun z9 => z9 = .bool true, fun z9 => z9 = .bool true, fun z9 => z9 = .bool true, fun z9 => z9 = .bool true] ((IOn w0 HL SL HN SN)) (by kernel_rfl) (by kernel_rfl) (by kernel_rfl) (by kernel_rfl) (by kernel_rfl) (by kernel_rfl) rfl rfl ((show Below w0.heap.size w0 w0.drew from (Below.refl _ _).drew)) ?steps ?done
  case steps =>
    refine ⟨?_, ?_, ?_, ?_, ?_, ?_, ?_, ?_, ?_, ?_, ?_, ?_, ?_, ?_, ?_, ?_, ?_, ?_, ?_, ?_, ?_, ?_, ?_, ?_, ?_, ?_, ?_, ?_, ?_, ?_, ?_, ?_, ?_, ?_, ?_, ?_, ?_, ?_, ?_, ?_, ?_, ?_, ?_, ?_, ?_, ?_, ?_, ?_, ?_, ?_, ?_, ?_, ?_, trivial⟩
    · intro us au w1 k0 hlo hhi ha hd hst hI
      obtain rfl : k0 = 0 := by omega
      have q1 := slot_far (t := 1) (v := .int .i64 kd) ha (by kernel_rfl) (by kernel_rfl)
      have p1 := slot_norm q1
      clear ha hd hst
      exact StepI.pure (v := .int .i64 kd) rfl rfl (by go_simp) ⟨rfl, hI⟩
    · intro us au w1 k1 hlo hhi ha hd hst hI
      obtain rfl : k1 = 0 := by omega
      have e0 := hd 0 _ (by kernel_rfl) rfl
      have q21 := slot_at (t := 21) 0 ha (by kernel_rfl) (by kernel_rfl) (by kernel_rfl) e0
      have p21 := slot_norm q21
      clear ha hd hst
      refine StepI.call (f := 11) (args := #[.int .i64 kd]) rfl rfl (by go_simp) ?_
      refine (HNA1.out w1).mono ?_
      rintro e w5 ⟨rfl, hb⟩
      exact ⟨_, rfl, rfl, IOn.mono hI hb⟩
    · intro us au w1 k2 hlo hhi ha hd hst hI
      obtain rfl : k2 = 0 := by omega
      have q1 := slot_far (t := 1) (v := .int .i64 kd) ha (by kernel_rfl) (by kernel_rfl)
      have p1 := slot_norm q1
      clear ha hd hst
      exact StepI.pure (v := .int .i64 kd) rfl rfl (by go_simp) ⟨rfl, hI⟩
    · intro us au w1 k3 hlo hhi ha hd hst hI
      obtain rfl : k3 = 0 := by omega
      have e2 := hd 2 _ (by kernel_rfl) rfl
      have q23 := slot_at (t := 23) 2 ha (by kernel_rfl) (by kernel_rfl) (by kernel_rfl) e2
      have p23 := slot_norm q23
      clear ha hd hst
      refine StepI.call (f := 12) (args := #[.int .i64 kd]) rfl rfl (by go_simp) ?_
      refine (HNA2.out w1).mono ?_
      rintro e w5 ⟨rfl, hb⟩
      exact ⟨_, rfl, rfl, IOn.mono hI hb⟩
    · intro us au w1 k4 hlo hhi ha hd hst hI
      obtain rfl : k4 = 0 := by omega
      have e1 := hd 1 _ (by kernel_rfl) rfl
      have e3 := hd 3 _ (by kernel_rfl) rfl
      have q22 := slot_at (t := 22) 1 ha (by kernel_rfl) (by kernel_rfl) (by kernel_rfl) e1
      have p22 := slot_norm q22
      have q24 := slot_at (t := 24) 3 ha (by kernel_rfl) (by kernel_rfl) (by kernel_rfl) e3
      have p24 := slot_norm q24
      clear ha hd hst
      exact StepI.pure (v := .bool true) rfl rfl (by go_simp) ⟨rfl, hI⟩
    · intro us au w1 k5 hlo hhi ha hd hst hI
      obtain rfl : k5 = 0 := by omega
      have e4 := hd 4 _ (by kernel_rfl) rfl
      have q25 := slot_at (t := 25) 4 ha (by kernel_rfl) (by kernel_rfl) (by kernel_rfl) e4
      have p25 := slot_norm q25
      clear ha hd hst
      exact StepI.pure (v := .bool true) rfl rfl (by go_simp) ⟨rfl, hI⟩
    · intro us au w1 k6 hlo hhi ha hd hst hI
      obtain rfl : k6 = 0 := by omega
      have e5 := hd 5 _ (by kernel_rfl) rfl
      have q7 := slot_far (t := 7) (v := .int .i64 kn) ha (by kernel_rfl) (by kernel_rfl)
      have p7 := slot_norm q7
      have hg := slot_at (t := 26) 5 ha (by kernel_rfl) (by kernel_rfl) (by kernel_rfl) e5
      clear ha hd hst
      exact StepI.pure (v := .int .i64 kn) rfl (wanted_at rfl rfl hg) (by go_simp) ⟨rfl, hI⟩
    · intro us au w1 k7 hlo hhi ha hd hst hI
      obtain rfl : k7 = 0 := by omega
      have e5 := hd 5 _ (by kernel_rfl) rfl
      have q9 := slot_far (t := 9) (v := .int .i64 kn) ha (by kernel_rfl) (by kernel_rfl)
      have p9 := slot_norm q9
      have hg := slot_at (t := 26) 5 ha (by kernel_rfl) (by kernel_rfl) (by kernel_rfl) e5
      clear ha hd hst
      exact StepI.pure (v := .int .i64 kn) rfl (wanted_at rfl rfl hg) (by go_simp) ⟨rfl, hI⟩
    · intro us au w1 k8 hlo hhi ha hd hst hI
      obtain rfl : k8 = 0 := by omega
      have e6 := hd 6 _ (by kernel_rfl) rfl
      have e7 := hd 7 _ (by kernel_rfl) rfl
      have e5 := hd 5 _ (by kernel_rfl) rfl
      have q27 := slot_at (t := 27) 6 ha (by kernel_rfl) (by kernel_rfl) (by kernel_rfl) e6
      have p27 := slot_norm q27
      have q28 := slot_at (t := 28) 7 ha (by kernel_rfl) (by kernel_rfl) (by kernel_rfl) e7
      have p28 := slot_norm q28
      have hg := slot_at (t := 26) 5 ha (by kernel_rfl) (by kernel_rfl) (by kernel_rfl) e5
      clear ha hd hst
      exact StepI.pure (v := .bool true) rfl (wanted_at rfl rfl hg) (by go_simp) ⟨rfl, hI⟩
    · intro us au w1 k9 hlo hhi ha hd hst hI
      obtain rfl : k9 = 0 := by omega
      have e5 := hd 5 _ (by kernel_rfl) rfl
      have e8 := hd 8 _ (by kernel_rfl) rfl
      have q26 := slot_at (t := 26) 5 ha (by kernel_rfl) (by kernel_rfl) (by kernel_rfl) e5
      have p26 := slot_norm q26
      have q29 := slot_at (t := 29) 8 ha (by kernel_rfl) (by kernel_rfl) (by kernel_rfl) e8
      have p29 := slot_norm q29
      clear ha hd hst
      exact StepI.pure (v := .bool true) rfl rfl (by go_simp) ⟨rfl, hI⟩
    · intro us au w1 k10 hlo hhi ha hd hst hI
      obtain rfl : k10 = 0 := by omega
      have e9 := hd 9 _ (by kernel_rfl) rfl
      have q30 := slot_at (t := 30) 9 ha (by kernel_rfl) (by kernel_rfl) (by kernel_rfl) e9
      have p30 := slot_norm q30
      clear ha hd hst
      exact StepI.pure (v := .bool true) rfl rfl (by go_simp) ⟨rfl, hI⟩
    · intro us au w1 k11 hlo hhi ha hd hst hI
      obtain rfl : k11 = 0 := by omega
      have e10 := hd 10 _ (by kernel_rfl) rfl
      have q8 := slot_far (t := 8) (v := .bool ko) ha (by kernel_rfl) (by kernel_rfl)
      have p8 := slot_norm q8
      have hg := slot_at (t := 31) 10 ha (by kernel_rfl) (by kernel_rfl) (by kernel_rfl) e10
      clear ha hd hst
      exact StepI.pure (v := .bool ko) rfl (wanted_at rfl rfl hg) (by go_simp) ⟨rfl, hI⟩
    · intro us au w1 k12 hlo hhi ha hd hst hI
      obtain rfl : k12 = 0 := by omega
      have e10 := hd 10 _ (by kernel_rfl) rfl
      have q10 := slot_far (t := 10) (v := .bool ko) ha (by kernel_rfl) (by kernel_rfl)
      have p10 := slot_norm q10
      have hg := slot_at (t := 31) 10 ha (by kernel_rfl) (by kernel_rfl) (by kernel_rfl) e10
      clear ha hd hst
      exact StepI.pure (v := .bool ko) rfl (wanted_at rfl rfl hg) (by go_simp) ⟨rfl, hI⟩
    · intro us au w1 k13 hlo hhi ha hd hst hI
      obtain rfl : k13 = 0 := by omega
      have e11 := hd 11 _ (by kernel_rfl) rfl
      have e12 := hd 12 _ (by kernel_rfl) rfl
      have e10 := hd 10 _ (by kernel_rfl) rfl
      have q32 := slot_at (t := 32) 11 ha (by kernel_rfl) (by kernel_rfl) (by kernel_rfl) e11
      have p32 := slot_norm q32
      have q33 := slot_at (t := 33) 12 ha (by kernel_rfl) (by kernel_rfl) (by kernel_rfl) e12
      have p33 := slot_norm q33
      have hg := slot_at (t := 31) 10 ha (by kernel_rfl) (by kernel_rfl) (by kernel_rfl) e10
      clear ha hd hst
      exact StepI.pure (v := .bool true) rfl (wanted_at rfl rfl hg) (by go_simp) ⟨rfl, hI⟩
    · intro us au w1 k14 hlo hhi ha hd hst hI
      obtain rfl : k14 = 0 := by omega
      have e10 := hd 10 _ (by kernel_rfl) rfl
      have e13 := hd 13 _ (by kernel_rfl) rfl
      have q31 := slot_at (t := 31) 10 ha (by kernel_rfl) (by kernel_rfl) (by kernel_rfl) e10
      have p31 := slot_norm q31
      have q34 := slot_at (t := 34) 13 ha (by kernel_rfl) (by kernel_rfl) (by kernel_rfl) e13
      have p34 := slot_norm q34
      clear ha hd hst
      exact StepI.pure (v := .bool true) rfl rfl (by go_simp) ⟨rfl, hI⟩
    · intro us au w1 k15 hlo hhi ha hd hst hI
      obtain rfl : k15 = 0 := by omega
      have e14 := hd 14 _ (by kernel_rfl) rfl
      have q35 := slot_at (t := 35) 14 ha (by kernel_rfl) (by kernel_rfl) (by kernel_rfl) e14
      have p35 := slot_norm q35
      clear ha hd hst
      exact StepI.pure (v := .bool true) rfl rfl (by go_simp) ⟨rfl, hI⟩
    · intro us au w1 k16 hlo hhi ha hd hst hI
      obtain rfl : k16 = 0 := by omega
      have e15 := hd 15 _ (by kernel_rfl) rfl
      have q1 := slot_far (t := 1) (v := .int .i64 kd) ha (by kernel_rfl) (by kernel_rfl)
      have p1 := slot_norm q1
      have hg := slot_at (t := 36) 15 ha (by kernel_rfl) (by kernel_rfl) (by kernel_rfl) e15
      clear ha hd hst
      exact StepI.pure (v := .int .i64 kd) rfl (wanted_at rfl rfl hg) (by go_simp) ⟨rfl, hI⟩
    · intro us au w1 k17 hlo hhi ha hd hst hI
      obtain rfl : k17 = 0 := by omega
      have e15 := hd 15 _ (by kernel_rfl) rfl
      have q2 := slot_far (t := 2) (v := .int .i64 sz) ha (by kernel_rfl) (by kernel_rfl)
      have p2 := slot_norm q2
      have hg := slot_at (t := 36) 15 ha (by kernel_rfl) (by kernel_rfl) (by kernel_rfl) e15
      clear ha hd hst
      exact StepI.pure (v := .int .i64 sz) rfl (wanted_at rfl rfl hg) (by go_simp) ⟨rfl, hI⟩
    · intro us au w1 ha hd hst hI
      have e16 := hd 16 _ (by kernel_rfl) rfl
      have e17 := hd 17 _ (by kernel_rfl) rfl
      have e15 := hd 15 _ (by kernel_rfl) rfl
      have q37 := slot_at (t := 37) 16 ha (by kernel_rfl) (by kernel_rfl) (by kernel_rfl) e16
      have p37 := slot_norm q37
      have q38 := slot_at (t := 38) 17 ha (by kernel_rfl) (by kernel_rfl) (by kernel_rfl) e17
      have p38 := slot_norm q38
      have hg := slot_at (t := 36) 15 ha (by kernel_rfl) (by kernel_rfl) (by kernel_rfl) e15
      clear ha hd hst
      refine StepI.call (f := 13) (args := #[.int .i64 kd, .int .i64 sz]) rfl (wanted_at rfl rfl hg) (by go_simp) ?_
      refine (HH1.out w1 (HE.out.below (IOn.bel hI))).mono ?_
      rintro e w5 ⟨A, c, rfl, hint, hb⟩
      exact ⟨_, rfl, ⟨A, c, rfl⟩, (IOn.bel hI).trans (hb.mono (IOn.bel hI).size), A, c, rfl, hint⟩
    · intro us au w1 k19 hlo hhi ha hd hst hI
      obtain rfl : k19 = 1 := by omega
      obtain ⟨A18, c18, e18⟩ := hd 18 _ (by kernel_rfl) rfl
      have e15 := hd 15 _ (by kernel_rfl) rfl
      have q39 := slot_at (t := 39) 18 ha (by kernel_rfl) (by kernel_rfl) (by kernel_rfl) (Eq.refl (us 18))
      have p39 := slot_norm q39
      have hg := slot_at (t := 36) 15 ha (by kernel_rfl) (by kernel_rfl) (by kernel_rfl) e15
      clear ha hd hst
      have hI0 := hI
      obtain ⟨hb, A, c, hv, hint⟩ := hI
      have hcv := run_str_ints (P := Tryd.prog) 30 9 5 Tryd.underlying30 Tryd.underlying5 Tryd.underlying9 A c HL hint
      rw [HHS.out, HHN.out] at hcv
      rw [hv] at p39
      exact StepI.pure (v := .string HS) rfl (wanted_at rfl rfl hg) (by go_simp) ⟨rfl, hI0⟩
    · intro us au w1 k20 hlo hhi ha hd hst hI
      have e15 := hd 15 _ (by kernel_rfl) rfl
      have q1 := slot_far (t := 1) (v := .int .i64 kd) ha (by kernel_rfl) (by kernel_rfl)
      have p1 := slot_norm q1
      have hg := slot_at (t := 36) 15 ha (by kernel_rfl) (by kernel_rfl) (by kernel_rfl) e15
      clear ha hd hst
      exact StepI.pure (v := .int .i64 kd) rfl (wanted_at rfl rfl hg) (by go_simp) ⟨rfl, hI⟩
    · intro us au w1 k21 hlo hhi ha hd hst hI
      have e15 := hd 15 _ (by kernel_rfl) rfl
      have q2 := slot_far (t := 2) (v := .int .i64 sz) ha (by kernel_rfl) (by kernel_rfl)
      have p2 := slot_norm q2
      have hg := slot_at (t := 36) 15 ha (by kernel_rfl) (by kernel_rfl) (by kernel_rfl) e15
      clear ha hd hst
      exact StepI.pure (v := .int .i64 sz) rfl (wanted_at rfl rfl hg) (by go_simp) ⟨rfl, hI⟩
    · intro us au w1 k22 hlo hhi ha hd hst hI
      obtain rfl : k22 = 1 := by omega
      have e20 := hd 20 _ (by kernel_rfl) rfl
      have e21 := hd 21 _ (by kernel_rfl) rfl
      have e15 := hd 15 _ (by kernel_rfl) rfl
      have q41 := slot_at (t := 41) 20 ha (by kernel_rfl) (by kernel_rfl) (by kernel_rfl) e20
      have p41 := slot_norm q41
      have q42 := slot_at (t := 42) 21 ha (by kernel_rfl) (by kernel_rfl) (by kernel_rfl) e21
      have p42 := slot_norm q42
      have hg := slot_at (t := 36) 15 ha (by kernel_rfl) (by kernel_rfl) (by kernel_rfl) e15
      clear ha hd hst
      refine StepI.call (f := 14) (args := #[.int .i64 kd, .int .i64 sz]) rfl (wanted_at rfl rfl hg) (by go_simp) ?_
      refine (HH2.out w1).mono ?_
      rintro e w5 ⟨rfl, hb⟩
      exact ⟨_, rfl, rfl, IOn.mono hI hb⟩
    · intro us au w1 k23 hlo hhi ha hd hst hI
      obtain rfl : k23 = 1 := by omega
      have e19 := hd 19 _ (by kernel_rfl) rfl
      have e22 := hd 22 _ (by kernel_rfl) rfl
      have e15 := hd 15 _ (by kernel_rfl) rfl
      have q40 := slot_at (t := 40) 19 ha (by kernel_rfl) (by kernel_rfl) (by kernel_rfl) e19
      have p40 := slot_norm q40
      have q43 := slot_at (t := 43) 22 ha (by kernel_rfl) (by kernel_rfl) (by kernel_rfl) e22
      have p43 := slot_norm q43
      have hg := slot_at (t := 36) 15 ha (by kernel_rfl) (by kernel_rfl) (by kernel_rfl) e15
      clear ha hd hst
      exact StepI.pure (v := .bool true) rfl (wanted_at rfl rfl hg) (by go_simp) ⟨rfl, hI⟩
    · intro us au w1 k24 hlo hhi ha hd hst hI
      obtain rfl : k24 = 1 := by omega
      have e15 := hd 15 _ (by kernel_rfl) rfl
      have e23 := hd 23 _ (by kernel_rfl) rfl
      have q36 := slot_at (t := 36) 15 ha (by kernel_rfl) (by kernel_rfl) (by kernel_rfl) e15
      have p36 := slot_norm q36
      have q44 := slot_at (t := 44) 23 ha (by kernel_rfl) (by kernel_rfl) (by kernel_rfl) e23
      have p44 := slot_norm q44
      clear ha hd hst
      exact StepI.pure (v := .bool true) rfl rfl (by go_simp) ⟨rfl, hI⟩
    · intro us au w1 k25 hlo hhi ha hd hst hI
      obtain rfl : k25 = 1 := by omega
      have e24 := hd 24 _ (by kernel_rfl) rfl
      have q45 := slot_at (t := 45) 24 ha (by kernel_rfl) (by kernel_rfl) (by kernel_rfl) e24
      have p45 := slot_norm q45
      clear ha hd hst
      exact StepI.pure (v := .bool true) rfl rfl (by go_simp) ⟨rfl, hI⟩
    · intro us au w1 k26 hlo hhi ha hd hst hI
      have e25 := hd 25 _ (by kernel_rfl) rfl
      have q1 := slot_far (t := 1) (v := .int .i64 kd) ha (by kernel_rfl) (by kernel_rfl)
      have p1 := slot_norm q1
      have hg := slot_at (t := 46) 25 ha (by kernel_rfl) (by kernel_rfl) (by kernel_rfl) e25
      clear ha hd hst
      exact StepI.pure (v := .int .i64 kd) rfl (wanted_at rfl rfl hg) (by go_simp) ⟨rfl, hI⟩
    · intro us au w1 k27 hlo hhi ha hd hst hI
      obtain rfl : k27 = 1 := by omega
      have e25 := hd 25 _ (by kernel_rfl) rfl
      have q0 := slot_far (t := 0) (v := .string s) ha (by kernel_rfl) (by kernel_rfl)
      have p0 := slot_norm q0
      have hg := slot_at (t := 46) 25 ha (by kernel_rfl) (by kernel_rfl) (by kernel_rfl) e25
      clear ha hd hst
      exact StepI.pure (v := .string s) rfl (wanted_at rfl rfl hg) (by go_simp) ⟨rfl, hI⟩
    · intro us au w1 ha hd hst hI
      have e27 := hd 27 _ (by kernel_rfl) rfl
      have e25 := hd 25 _ (by kernel_rfl) rfl
      have q48 := slot_at (t := 48) 27 ha (by kernel_rfl) (by kernel_rfl) (by kernel_rfl) e27
      have p48 := slot_norm q48
      have hg := slot_at (t := 46) 25 ha (by kernel_rfl) (by kernel_rfl) (by kernel_rfl) e25
      clear ha hd hst
      obtain ⟨hb, hsl⟩ := hI
      obtain ⟨A, cap, w5, hr, hint, _, _, hb5, _⟩ := run_conv w1 s (by have := HSZ.out; have := HSN.out; omega)
      rw [HSN.out] at hr
      exact StepI.runs (v := .slice A SN cap) (w' := w5) rfl (wanted_at rfl rfl hg) (by go_simp) ⟨⟨A, cap, rfl⟩, hb.trans (hb5.mono hb.size), hsl.below hb5, A, cap, rfl, by rw [← HSL.out]; exact hint⟩
    · intro us au w1 k29 hlo hhi ha hd hst hI
      obtain rfl : k29 = 2 := by omega
      have e26 := hd 26 _ (by kernel_rfl) rfl
      obtain ⟨A28, c28, e28⟩ := hd 28 _ (by kernel_rfl) rfl
      have e25 := hd 25 _ (by kernel_rfl) rfl
      have q47 := slot_at (t := 47) 26 ha (by kernel_rfl) (by kernel_rfl) (by kernel_rfl) e26
      have p47 := slot_norm q47
      have q49 := slot_at (t := 49) 28 ha (by kernel_rfl) (by kernel_rfl) (by kernel_rfl) (Eq.refl (us 28))
      have p49 := slot_norm q49
      have hg := slot_at (t := 46) 25 ha (by kernel_rfl) (by kernel_rfl) (by kernel_rfl) e25
      clear ha hd hst
      have hI0 := hI
      obtain ⟨hb, _, A, c, hv, hint⟩ := hI
      rw [hv] at p49
      refine StepI.call (f := 15) (args := #[.int .i64 kd, .slice A SN c]) rfl (wanted_at rfl rfl hg) (by go_simp) ?_
      refine (HID1.out w1 (HE.out.below hb) A c hint).mono ?_
      rintro e w5 ⟨rfl, hb5⟩
      exact ⟨_, rfl, rfl, IOn.mono hI0 hb5⟩
    · intro us au w1 k30 hlo hhi ha hd hst hI
      have e25 := hd 25 _ (by kernel_rfl) rfl
      have q1 := slot_far (t := 1) (v := .int .i64 kd) ha (by kernel_rfl) (by kernel_rfl)
      have p1 := slot_norm q1
      have hg := slot_at (t := 46) 25 ha (by kernel_rfl) (by kernel_rfl) (by kernel_rfl) e25
      clear ha hd hst
      exact StepI.pure (v := .int .i64 kd) rfl (wanted_at rfl rfl hg) (by go_simp) ⟨rfl, hI⟩
    · intro us au w1 k31 hlo hhi ha hd hst hI
      have e25 := hd 25 _ (by kernel_rfl) rfl
      have q0 := slot_far (t := 0) (v := .string s) ha (by kernel_rfl) (by kernel_rfl)
      have p0 := slot_norm q0
      have hg := slot_at (t := 46) 25 ha (by kernel_rfl) (by kernel_rfl) (by kernel_rfl) e25
      clear ha hd hst
      exact StepI.pure (v := .string s) rfl (wanted_at rfl rfl hg) (by go_simp) ⟨rfl, hI⟩
    · intro us au w1 k32 hlo hhi ha hd hst hI
      obtain rfl : k32 = 2 := by omega
      have e30 := hd 30 _ (by kernel_rfl) rfl
      have e31 := hd 31 _ (by kernel_rfl) rfl
      have e25 := hd 25 _ (by kernel_rfl) rfl
      have q51 := slot_at (t := 51) 30 ha (by kernel_rfl) (by kernel_rfl) (by kernel_rfl) e30
      have p51 := slot_norm q51
      have q52 := slot_at (t := 52) 31 ha (by kernel_rfl) (by kernel_rfl) (by kernel_rfl) e31
      have p52 := slot_norm q52
      have hg := slot_at (t := 46) 25 ha (by kernel_rfl) (by kernel_rfl) (by kernel_rfl) e25
      clear ha hd hst
      refine StepI.call (f := 16) (args := #[.int .i64 kd, .string s]) rfl (wanted_at rfl rfl hg) (by go_simp) ?_
      refine (HID2.out w1).mono ?_
      rintro e w5 ⟨rfl, hb⟩
      exact ⟨_, rfl, rfl, IOn.mono hI hb⟩
    · intro us au w1 k33 hlo hhi ha hd hst hI
      obtain rfl : k33 = 2 := by omega
      have e29 := hd 29 _ (by kernel_rfl) rfl
      have e32 := hd 32 _ (by kernel_rfl) rfl
      have e25 := hd 25 _ (by kernel_rfl) rfl
      have q50 := slot_at (t := 50) 29 ha (by kernel_rfl) (by kernel_rfl) (by kernel_rfl) e29
      have p50 := slot_norm q50
      have q53 := slot_at (t := 53) 32 ha (by kernel_rfl) (by kernel_rfl) (by kernel_rfl) e32
      have p53 := slot_norm q53
      have hg := slot_at (t := 46) 25 ha (by kernel_rfl) (by kernel_rfl) (by kernel_rfl) e25
      clear ha hd hst
      exact StepI.pure (v := .bool true) rfl (wanted_at rfl rfl hg) (by go_simp) ⟨rfl, hI⟩
    · intro us au w1 k34 hlo hhi ha hd hst hI
      obtain rfl : k34 = 2 := by omega
      have e25 := hd 25 _ (by kernel_rfl) rfl
      have e33 := hd 33 _ (by kernel_rfl) rfl
      have q46 := slot_at (t := 46) 25 ha (by kernel_rfl) (by kernel_rfl) (by kernel_rfl) e25
      have p46 := slot_norm q46
      have q54 := slot_at (t := 54) 33 ha (by kernel_rfl) (by kernel_rfl) (by kernel_rfl) e33
      have p54 := slot_norm q54
      clear ha hd hst
      exact StepI.pure (v := .bool true) rfl rfl (by go_simp) ⟨rfl, hI⟩
    · intro us au w1 k35 hlo hhi ha hd hst hI
      obtain rfl : k35 = 2 := by omega
      have e34 := hd 34 _ (by kernel_rfl) rfl
      have q55 := slot_at (t := 55) 34 ha (by kernel_rfl) (by kernel_rfl) (by kernel_rfl) e34
      have p55 := slot_norm q55
      clear ha hd hst
      exact StepI.pure (v := .bool true) rfl rfl (by go_simp) ⟨rfl, hI⟩
    · intro us au w1 k36 hlo hhi ha hd hst hI
      obtain rfl : k36 = 2 := by omega
      have e35 := hd 35 _ (by kernel_rfl) rfl
      have q0 := slot_far (t := 0) (v := .string s) ha (by kernel_rfl) (by kernel_rfl)
      have p0 := slot_norm q0
      have hg := slot_at (t := 56) 35 ha (by kernel_rfl) (by kernel_rfl) (by kernel_rfl) e35
      clear ha hd hst
      exact StepI.pure (v := .string s) rfl (wanted_at rfl rfl hg) (by go_simp) ⟨rfl, hI⟩
    · intro us au w1 k37 hlo hhi ha hd hst hI
      obtain rfl : k37 = 2 := by omega
      have e36 := hd 36 _ (by kernel_rfl) rfl
      have e35 := hd 35 _ (by kernel_rfl) rfl
      have q57 := slot_at (t := 57) 36 ha (by kernel_rfl) (by kernel_rfl) (by kernel_rfl) e36
      have p57 := slot_norm q57
      have hg := slot_at (t := 56) 35 ha (by kernel_rfl) (by kernel_rfl) (by kernel_rfl) e35
      clear ha hd hst
      refine StepI.call (f := 17) (args := #[.string s]) rfl (wanted_at rfl rfl hg) (by go_simp) ?_
      refine (HA1.out w1).mono ?_
      rintro e w5 ⟨rfl, hb⟩
      exact ⟨_, rfl, rfl, IOn.mono hI hb⟩
    · intro us au w1 k38 hlo hhi ha hd hst hI
      obtain rfl : k38 = 2 := by omega
      have e35 := hd 35 _ (by kernel_rfl) rfl
      have q0 := slot_far (t := 0) (v := .string s) ha (by kernel_rfl) (by kernel_rfl)
      have p0 := slot_norm q0
      have hg := slot_at (t := 56) 35 ha (by kernel_rfl) (by kernel_rfl) (by kernel_rfl) e35
      clear ha hd hst
      exact StepI.pure (v := .string s) rfl (wanted_at rfl rfl hg) (by go_simp) ⟨rfl, hI⟩
    · intro us au w1 k39 hlo hhi ha hd hst hI
      obtain rfl : k39 = 2 := by omega
      have e38 := hd 38 _ (by kernel_rfl) rfl
      have e35 := hd 35 _ (by kernel_rfl) rfl
      have q59 := slot_at (t := 59) 38 ha (by kernel_rfl) (by kernel_rfl) (by kernel_rfl) e38
      have p59 := slot_norm q59
      have hg := slot_at (t := 56) 35 ha (by kernel_rfl) (by kernel_rfl) (by kernel_rfl) e35
      clear ha hd hst
      refine StepI.call (f := 18) (args := #[.string s]) rfl (wanted_at rfl rfl hg) (by go_simp) ?_
      refine (HA2.out w1).mono ?_
      rintro e w5 ⟨rfl, hb⟩
      exact ⟨_, rfl, rfl, IOn.mono hI hb⟩
    · intro us au w1 k40 hlo hhi ha hd hst hI
      obtain rfl : k40 = 2 := by omega
      have e37 := hd 37 _ (by kernel_rfl) rfl
      have e39 := hd 39 _ (by kernel_rfl) rfl
      have e35 := hd 35 _ (by kernel_rfl) rfl
      have q58 := slot_at (t := 58) 37 ha (by kernel_rfl) (by kernel_rfl) (by kernel_rfl) e37
      have p58 := slot_norm q58
      have q60 := slot_at (t := 60) 39 ha (by kernel_rfl) (by kernel_rfl) (by kernel_rfl) e39
      have p60 := slot_norm q60
      have hg := slot_at (t := 56) 35 ha (by kernel_rfl) (by kernel_rfl) (by kernel_rfl) e35
      clear ha hd hst
      exact StepI.pure (v := .bool true) rfl (wanted_at rfl rfl hg) (by go_simp) ⟨rfl, hI⟩
    · intro us au w1 k41 hlo hhi ha hd hst hI
      obtain rfl : k41 = 2 := by omega
      have e35 := hd 35 _ (by kernel_rfl) rfl
      have e40 := hd 40 _ (by kernel_rfl) rfl
      have q56 := slot_at (t := 56) 35 ha (by kernel_rfl) (by kernel_rfl) (by kernel_rfl) e35
      have p56 := slot_norm q56
      have q61 := slot_at (t := 61) 40 ha (by kernel_rfl) (by kernel_rfl) (by kernel_rfl) e40
      have p61 := slot_norm q61
      clear ha hd hst
      exact StepI.pure (v := .bool true) rfl rfl (by go_simp) ⟨rfl, hI⟩
    · intro us au w1 k42 hlo hhi ha hd hst hI
      obtain rfl : k42 = 2 := by omega
      have e41 := hd 41 _ (by kernel_rfl) rfl
      have q62 := slot_at (t := 62) 41 ha (by kernel_rfl) (by kernel_rfl) (by kernel_rfl) e41
      have p62 := slot_norm q62
      clear ha hd hst
      exact StepI.pure (v := .bool true) rfl rfl (by go_simp) ⟨rfl, hI⟩
    · intro us au w1 k43 hlo hhi ha hd hst hI
      obtain rfl : k43 = 2 := by omega
      have e42 := hd 42 _ (by kernel_rfl) rfl
      have q0 := slot_far (t := 0) (v := .string s) ha (by kernel_rfl) (by kernel_rfl)
      have p0 := slot_norm q0
      have hg := slot_at (t := 63) 42 ha (by kernel_rfl) (by kernel_rfl) (by kernel_rfl) e42
      clear ha hd hst
      exact StepI.pure (v := .string s) rfl (wanted_at rfl rfl hg) (by go_simp) ⟨rfl, hI⟩
    · intro us au w1 k44 hlo hhi ha hd hst hI
      obtain rfl : k44 = 2 := by omega
      have e43 := hd 43 _ (by kernel_rfl) rfl
      have e42 := hd 42 _ (by kernel_rfl) rfl
      have q64 := slot_at (t := 64) 43 ha (by kernel_rfl) (by kernel_rfl) (by kernel_rfl) e43
      have p64 := slot_norm q64
      have hg := slot_at (t := 63) 42 ha (by kernel_rfl) (by kernel_rfl) (by kernel_rfl) e42
      clear ha hd hst
      refine StepI.call (f := 19) (args := #[.string s]) rfl (wanted_at rfl rfl hg) (by go_simp) ?_
      refine (HP1.out w1 (HE.out.below (IOn.bel hI))).mono ?_
      rintro e w5 ⟨rfl, hb⟩
      exact ⟨_, rfl, rfl, IOn.mono hI hb⟩
    · intro us au w1 k45 hlo hhi ha hd hst hI
      obtain rfl : k45 = 2 := by omega
      have e42 := hd 42 _ (by kernel_rfl) rfl
      have q0 := slot_far (t := 0) (v := .string s) ha (by kernel_rfl) (by kernel_rfl)
      have p0 := slot_norm q0
      have hg := slot_at (t := 63) 42 ha (by kernel_rfl) (by kernel_rfl) (by kernel_rfl) e42
      clear ha hd hst
      exact StepI.pure (v := .string s) rfl (wanted_at rfl rfl hg) (by go_simp) ⟨rfl, hI⟩
    · intro us au w1 k46 hlo hhi ha hd hst hI
      obtain rfl : k46 = 2 := by omega
      have e45 := hd 45 _ (by kernel_rfl) rfl
      have e42 := hd 42 _ (by kernel_rfl) rfl
      have q66 := slot_at (t := 66) 45 ha (by kernel_rfl) (by kernel_rfl) (by kernel_rfl) e45
      have p66 := slot_norm q66
      have hg := slot_at (t := 63) 42 ha (by kernel_rfl) (by kernel_rfl) (by kernel_rfl) e42
      clear ha hd hst
      refine StepI.call (f := 20) (args := #[.string s]) rfl (wanted_at rfl rfl hg) (by go_simp) ?_
      refine (HP2.out w1).mono ?_
      rintro e w5 ⟨rfl, hb⟩
      exact ⟨_, rfl, rfl, IOn.mono hI hb⟩
    · intro us au w1 k47 hlo hhi ha hd hst hI
      obtain rfl : k47 = 2 := by omega
      have e44 := hd 44 _ (by kernel_rfl) rfl
      have e46 := hd 46 _ (by kernel_rfl) rfl
      have e42 := hd 42 _ (by kernel_rfl) rfl
      have q65 := slot_at (t := 65) 44 ha (by kernel_rfl) (by kernel_rfl) (by kernel_rfl) e44
      have p65 := slot_norm q65
      have q67 := slot_at (t := 67) 46 ha (by kernel_rfl) (by kernel_rfl) (by kernel_rfl) e46
      have p67 := slot_norm q67
      have hg := slot_at (t := 63) 42 ha (by kernel_rfl) (by kernel_rfl) (by kernel_rfl) e42
      clear ha hd hst
      exact StepI.pure (v := .bool true) rfl (wanted_at rfl rfl hg) (by go_simp) ⟨rfl, hI⟩
    · intro us au w1 k48 hlo hhi ha hd hst hI
      obtain rfl : k48 = 2 := by omega
      have e42 := hd 42 _ (by kernel_rfl) rfl
      have e47 := hd 47 _ (by kernel_rfl) rfl
      have q63 := slot_at (t := 63) 42 ha (by kernel_rfl) (by kernel_rfl) (by kernel_rfl) e42
      have p63 := slot_norm q63
      have q68 := slot_at (t := 68) 47 ha (by kernel_rfl) (by kernel_rfl) (by kernel_rfl) e47
      have p68 := slot_norm q68
      clear ha hd hst
      exact StepI.pure (v := .bool true) rfl rfl (by go_simp) ⟨rfl, hI⟩
    · intro us au w1 k49 hlo hhi ha hd hst hI
      obtain rfl : k49 = 2 := by omega
      have e48 := hd 48 _ (by kernel_rfl) rfl
      have q69 := slot_at (t := 69) 48 ha (by kernel_rfl) (by kernel_rfl) (by kernel_rfl) e48
      have p69 := slot_norm q69
      clear ha hd hst
      exact StepI.pure (v := .bool true) rfl rfl (by go_simp) ⟨rfl, hI⟩
    · intro us au w1 k50 hlo hhi ha hd hst hI
      obtain rfl : k50 = 2 := by omega
      have e49 := hd 49 _ (by kernel_rfl) rfl
      have hg := slot_at (t := 70) 49 ha (by kernel_rfl) (by kernel_rfl) (by kernel_rfl) e49
      clear ha hd hst
      refine StepI.call (f := 8) (args := #[]) rfl (wanted_at rfl rfl hg) (by go_simp) ?_
      refine (awake8_any w1 (HE.out.below (IOn.bel hI))).mono ?_
      rintro e w5 ⟨rfl, hb⟩
      exact ⟨_, rfl, rfl, IOn.mono hI hb⟩
    · intro us au w1 k51 hlo hhi ha hd hst hI
      obtain rfl : k51 = 2 := by omega
      have e49 := hd 49 _ (by kernel_rfl) rfl
      have e50 := hd 50 _ (by kernel_rfl) rfl
      have q70 := slot_at (t := 70) 49 ha (by kernel_rfl) (by kernel_rfl) (by kernel_rfl) e49
      have p70 := slot_norm q70
      have q71 := slot_at (t := 71) 50 ha (by kernel_rfl) (by kernel_rfl) (by kernel_rfl) e50
      have p71 := slot_norm q71
      clear ha hd hst
      exact StepI.pure (v := .bool true) rfl rfl (by go_simp) ⟨rfl, hI⟩
    · intro us au w1 k52 hlo hhi ha hd hst hI
      obtain rfl : k52 = 2 := by omega
      have e51 := hd 51 _ (by kernel_rfl) rfl
      have q72 := slot_at (t := 72) 51 ha (by kernel_rfl) (by kernel_rfl) (by kernel_rfl) e51
      have p72 := slot_norm q72
      clear ha hd hst
      exact StepI.pure (v := .bool true) rfl rfl (by go_simp) ⟨rfl, hI⟩
  case done =>
    intro us w1 hI hd
    have hx := hd 52 _ (by decide) rfl
    have HW := Lib.hid (HB2.out.trans (Below.mono (IOn.bel hI) HB2.out.size))
    clear hd hI
    simp only [putAll]
    go_simp
    go_wp2
    go_ret
    exact ⟨rfl, HW.out⟩
end Go.Proofs.YtdlabapfcghfmaaDoor
