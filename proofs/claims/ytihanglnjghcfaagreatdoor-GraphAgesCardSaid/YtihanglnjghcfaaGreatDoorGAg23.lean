/- The law's hole: a repository without one of its objects. -/
import Derived.Test.YtihanglnjghcfaaGreatDoorGAg18
import Derived.Test.YtihanglnjghcfaaGreatDoorGAg4
import Derived.Test.YtihanglnjghcfaaGreatDoorGAg12
import Derived.Laws.MakeOwn
import Derived.Test.YtihanglnjghcfaaGreatDoorGAg14
import Derived.Test.YtihanglnjghcfaaGreatDoorGAg21
import Derived.Test.YtihanglnjghcfaaGreatDoorGAg3
import Derived.Lib.SmallJoins
import Derived.Deep.Slices
import Derived.Deep.Fields
import Derived.ChangeSame
import Derived.Test.YtihanglnjghcfaaGreatDoorGAg11
import Derived.Test.YtihanglnjghcfaaGreatDoorGAg22
namespace Go.Proofs.YtihanglnjghcfaaGreatDoor
open Go.RowKit Go.Maps
set_option linter.unusedVariables false
set_option linter.unusedSimpArgs false

def holeK (R : List Kn) (gone : Gid) : List Kn := R.filter fun o => !(o.id == gone)
theorem holeK_len (R : List Kn) (gone : Gid) : (holeK R gone).length ≤ R.length := List.length_filter_le _ _
theorem holeK_take {R : List Kn} {gone : Gid} {i : Nat} {x : Kn} (h : R[i]? = some x) : holeK (R.take (i + 1)) gone = holeK (R.take i) gone ++ (if x.id = gone then [] else [x]) := by
  unfold holeK
  rw [List.take_add_one, h, List.filter_append]
  congr 1
  by_cases e : x.id = gone
  · rw [if_pos e]; simp [e]
  · rw [if_neg e]; simp [e]
theorem repSet0 {w : World} {r : Nat} {vO vR vH vT : Value} (h : Cel w r 47 4 (repF vO vR vH vT)) (v : Value) : Cel (w.setCell ⟨r, 0, none⟩ v) r 47 4 (repF v vR vH vT) :=
  (h.set 0 v).congr fun j hj => by
    have : j = 0 ∨ j = 1 ∨ j = 2 ∨ j = 3 := by omega
    rcases this with rfl | rfl | rfl | rfl <;> rfl
theorem own_base {w : World} {B size n c : Nat} {e : TypeId} {A : Option Addr} {xs : List Value} (h : OwnS w 0 e size (.slice A n c) n xs) (hK : ∀ k, Value.ownBlock (.slice A n c) = some k → B ≤ k) : OwnS w B e size (.slice A n c) n xs := by
  refine ⟨h.1, ?_⟩
  rcases h.2 with hh | ⟨g, off, cap, cur, hv, _, h1, h2, h3, h4, h5⟩
  · exact .inl hh
  · exact .inr ⟨g, off, cap, cur, hv, hK g (by rw [hv]; rfl), h1, h2, h3, h4, h5⟩
/-- What holds amid one more's being kept. -/
def IHo (w0 : World) (B r2 : Nat) (Q : List Kn) (x : Kn) (A0 : Option Addr) (c0 : Nat) (vR vH : Value) (vT : Bool) : List Value → World → Prop
  | [], w => Below w0.heap.size w0 w
  | [v], w => (∃ g, v = .slice (some ⟨g, 0, none⟩) 1 1 ∧ Src Tryz.prog w 3 v 1 (knV x)) ∧ Below w0.heap.size w0 w
  | [_, v], w => (∃ A c, v = .slice A (Q.length + 1) c ∧ OwnS w B 27 3 v (Q.length + 1) ((Q ++ [x]).flatMap knV)) ∧ Cel w r2 47 4 (repF (.slice A0 Q.length c0) vR vH (.bool vT)) ∧ Below B w0 w
  | _ :: _ :: _, w => RepAt w (fun k => B ≤ k) r2 (Q ++ [x]) ∧ Below B w0 w
set_option maxRecDepth 100000 in
set_option maxHeartbeats 4000000 in
theorem hole_any (K : Nat → Prop) (r : Nat) (R : List Kn) (gone : Gid) (w : World) (h : RepAt w K r R) (hl : R.length ≤ 1048576) :
    Calls Tryz.prog 14 #[.pointer (some ⟨r, 0, none⟩), .string (bk gone)] w fun e w' => Below w.heap.size w w' ∧ ∃ r2, e = .returned (.pointer (some ⟨r2, 0, none⟩)) ∧ RepAt w' (fun k => w.heap.size ≤ k) r2 (holeK R gone) := by
  obtain ⟨i0, hi, hz0, hz1, hz2⟩ := info_parts info_kn
  obtain ⟨_, A, c, _, _, _, hce, how, _⟩ := h
  have hG : Hid (∀ (i : Nat) (x : Kn), R[i]? = some x → ∃ b o, A = some ⟨b, o, none⟩ ∧ b < w.heap.size ∧ ∀ j, j < 3 → w.cell? ⟨b, o + i * 3 + j, none⟩ = (knV x)[j]?) := Lib.hid (fun i x hx => by
    obtain ⟨b, o, h1, _, h2, h3⟩ := OwnS.flat knV_len (by decide) how hx
    exact ⟨b, o, h1, h2, h3⟩)
  have HCE := Lib.hid hce
  have HL := Lib.hid hl
  have hR0 := RepAt.new w ⟨#[]⟩
  have hB0 : Below w.heap.size w (w.alloc (.cells #[.slice none 0 0, .slice none 0 0, .string ⟨#[]⟩, .bool false] 47)) := (Below.refl _ _).alloc (Nat.le_refl _) _
  clear hce how hl
  go_enter Tryz.func14, Tryz.ntmps14
  go_upto_region 2 with (fail)
  generalize w.alloc (.cells #[.slice none 0 0, .slice none 0 0, .string ⟨#[]⟩, .bool false] 47) = w1 at *
  have HR0 := Lib.hid hR0
  have HB0 := Lib.hid hB0
  clear hR0 hB0
  generalize hr2 : w.heap.size = r2 at *
  have HR2 := Lib.hid hr2
  go_wp2
  go_loopw [6] (fun vn wr => ∃ i : Nat, vn = .int .i64 i ∧ i ≤ R.length ∧ RepAt wr (fun k => r2 ≤ k) r2 (holeK (R.take i) gone) ∧ Below r2 w wr) (fun vn _ => R.length - (intOf vn).toNat)
  case atStart => exact ⟨0, rfl, by omega, HR0.out, HB0.out⟩
  case round =>
    obtain ⟨i, rfl, hin, hR, hb⟩ := hrel
    have HR := Lib.hid hR
    have HB := Lib.hid hb
    have k0 : wr.cell? ⟨r, 0, none⟩ = some (.slice A R.length c) := (HCE.out.below hb (by rw [← hr2]; exact HCE.out.blk)).cell 0 (by decide)
    clear hR hb
    by_cases hlt : i < R.length
    · have d1 : decide ((i : Int) < (R.length : Int)) = true := decide_eq_true (by omega)
      have d1' : decide (i < R.length) = true := decide_eq_true hlt
      obtain ⟨b, o, hA, hbl, hc⟩ := hG.out i R[i] (List.getElem?_eq_getElem hlt)
      subst hA
      have HTK := Lib.hid (holeK_take (gone := gone) (List.getElem?_eq_getElem hlt))
      generalize hx : R[i] = x at *
      have hbl2 : b < r2 := by first | exact hbl | (rw [← hr2]; exact hbl)
      have f0 : wr.cell? ⟨b, o + i * 3, none⟩ = some (.int .i64 x.kd) := (HB.out.cell (p := ⟨b, o + i * 3, none⟩) hbl2).trans (hc 0 (by decide))
      have f1 : wr.cell? ⟨b, o + i * 3 + 1, none⟩ = some (.string (bk x.b)) := (HB.out.cell (p := ⟨b, o + i * 3 + 1, none⟩) hbl2).trans (hc 1 (by decide))
      have f2 : wr.cell? ⟨b, o + i * 3 + 2, none⟩ = some (.string (bk x.id)) := (HB.out.cell (p := ⟨b, o + i * 3 + 2, none⟩) hbl2).trans (hc 2 (by decide))
      have hle : ¬ (R.length : Int) ≤ i := by omega
      have hn0 : (0 : Int) ≤ i := by omega
      have hnl : (i : Int) < R.length := by omega
      have hw1 : IntKind.i64.wrap ((i : Int) + 1) = (i : Int) + 1 := IntWalk.i64_in _ (by have := HL.out; omega)
      clear hc hx hbl
      by_cases he : x.id = gone
      · have q1 : ((bk x.id).toList == (bk gone).toList) = true := by rw [he]; simp
        have HTK2 : Hid (holeK (R.take (i + 1)) gone = holeK (R.take i) gone) := Lib.hid (by rw [HTK.out, if_pos he, List.append_nil])
        clear he
        go_wp2
        go_roundw
        case rel => exact ⟨i + 1, rfl, hlt, by rw [HTK2.out]; exact HR.out, HB.out⟩
        case measure => simp [intOf]; omega
      · have q1 : ((bk x.id).toList == (bk gone).toList) = false := by rw [Lib.toList_data, Lib.toList_data, bk_list, bk_list, beq_eq_false_iff_ne]; exact he
        have HTK2 : Hid (holeK (R.take (i + 1)) gone = holeK (R.take i) gone ++ [x]) := Lib.hid (by rw [HTK.out, if_neg he])
        have hQl : (holeK (R.take i) gone).length ≤ 1048576 := by have h1 := holeK_len (R.take i) gone; have h2 := HL.out; simp only [List.length_take] at h1; omega
        have HQL := Lib.hid hQl
        obtain ⟨_, A0, c0, vR, vH, vT, hce2, how2, hoK2⟩ := HR.out
        have hne2 : Value.ownBlock (.slice A0 (holeK (R.take i) gone).length c0) ≠ some r2 := how2.ne_cel hce2 (by decide)
        generalize hQ : holeK (R.take i) gone = Q at *
        have g0 : wr.cell? ⟨r2, 0, none⟩ = some (.slice A0 Q.length c0) := hce2.cell 0 (by decide)
        have HC2 := Lib.hid hce2
        have HO2 : Hid (OwnS wr r2 27 3 (.slice A0 Q.length c0) Q.length (Q.flatMap knV) ∧ Value.ownBlock (.slice A0 Q.length c0) ≠ some r2) := Lib.hid ⟨own_base how2 hoK2, hne2⟩
        have HF := Lib.hid (And.intro f0 (And.intro f1 (And.intro f2 (And.intro k0 g0))))
        have HBL2 := Lib.hid hbl2
        have HI0 := Lib.hid (show IHo wr r2 r2 Q x A0 c0 vR vH vT [] wr.drew from (Below.refl _ _).drew)
        clear he hce2 how2 hoK2 hne2 hQl hr2
        go_upto_region 6 with (fail)
        refine wp_region_ph (by kernel_rfl) [12, 13, 16] [.span 0 2, .span 0 1, .span 0 1, .span 0 1, .span 0 1, .span 0 0, .span 0 0, .span 0 0, .span 0 0, .span 0 0, .span 0 0, .span 0 0, .phase 0, .phase 1, .span 2 2, .span 2 2, .phase 2] [fun z9 => z9 = .pointer (some ⟨r2, 0, none⟩), fun z9 => z9 = .pointer (some ⟨r2, 0, none⟩), fun z9 => z9 = .pointer (some ⟨r2, 0, none⟩), fun z9 => z9 = .pointer (some ⟨r2, 0, none⟩), fun z9 => z9 = .slice A0 Q.length c0, fun z9 => z9 = .pointer (some ⟨r, 0, none⟩), fun z9 => z9 = .pointer (some ⟨r, 0, none⟩), fun z9 => z9 = .pointer (some ⟨r, 0, none⟩), fun z9 => z9 = .slice (some ⟨b, o, none⟩) R.length c, fun z9 => z9 = .int .i64 (i : Int), fun z9 => z9 = .pointer (some ⟨b, o + i * 3, none⟩), fun z9 => z9 = .agg #[.int .i64 x.kd, .string (bk x.b), .string (bk x.id)], fun _ => True, fun _ => True, fun z9 => z9 = .pointer (some ⟨r2, 0, none⟩), fun z9 => z9 = .pointer (some ⟨r2, 0, none⟩), fun _ => True] ((IHo wr r2 r2 Q x A0 c0 vR vH vT)) (by kernel_rfl) (by kernel_rfl) (by kernel_rfl) (by kernel_rfl) (by kernel_rfl) (by kernel_rfl) rfl rfl (HI0.out) ?steps ?done
        case steps =>
          refine ⟨?_, ?_, ?_, ?_, ?_, ?_, ?_, ?_, ?_, ?_, ?_, ?_, ?_, ?_, ?_, ?_, ?_, trivial⟩
          · intro us au w1 k0 hlo hhi ha hd hst hI
            have q5 := slot_far (t := 5) (v := .pointer (some ⟨r2, 0, none⟩)) ha (by kernel_rfl) (by kernel_rfl)
            have p5 := slot_norm q5
            clear ha hd hst
            exact StepI.pure (v := .pointer (some ⟨r2, 0, none⟩)) rfl rfl (by go_simp) ⟨rfl, hI⟩
          · intro us au w1 k1 hlo hhi ha hd hst hI
            have q5 := slot_far (t := 5) (v := .pointer (some ⟨r2, 0, none⟩)) ha (by kernel_rfl) (by kernel_rfl)
            have p5 := slot_norm q5
            clear ha hd hst
            exact StepI.pure (v := .pointer (some ⟨r2, 0, none⟩)) rfl rfl (by go_simp) ⟨rfl, hI⟩
          · intro us au w1 k2 hlo hhi ha hd hst hI
            have e1 := hd 1 _ (by kernel_rfl) rfl
            have q29 := slot_at (t := 29) 1 ha (by kernel_rfl) (by kernel_rfl) (by kernel_rfl) e1
            have p29 := slot_norm q29
            clear ha hd hst
            exact StepI.pure (v := .pointer (some ⟨r2, 0, none⟩)) rfl rfl (by go_simp) ⟨rfl, hI⟩
          · intro us au w1 k3 hlo hhi ha hd hst hI
            have e2 := hd 2 _ (by kernel_rfl) rfl
            have q30 := slot_at (t := 30) 2 ha (by kernel_rfl) (by kernel_rfl) (by kernel_rfl) e2
            have p30 := slot_norm q30
            clear ha hd hst
            exact StepI.pure (v := .pointer (some ⟨r2, 0, none⟩)) rfl rfl (by go_simp) ⟨rfl, hI⟩
          · intro us au w1 k4 hlo hhi ha hd hst hI
            have e3 := hd 3 _ (by kernel_rfl) rfl
            have q31 := slot_at (t := 31) 3 ha (by kernel_rfl) (by kernel_rfl) (by kernel_rfl) e3
            have p31 := slot_norm q31
            clear ha hd hst
            have hb : Below wr.heap.size wr w1 := by first | exact hI | (rcases (show k4 = 0 ∨ k4 = 1 by omega) with rfl | rfl <;> first | exact hI | exact hI.2)
            have kk : w1.cell? ⟨r2, 0, none⟩ = some (.slice A0 Q.length c0) := (hb.cell (p := ⟨r2, 0, none⟩) (block_lt HF.out.2.2.2.2)).trans HF.out.2.2.2.2
            exact StepI.pure (v := .slice A0 Q.length c0) rfl rfl (by go_simp) ⟨rfl, hI⟩
          · intro us au w1 k5 hlo hhi ha hd hst hI
            obtain rfl : k5 = 0 := by omega
            have q0 := slot_far (t := 0) (v := .pointer (some ⟨r, 0, none⟩)) ha (by kernel_rfl) (by kernel_rfl)
            have p0 := slot_norm q0
            clear ha hd hst
            exact StepI.pure (v := .pointer (some ⟨r, 0, none⟩)) rfl rfl (by go_simp) ⟨rfl, hI⟩
          · intro us au w1 k6 hlo hhi ha hd hst hI
            obtain rfl : k6 = 0 := by omega
            have e5 := hd 5 _ (by kernel_rfl) rfl
            have q33 := slot_at (t := 33) 5 ha (by kernel_rfl) (by kernel_rfl) (by kernel_rfl) e5
            have p33 := slot_norm q33
            clear ha hd hst
            exact StepI.pure (v := .pointer (some ⟨r, 0, none⟩)) rfl rfl (by go_simp) ⟨rfl, hI⟩
          · intro us au w1 k7 hlo hhi ha hd hst hI
            obtain rfl : k7 = 0 := by omega
            have e6 := hd 6 _ (by kernel_rfl) rfl
            have q34 := slot_at (t := 34) 6 ha (by kernel_rfl) (by kernel_rfl) (by kernel_rfl) e6
            have p34 := slot_norm q34
            clear ha hd hst
            exact StepI.pure (v := .pointer (some ⟨r, 0, none⟩)) rfl rfl (by go_simp) ⟨rfl, hI⟩
          · intro us au w1 k8 hlo hhi ha hd hst hI
            obtain rfl : k8 = 0 := by omega
            have e7 := hd 7 _ (by kernel_rfl) rfl
            have q35 := slot_at (t := 35) 7 ha (by kernel_rfl) (by kernel_rfl) (by kernel_rfl) e7
            have p35 := slot_norm q35
            clear ha hd hst
            have hb : Below wr.heap.size wr w1 := by first | exact hI | (rcases (show k8 = 0 ∨ k8 = 1 by omega) with rfl | rfl <;> first | exact hI | exact hI.2)
            have kk : w1.cell? ⟨r, 0, none⟩ = some (.slice (some ⟨b, o, none⟩) R.length c) := (hb.cell (p := ⟨r, 0, none⟩) (block_lt HF.out.2.2.2.1)).trans HF.out.2.2.2.1
            exact StepI.pure (v := .slice (some ⟨b, o, none⟩) R.length c) rfl rfl (by go_simp) ⟨rfl, hI⟩
          · intro us au w1 k9 hlo hhi ha hd hst hI
            obtain rfl : k9 = 0 := by omega
            have q6 := slot_far (t := 6) (v := .int .i64 (i : Int)) ha (by kernel_rfl) (by kernel_rfl)
            have p6 := slot_norm q6
            clear ha hd hst
            exact StepI.pure (v := .int .i64 (i : Int)) rfl rfl (by go_simp) ⟨rfl, hI⟩
          · intro us au w1 k10 hlo hhi ha hd hst hI
            obtain rfl : k10 = 0 := by omega
            have e8 := hd 8 _ (by kernel_rfl) rfl
            have e9 := hd 9 _ (by kernel_rfl) rfl
            have q36 := slot_at (t := 36) 8 ha (by kernel_rfl) (by kernel_rfl) (by kernel_rfl) e8
            have p36 := slot_norm q36
            have q37 := slot_at (t := 37) 9 ha (by kernel_rfl) (by kernel_rfl) (by kernel_rfl) e9
            have p37 := slot_norm q37
            clear ha hd hst
            exact StepI.pure (v := .pointer (some ⟨b, o + i * 3, none⟩)) rfl rfl (by go_simp) ⟨rfl, hI⟩
          · intro us au w1 k11 hlo hhi ha hd hst hI
            obtain rfl : k11 = 0 := by omega
            have e10 := hd 10 _ (by kernel_rfl) rfl
            have q38 := slot_at (t := 38) 10 ha (by kernel_rfl) (by kernel_rfl) (by kernel_rfl) e10
            have p38 := slot_norm q38
            clear ha hd hst
            have hb : Below wr.heap.size wr w1 := hI
            have kk0 : w1.cell? ⟨b, o + i * 3, none⟩ = some (.int .i64 x.kd) := (hb.cell (p := ⟨b, o + i * 3, none⟩) (block_lt HF.out.1)).trans HF.out.1
            have kk1 : w1.cell? ⟨b, o + i * 3 + 1, none⟩ = some (.string (bk x.b)) := (hb.cell (p := ⟨b, o + i * 3 + 1, none⟩) (block_lt HF.out.2.1)).trans HF.out.2.1
            have kk2 : w1.cell? ⟨b, o + i * 3 + 2, none⟩ = some (.string (bk x.id)) := (hb.cell (p := ⟨b, o + i * 3 + 2, none⟩) (block_lt HF.out.2.2.1)).trans HF.out.2.2.1
            exact StepI.pure (v := .agg #[.int .i64 x.kd, .string (bk x.b), .string (bk x.id)]) rfl rfl (by go_simp) ⟨rfl, hI⟩
          · intro us au w1 ha hd hst hI
            have e11 := hd 11 _ (by kernel_rfl) rfl
            have q39 := slot_at (t := 39) 11 ha (by kernel_rfl) (by kernel_rfl) (by kernel_rfl) e11
            have p39 := slot_norm q39
            clear ha hd hst
            exact StepI.runs (v := .slice (some ⟨w1.heap.size, 0, none⟩) 1 1) (w' := w1.alloc (.cells #[.int .i64 x.kd, .string (bk x.b), .string (bk x.id)] 27)) rfl rfl (by go_simp) ⟨trivial, ⟨w1.heap.size, rfl, Src.kn w1 x _⟩, Below.trans hI (((Below.refl _ _).alloc (Nat.le_refl _) _).mono (Below.size hI))⟩
          · intro us au w1 ha hd hst hI
            have e4 := hd 4 _ (by kernel_rfl) rfl
            obtain ⟨e12⟩ := hd 12 _ (by kernel_rfl) rfl
            have q32 := slot_at (t := 32) 4 ha (by kernel_rfl) (by kernel_rfl) (by kernel_rfl) e4
            have p32 := slot_norm q32
            have q40 := slot_at (t := 40) 12 ha (by kernel_rfl) (by kernel_rfl) (by kernel_rfl) (Eq.refl (us 12))
            have p40 := slot_norm q40
            clear ha hd hst
            obtain ⟨⟨gs, hv8, hsrc⟩, hb8⟩ := hI
            rw [hv8] at p40 hsrc
            refine StepI.wp rfl rfl ?_
            intro K9 hK9
            have ho8 := HO2.out.1.chg (S := fun _ => False) (Chg.of_below hb8) (fun _ _ h => h)
            refine wp_append_S (.tmp 32) (.tmp 40) 23 23 rfl i0 (.agg #[.int .i64 0, .string ⟨#[]⟩, .string ⟨#[]⟩]) 40 (.slice 27) Tryz.underlying23 Tryz.underlying23 (fun _ h => by cases h) hi hz0 hz1 hz2 rfl (by go_simp) (by go_simp) ho8 hsrc (by have := HQL.out; unfold maxLen; omega) (by have := HQL.out; omega) (by have h1 := hb8.size; have h2 : r2 < wr.heap.size := HC2.out.blk; omega) ?_
            intro A9 c9 w9 ho9 hg9 hw9
            have hbc : Below r2 wr w1 := hb8.mono (Nat.le_of_lt HC2.out.blk)
            refine hK9 _ _ ⟨trivial, ⟨A9, c9, rfl, by rw [List.flatMap_append]; exact ho9⟩, (HC2.out.below hb8 HC2.out.blk).grown hg9 HO2.out.2, hbc.grown hg9 (by have h1 := hb8.size; have h2 : r2 < wr.heap.size := HC2.out.blk; omega) (fun q h => (HO2.out.1.lt q h).1)⟩
          · intro us au w1 k14 hlo hhi ha hd hst hI
            obtain rfl : k14 = 2 := by omega
            have e0 := hd 0 _ (by kernel_rfl) rfl
            have q28 := slot_at (t := 28) 0 ha (by kernel_rfl) (by kernel_rfl) (by kernel_rfl) e0
            have p28 := slot_norm q28
            clear ha hd hst
            exact StepI.pure (v := .pointer (some ⟨r2, 0, none⟩)) rfl rfl (by go_simp) ⟨rfl, hI⟩
          · intro us au w1 k15 hlo hhi ha hd hst hI
            obtain rfl : k15 = 2 := by omega
            have e14 := hd 14 _ (by kernel_rfl) rfl
            have q42 := slot_at (t := 42) 14 ha (by kernel_rfl) (by kernel_rfl) (by kernel_rfl) e14
            have p42 := slot_norm q42
            clear ha hd hst
            exact StepI.pure (v := .pointer (some ⟨r2, 0, none⟩)) rfl rfl (by go_simp) ⟨rfl, hI⟩
          · intro us au w1 ha hd hst hI
            have e15 := hd 15 _ (by kernel_rfl) rfl
            obtain ⟨e13⟩ := hd 13 _ (by kernel_rfl) rfl
            have q43 := slot_at (t := 43) 15 ha (by kernel_rfl) (by kernel_rfl) (by kernel_rfl) e15
            have p43 := slot_norm q43
            have q41 := slot_at (t := 41) 13 ha (by kernel_rfl) (by kernel_rfl) (by kernel_rfl) (Eq.refl (us 13))
            have p41 := slot_norm q41
            clear ha hd hst
            obtain ⟨⟨A9, c9, hv9, ho9⟩, hcv9, hb9⟩ := hI
            rw [hv9] at p41 ho9
            have fz := Cel.frozen hcv9 0
            have kk := Cel.cell hcv9 0 (by decide)
            have hQ1 : (Q ++ [x]).length = Q.length + 1 := by simp
            refine StepI.stored (w' := w1.setCell ⟨r2, 0, none⟩ (.slice A9 (Q.length + 1) c9)) rfl rfl (by go_simp) ⟨trivial, ⟨Nat.le_refl _, A9, c9, vR, vH, vT, ?_, ?_, ?_⟩, hb9.setCell (p := ⟨r2, 0, none⟩) (Nat.le_refl _) _⟩
            · rw [hQ1]; exact repSet0 hcv9 _
            · rw [hQ1]; exact (ho9.base_ (Nat.zero_le _)).setFar (ho9.ne_cel hcv9 (by decide)) _
            · rw [hQ1]; exact fun q h => (ho9.lt q h).1
        case done =>
          intro us w1 hI hd
          have HI9 : Hid (RepAt w1 (fun k => r2 ≤ k) r2 (Q ++ [x]) ∧ Below r2 wr w1) := Lib.hid hI
          clear hI hd
          simp only [putAll]
          go_simp
          have HB9 := Lib.hid (HB.out.trans HI9.out.2)
          go_wp2
          go_roundw
          case rel => exact ⟨i + 1, rfl, hlt, by rw [HTK2.out]; exact HI9.out.1, HB9.out⟩
          case measure => simp [intOf]; omega
    · have d1 : decide ((i : Int) < (R.length : Int)) = false := decide_eq_false (by omega)
      have d1' : decide (i < R.length) = false := decide_eq_false hlt
      have HTA : Hid (R.take i = R) := Lib.hid (List.take_of_length_le (by omega))
      go_wp2
      go_ret
      exact ⟨by first | exact HB.out | (rw [hr2]; exact HB.out) | (rw [HR2.out]; exact HB.out), r2, rfl, by have := HR.out; rw [HTA.out] at this; first | exact this | (rw [hr2]; exact this) | (rw [HR2.out]; exact this)⟩
end Go.Proofs.YtihanglnjghcfaaGreatDoor
namespace Go.Proofs.YtihanglnjghcfaaGreatDoor
open Go.RowKit Go.Maps
set_option linter.unusedVariables false
set_option linter.unusedSimpArgs false

def idxK (R : List Kn) (d : Gid) : Option Nat := R.findIdx? fun o => o.id == d
/-- What is counted: one more at the place of the one asked. -/
def stepA (R : List Kn) (L : List Int) (d : Gid) : List Int := match idxK R d with | none => L | some i => L.set i (IntKind.i64.wrap (L.getD i 0 + 1))
def askF (R : List Kn) (qs : List Gid) : List Int := qs.foldl (stepA R) (List.replicate (R.length + 1) 0)
/-- How the counting function's memory lies. -/
structure OnceSt (r bR bA ba oa : Nat) (R : List Kn) (F : Nat → Prop) (qs : List Gid) (w : World) : Prop where
  low : ∀ k, F k → k < w.heap.size
  rep : RepAt w (fun k => F k ∧ k ≠ ba) r R
  fR : F bR
  fA : F bA
  fa : F ba
  cR : w.cell? ⟨bR, 0, none⟩ = some (.pointer (some ⟨r, 0, none⟩))
  cA : w.cell? ⟨bA, 0, none⟩ = some (.slice (some ⟨ba, oa, none⟩) (R.length + 1) (R.length + 1))
  row : OwnS w 0 3 1 (.slice (some ⟨ba, oa, none⟩) (R.length + 1) (R.length + 1)) (R.length + 1) ((askF R qs).map (Value.int .i64))
  nR : bR ≠ ba
  nA : bA ≠ ba
theorem OnceSt.keep {r bR bA ba oa : Nat} {R : List Kn} {F S : Nat → Prop} {qs : List Gid} {w w' : World} (h : OnceSt r bR bA ba oa R F qs w) (hc : Chg S w w') (hS : ∀ k, F k → ¬ S k) : OnceSt r bR bA ba oa R F qs w' where
  low := fun k hk => Nat.lt_of_lt_of_le (h.low k hk) hc.size
  rep := h.rep.keep hc (fun k hk _ => hS k hk.1) (fun k hk _ => hk)
  fR := h.fR
  fA := h.fA
  fa := h.fa
  cR := (World.cell?_of_block (hc.block bR (block_lt h.cR) (hS bR h.fR))).trans h.cR
  cA := (World.cell?_of_block (hc.block bA (block_lt h.cA) (hS bA h.fA))).trans h.cA
  row := h.row.chg hc fun k hk => hS k (by injection hk with hk; rw [← hk]; exact h.fa)
  nR := h.nR
  nA := h.nA
end Go.Proofs.YtihanglnjghcfaaGreatDoor
namespace Go.Proofs.YtihanglnjghcfaaGreatDoor
open Go.RowKit Go.Maps
set_option linter.unusedVariables false
set_option linter.unusedSimpArgs false

def noneW : Gid := [110, 111, 110, 101]
/-- The n-th of all IDs, or a text that is none. -/
def someK (R : List Kn) (n : Int) : Gid := if R.length = 0 ∨ n < 0 then noneW else (R[n.toNat % R.length]?.map (·.id)).getD []
set_option maxRecDepth 100000 in
set_option maxHeartbeats 2000000 in
theorem some_any (K : Nat → Prop) (r : Nat) (R : List Kn) (n : Int) (w : World) (h : RepAt w K r R) (hl : R.length ≤ 1048576) (hn : n ≤ 9223372036854775807) :
    Calls Tryz.prog 13 #[.pointer (some ⟨r, 0, none⟩), .int .i64 n] w fun e w' => e = .returned (.string (bk (someK R n))) ∧ Below w.heap.size w w' := by
  obtain ⟨_, A, c, _, _, _, hce, how, _⟩ := h
  have k0 : w.cell? ⟨r, 0, none⟩ = some (.slice A R.length c) := hce.cell 0 (by decide)
  by_cases hz : R.length = 0
  · have HR : Hid (someK R n = noneW) := Lib.hid (by unfold someK; rw [if_pos (.inl hz)])
    have d0 : ((R.length : Int) == 0) = true := by rw [beq_iff_eq]; omega
    have d0' : (R.length : Int) = 0 := by omega
    rw [hz] at k0 d0'
    clear hce how hz d0
    go_enter Tryz.func13, Tryz.ntmps13
    go_wp2
    go_ret
    exact ⟨by rw [HR.out]; rfl, Below.refl _ _⟩
  · have d0 : ((R.length : Int) == 0) = false := by rw [beq_eq_false_iff_ne]; omega
    have d0' : ¬ (R.length : Int) = 0 := by omega
    have d0'' : ¬ R.length = 0 := hz
    by_cases hneg : n < 0
    · have d1 : decide (n < 0) = true := decide_eq_true hneg
      have HR : Hid (someK R n = noneW) := Lib.hid (by unfold someK; rw [if_pos (.inr hneg)])
      clear hce how
      go_enter Tryz.func13, Tryz.ntmps13
      go_wp2
      go_ret
      exact ⟨by rw [HR.out]; rfl, Below.refl _ _⟩
    · have d1 : decide (n < 0) = false := decide_eq_false hneg
      have hq : n.toNat % R.length < R.length := Nat.mod_lt _ (by omega)
      have HR : Hid (someK R n = R[n.toNat % R.length].id) := Lib.hid (by unfold someK; rw [if_neg (by omega), List.getElem?_eq_getElem hq]; rfl)
      have ht : (n.tmod (R.length : Int)) = ((n.toNat % R.length : Nat) : Int) := by
        rw [Int.tmod_eq_emod_of_nonneg (by omega)]
        have : n = (n.toNat : Int) := by omega
        conv => lhs; rw [this]
        rfl
      obtain ⟨b, o, hA, _, _, hc⟩ := OwnS.flat knV_len (by decide) how (List.getElem?_eq_getElem hq)
      subst hA
      have f2 : w.cell? ⟨b, o + (n.toNat % R.length) * 3 + 2, none⟩ = some (.string (bk R[n.toNat % R.length].id)) := hc 2 (by decide)
      generalize hy : R[n.toNat % R.length] = y at *
      clear hy
      generalize n.toNat % R.length = q at *
      have hle : ¬ (R.length : Int) ≤ q := by omega
      have hn0 : (0 : Int) ≤ q := by omega
      have hnl : (q : Int) < R.length := by omega
      have hw : IntKind.i64.wrap (q : Int) = q := IntWalk.i64_in _ (by omega)
      clear hce how hc hl
      go_enter Tryz.func13, Tryz.ntmps13
      go_upto_region 3 with (fail)
      go_quiet (fail)
      go_wp2
      go_ret
      exact ⟨by rw [HR.out]; rfl, Below.drewN (Below.refl _ _) _⟩
end Go.Proofs.YtihanglnjghcfaaGreatDoor
namespace Go.Proofs.YtihanglnjghcfaaGreatDoor
open Go.RowKit Go.Maps
set_option linter.unusedVariables false
set_option linter.unusedSimpArgs false

/-- All that may be come to from some roots. -/
def univK (R : List Kn) (rs : List Gid) : List Gid := rs ++ R.flatMap fun x => ((lkOf x.kd x.b).getD []).map fun k => k.id.data.toList
theorem univ_of {G : Gid → Option Kn} {R : List Kn} {rs : List Gid} (hG : ∀ d o, G d = some o → o ∈ R) (hl : R.length ≤ 100) (hr : rs.length ≤ 100) (hb : ∀ x ∈ R, x.b.length ≤ 2000) : Univ G (univK R rs) where
  num := by
    unfold univK
    rw [List.length_append]
    have key : ∀ (Q : List Kn), (∀ x ∈ Q, x.b.length ≤ 2000) → (Q.flatMap fun x => ((lkOf x.kd x.b).getD []).map fun k => k.id.data.toList).length ≤ Q.length * 2001 := by
      intro Q
      induction Q with
      | nil => intro _; simp
      | cons x Q ih =>
        intro h
        rw [List.flatMap_cons, List.length_append, List.length_map, List.length_cons, Nat.succ_mul]
        have h1 := ih fun y hy => h y (List.mem_cons_of_mem _ hy)
        have h2 : ((lkOf x.kd x.b).getD []).length ≤ 2001 := by
          cases hk : lkOf x.kd x.b with
          | none => simp
          | some ks =>
            have := lkOf_num hk
            have := h x (by simp)
            show ks.length ≤ _
            omega
        omega
    have := key R hb
    have : R.length * 2001 ≤ 100 * 2001 := Nat.mul_le_mul_right _ hl
    omega
  sz := fun d o h => by have := hb o (hG d o h); omega
  lk := fun d o ks h hk k hkm => by
    unfold univK
    refine List.mem_append_right _ (List.mem_flatMap.2 ⟨o, hG d o h, ?_⟩)
    rw [hk]
    exact List.mem_map.2 ⟨k, hkm, rfl⟩
theorem univ_roots (R : List Kn) (rs : List Gid) : ∀ r ∈ rs, r ∈ univK R rs := fun r hr => List.mem_append_left _ hr
theorem someK_len {R : List Kn} (hR : IdR R) (n : Int) : (someK R n).length ≤ 40 := by
  unfold someK
  split
  · decide
  · cases h : R[n.toNat % R.length]? with
    | none => simp
    | some x =>
      show x.id.length ≤ 40
      rw [hR x (List.mem_of_getElem? h), idK_len]
      exact Nat.le_refl _
theorem getK_mem {R : List Kn} {d : Gid} {o : Kn} (h : getK R d = some o) : o ∈ R := List.mem_of_find?_eq_some h
end Go.Proofs.YtihanglnjghcfaaGreatDoor
namespace Go.Proofs.YtihanglnjghcfaaGreatDoor
open Go.RowKit Go.Maps
set_option linter.unusedVariables false
set_option linter.unusedSimpArgs false

theorem hole_getK (R : List Kn) (gone : Gid) : getK (holeK R gone) = withoutK R gone := by
  funext d
  unfold withoutK
  induction R with
  | nil => simp [holeK, getK]
  | cons x R ih =>
    unfold holeK getK at *
    rw [List.filter_cons]
    by_cases hx : x.id = gone
    · have h1 : (!(x.id == gone)) = false := by simp [hx]
      rw [h1, if_neg (by simp), ih, List.find?_cons]
      by_cases hd : d = gone
      · rw [if_pos hd, if_pos hd]
      · rw [if_neg hd, if_neg hd]
        have h2 : (x.id == d) = false := by rw [beq_eq_false_iff_ne]; exact fun h => hd (h.symm.trans hx)
        rw [h2]
    · have h1 : (!(x.id == gone)) = true := by simp [hx]
      rw [h1, if_pos rfl, List.find?_cons, List.find?_cons]
      by_cases hd : x.id = d
      · have h2 : (x.id == d) = true := by rw [beq_iff_eq]; exact hd
        rw [h2]
        dsimp only
        rw [if_neg (fun h => hx (hd.trans h))]
      · have h2 : (x.id == d) = false := by rw [beq_eq_false_iff_ne]; exact hd
        rw [h2]
        exact ih
theorem holeK_le (R : List Kn) (gone : Gid) : (holeK R gone).length ≤ R.length := List.length_filter_le _ _
theorem without_mem {R : List Kn} {gone d : Gid} {o : Kn} (h : withoutK R gone d = some o) : o ∈ R := by
  unfold withoutK at h
  split at h
  · cases h
  · exact getK_mem h
end Go.Proofs.YtihanglnjghcfaaGreatDoor
namespace Go.Proofs.YtihanglnjghcfaaGreatDoor
open Go.RowKit Go.Maps
set_option linter.unusedVariables false
set_option linter.unusedSimpArgs false

/-- A history with some odd objects more. -/
structure OddOk (R : List Kn) : Prop where
  ids : IdR R
  num : R.length ≤ 34
  sz : ∀ x ∈ R, x.b.length ≤ 2000
theorem OddOk.univ {R : List Kn} (h : OddOk R) (gone : Gid) {rs : List Gid} (hr : rs.length ≤ 100) : Univ (withoutK R gone) (univK R rs) :=
  univ_of (R := R) (fun d o h => without_mem h) (by have := h.num; omega) hr h.sz
end Go.Proofs.YtihanglnjghcfaaGreatDoor
namespace Go.Proofs.YtihanglnjghcfaaGreatDoor
open Go.RowKit Go.Maps
set_option linter.unusedVariables false
set_option linter.unusedSimpArgs false

/-- A repository and the one without an object, side by side: the second one's blocks lie between n2 and n3. -/
structure TwoG (w0 : World) (n2 n3 r r2 : Nat) (R H : List Kn) (W : World) : Prop where
  rep : RepAt W (fun k => w0.heap.size ≤ k ∧ (k < n2 ∨ n3 ≤ k)) r R
  hol : RepAt W (fun k => n2 ≤ k ∧ k < n3) r2 H
  low : Below w0.heap.size w0 W
  sz : n3 ≤ W.heap.size
  ord : w0.heap.size ≤ n2 ∧ n2 ≤ n3
section
variable {w0 : World} {n2 n3 r r2 : Nat} {R H : List Kn} {W W' : World}
theorem TwoG.below (h : TwoG w0 n2 n3 r r2 R H W) (hb : Below W.heap.size W W') : TwoG w0 n2 n3 r r2 R H W' :=
  ⟨h.rep.below hb, h.hol.below hb, h.low.trans (hb.mono h.low.size), Nat.le_trans h.sz hb.size, h.ord⟩
/-- What a call by way of the law's Get leaves. -/
theorem TwoG.get {b1 b2 : Nat} {gone : Gid} {F' : Nat → Prop} {qs : List Gid} (h : TwoG w0 n2 n3 r r2 R H W) (hst : GetSt r b1 b2 R gone F' qs W') (hc : Chg (fun k => (w0.heap.size ≤ k ∧ (k < n2 ∨ n3 ≤ k)) ∧ k < W.heap.size) W W')
    (hf : ∀ k, F' k → ((w0.heap.size ≤ k ∧ (k < n2 ∨ n3 ≤ k)) ∧ k < W.heap.size) ∨ W.heap.size ≤ k) : TwoG w0 n2 n3 r r2 R H W' where
  rep := hst.2.1.mono fun k hk _ => by
    have h1 := h.sz
    have h2 := h.ord
    rcases hf k hk with h | h
    · exact h.1
    · exact ⟨by omega, .inr (by omega)⟩
  hol := h.hol.keep hc (fun k hk _ h2 => by have := h2.1; omega) (fun k hk _ => hk)
  low := h.low.trans (hc.below h.low.size (fun k hk h => by have := h.1.1; omega))
  sz := Nat.le_trans h.sz hc.size
  ord := h.ord
theorem TwoG.st {b1 b2 : Nat} {gone : Gid} (h : TwoG w0 n2 n3 r r2 R H W) (h1 : n3 ≤ b1) (h2 : n3 ≤ b2) (k1 : W.cell? ⟨b1, 0, none⟩ = some (.pointer (some ⟨r, 0, none⟩))) (k2 : W.cell? ⟨b2, 0, none⟩ = some (.string (bk gone))) :
    GetSt r b1 b2 R gone (fun k => (w0.heap.size ≤ k ∧ (k < n2 ∨ n3 ≤ k)) ∧ k < W.heap.size) [] W :=
  ⟨fun k h => h.2, h.rep.mono fun k hk hl => ⟨hk, hl⟩, ⟨⟨by have := h.ord; omega, .inr h1⟩, block_lt k1⟩, ⟨⟨by have := h.ord; omega, .inr h2⟩, block_lt k2⟩, k1, k2⟩
theorem TwoG.ancestor {b1 b2 : Nat} {gone : Gid} {U : List Gid} (h : TwoG w0 n2 n3 r r2 R H W) (hE : EnvO W) (ht : 1 < w0.heap.size ∧ 2 < w0.heap.size) (hl : R.length ≤ 1073741824) (hU : Univ (withoutK R gone) U)
    (h1 : n3 ≤ b1) (h2 : n3 ≤ b2) (k1 : W.cell? ⟨b1, 0, none⟩ = some (.pointer (some ⟨r, 0, none⟩))) (k2 : W.cell? ⟨b2, 0, none⟩ = some (.string (bk gone))) (hz : ∀ x ∈ R, x.b.length ≤ 268435456)
    (a b : Gid) (most : Int) (hb : b ∈ U) (hal : a.length ≤ 1099511627776) (hbl : b.length ≤ 1099511627776) :
    Calls Tryz.prog 23 #[fnV 38 (.pointer (some ⟨b1, 0, none⟩)) (.pointer (some ⟨b2, 0, none⟩)), .string (bk a), .string (bk b), .int .i64 most] W fun e w' =>
      e = .returned (ancV (ancR (withoutK R gone) U most a b)) ∧ TwoG w0 n2 n3 r r2 R H w' := by
  refine (ancestor_any (getter_get r b1 b2 R gone hl (fun x hx => by have := hz x hx; omega)) hU _ [] W a b most (h.st h1 h2 k1 k2) hE (fun h => by have := h.1.1; omega) (fun h => by have := h.1.1; omega) hb hal hbl).mono ?_
  rintro e w' ⟨F', qs', hst', hc, hf, ha⟩
  exact ⟨ha, h.get hst' hc hf⟩
theorem TwoG.peel {b1 b2 : Nat} {gone : Gid} (h : TwoG w0 n2 n3 r r2 R H W) (hE : EnvO W) (ht : 1 < w0.heap.size ∧ 2 < w0.heap.size) (hl : R.length ≤ 1073741824)
    (h1 : n3 ≤ b1) (h2 : n3 ≤ b2) (k1 : W.cell? ⟨b1, 0, none⟩ = some (.pointer (some ⟨r, 0, none⟩))) (k2 : W.cell? ⟨b2, 0, none⟩ = some (.string (bk gone))) (hz : ∀ x ∈ R, x.b.length ≤ 268435456) (d : Gid) :
    Calls Tryz.prog 22 #[fnV 38 (.pointer (some ⟨b1, 0, none⟩)) (.pointer (some ⟨b2, 0, none⟩)), .string (bk d)] W fun e w' =>
      e = .returned (peelV (peelG (withoutK R gone) 11 d)) ∧ TwoG w0 n2 n3 r r2 R H w' := by
  refine (peel_any (getter_get r b1 b2 R gone hl (fun x hx => by have := hz x hx; omega)) _ [] W d (h.st h1 h2 k1 k2) hE (fun h => by have := h.1.1; omega) (fun h => by have := h.1.1; omega) (fun d o h => hz o (without_mem h))).mono ?_
  rintro e w' ⟨F', qs', hst', hc, hf, ha⟩
  exact ⟨ha, h.get hst' hc hf⟩
end
def ancB : Except Int Bool → Bool | .ok b => b | .error _ => false
def ancE : Except Int Bool → Int | .ok _ => 0 | .error x => x
theorem ancV_is (E : Except Int Bool) : ancV E = .tuple #[.bool (ancB E), .int .i64 (ancE E)] := by cases E <;> rfl
def pelD : Option (Gid × Int) → Gid | none => [] | some (d, _) => d
def pelK : Option (Gid × Int) → Int | none => 0 | some (_, k) => k
def pelB : Option (Gid × Int) → Bool | none => false | some _ => true
theorem peelV_is (P : Option (Gid × Int)) : peelV P = .tuple #[.string (bk (pelD P)), .int .i64 (pelK P), .bool (pelB P)] := by
  cases P with
  | none => rfl
  | some q => obtain ⟨d, k⟩ := q; rfl
theorem without_in {R : List Kn} {gone d : Gid} (h : (withoutK R gone d).isSome = true) : d ∈ R.map (·.id) := by
  obtain ⟨o, ho⟩ := Option.isSome_iff_exists.1 h
  have hm := without_mem ho
  unfold withoutK at ho
  split at ho
  · cases ho
  · have hid : o.id = d := by
      unfold getK at ho
      have := List.find?_some ho
      simpa using this
    rw [← hid]
    exact List.mem_map_of_mem hm
set_option maxRecDepth 100000 in
set_option maxHeartbeats 8000000 in
theorem graphAges_walk (hSo : SortsS) (A : Option Addr) (n c : Nat) (xs : List Int) (a b most miss : Int) (w : World) (hE : EnvO w) (hI : Ints .i64 w A xs) (hn : xs.length = n) (hnm : n ≤ 9223372036854775807) (hx : ∀ x ∈ xs, x ≤ 9223372036854775807)
    (ha : a ≤ 9223372036854775807) (hb : b ≤ 9223372036854775807) (hmo : most ≤ 9223372036854775807) (hm : miss ≤ 9223372036854775807) :
    Calls Tryz.prog 6 #[.slice A n c, .int .i64 a, .int .i64 b, .int .i64 most, .int .i64 miss] w fun e w' => e = .returned (.bool true) ∧ Below w.heap.size w w' := by
  have HSO := Lib.hid hSo
  have HLT := Lib.hid hE.lt
  have HEB : Hid (∀ W, Below w.heap.size w W → EnvO W) := Lib.hid (fun W hb => hE.below hb)
  have HMK := Lib.hid (make_any A n c xs w hI hn hnm)
  have HMI := Lib.hid (And.intro ha (And.intro hb hm))
  clear hSo hE hI hn hnm hx ha hb hmo hm
  go_enter Tryz.func6, Tryz.ntmps6
  go_wp2_with fail
  refine HMK.out.mono ?_
  rintro e w1 ⟨hb1, r, R, rfl, hR1, hM, hRl⟩
  have HR1 := Lib.hid hR1
  have HB1 := Lib.hid hb1
  have HO : Hid (OddOk R) := Lib.hid ⟨hM.ids, by omega, fun x hx => (hM.made x hx).2⟩
  have HSM := Lib.hid (some_any _ r R miss w1 HR1.out (by have := HO.out.num; omega) HMI.out.2.2)
  clear hb1 hR1 hM hRl HMK
  go_wp2_with fail
  refine HSM.out.mono ?_
  rintro e w2 ⟨rfl, hb2⟩
  have HG40 : Hid ((someK R miss).length ≤ 40) := Lib.hid (someK_len HO.out.ids miss)
  generalize someK R miss = gone at *
  have HR2 := Lib.hid ((HR1.out.below hb2).mono (K' := fun k => w.heap.size ≤ k ∧ k < w2.heap.size) (fun k hk hl => ⟨hk, hl⟩))
  have HB2 := Lib.hid (HB1.out.trans (hb2.mono HB1.out.size))
  have HHO := Lib.hid (hole_any _ r R gone w2 HR2.out (by have := HO.out.num; omega))
  clear hb2 HSM HR1 HB1
  go_wp2_with fail
  refine HHO.out.mono ?_
  rintro e w3 ⟨hb3, r2, rfl, hh3⟩
  have HT3 : Hid (TwoG w w2.heap.size w3.heap.size r r2 R (holeK R gone) w3) := Lib.hid {
    rep := (HR2.out.below hb3).mono fun k hk _ => ⟨hk.1, .inl hk.2⟩
    hol := hh3.mono fun k hk hl => ⟨hk, hl⟩
    low := HB2.out.trans (hb3.mono HB2.out.size)
    sz := Nat.le_refl _
    ord := ⟨HB2.out.size, hb3.size⟩ }
  have HSA := Lib.hid (fun (W : World) (h : TwoG w w2.heap.size w3.heap.size r r2 R (holeK R gone) W) => some_any _ r R a W h.rep (by have := HO.out.num; omega) HMI.out.1)
  have HSB := Lib.hid (fun (W : World) (h : TwoG w w2.heap.size w3.heap.size r r2 R (holeK R gone) W) => some_any _ r R b W h.rep (by have := HO.out.num; omega) HMI.out.2.1)
  have HL40 : Hid ((someK R a).length ≤ 40 ∧ (someK R b).length ≤ 40) := Lib.hid ⟨someK_len HO.out.ids a, someK_len HO.out.ids b⟩
  have HGT := Lib.hid (fun W => get_any W r gone)
  unfold fnV at HGT
  clear hb3 hh3 HHO HR2 HB2
  generalize someK R a = ia at *
  generalize someK R b = ib at *
  have HUN := Lib.hid (HO.out.univ gone (rs := ib :: R.map (·.id)) (by have := HO.out.num; simp; omega))
  have HRT := Lib.hid (univ_roots R (ib :: R.map (·.id)) ib (by simp))
  have HEQ : Hid (ancRD (getK (holeK R gone)) (univK R (ib :: R.map (·.id))) most ia ib = ancR (withoutK R gone) (univK R (ib :: R.map (·.id))) most ia ib) := Lib.hid (by
    rw [hole_getK]
    exact ancRD_is (U0 := R.map (·.id)) (fun d hd => without_in hd) (by unfold univK; simp) most ia ib)
  have HRA := Lib.hid (fun (W : World) (h : TwoG w w2.heap.size w3.heap.size r r2 R (holeK R gone) W) => rancestor_any W _ r2 (holeK R gone) (univK R (ib :: R.map (·.id))) ia ib most h.hol (by have h1 := holeK_le R gone; have := HO.out.num; omega) (by rw [hole_getK]; exact HUN.out) HRT.out)
  have HRP := Lib.hid (fun (W : World) (h : TwoG w w2.heap.size w3.heap.size r r2 R (holeK R gone) W) => rpeel_any W _ r2 (holeK R gone) ia h.hol (by have h1 := holeK_le R gone; have := HO.out.num; omega) (fun d o ho => by rw [hole_getK] at ho; have := HO.out.sz _ (without_mem ho); omega))
  have HPA := Lib.hid (fun (W : World) (b1 b2 : Nat) (h : TwoG w w2.heap.size w3.heap.size r r2 R (holeK R gone) W) (h1 : w3.heap.size ≤ b1) (h2 : w3.heap.size ≤ b2) (k1 : W.cell? ⟨b1, 0, none⟩ = some (.pointer (some ⟨r, 0, none⟩))) (k2 : W.cell? ⟨b2, 0, none⟩ = some (.string (bk gone))) => h.ancestor (HEB.out W h.low) HLT.out (by have := HO.out.num; omega) HUN.out h1 h2 k1 k2 (fun x hx => by have := HO.out.sz x hx; omega) ia ib most HRT.out (by have := HL40.out; omega) (by have := HL40.out; omega))
  have HPP := Lib.hid (fun (W : World) (b1 b2 : Nat) (h : TwoG w w2.heap.size w3.heap.size r r2 R (holeK R gone) W) (h1 : w3.heap.size ≤ b1) (h2 : w3.heap.size ≤ b2) (k1 : W.cell? ⟨b1, 0, none⟩ = some (.pointer (some ⟨r, 0, none⟩))) (k2 : W.cell? ⟨b2, 0, none⟩ = some (.string (bk gone))) => h.peel (HEB.out W h.low) HLT.out (by have := HO.out.num; omega) h1 h2 k1 k2 (fun x hx => by have := HO.out.sz x hx; omega) ia)
  rw [HEQ.out] at HRA
  rw [hole_getK] at HRP
  generalize ancR (withoutK R gone) (univK R (ib :: R.map (·.id))) most ia ib = E at *
  generalize peelG (withoutK R gone) 11 ia = P at *
  rw [ancV_is] at HRA HPA
  rw [peelV_is] at HRP HPP
  unfold fnV at HPA HPP
  generalize ancB E = xb at *
  generalize ancE E = xe at *
  generalize pelD P = pd at *
  generalize pelK P = pk at *
  generalize pelB P = pb at *
  generalize holeK R gone = H at *
  clear HEQ HUN HRT HL40 HG40
  have e1 : (xb == xb) = true := beq_self_eq_true xb
  have e2 : (xe == xe) = true := beq_self_eq_true xe
  have e3 : ((bk pd).toList == (bk pd).toList) = true := beq_self_eq_true _
  have e4 : (pk == pk) = true := beq_self_eq_true pk
  have e5 : (pb == pb) = true := beq_self_eq_true pb
  go_wp2_with fail
  refine (HGT.out w3).mono ?_
  rintro e w4 ⟨rfl, hb4, k41, k42⟩
  have HT4 := Lib.hid (HT3.out.below hb4)
  have HK4 := Lib.hid (And.intro k41 k42)
  clear hb4 k41 k42
  go_wp2_with fail
  refine (HSA.out w4 HT4.out).mono ?_
  rintro e w5 ⟨rfl, hb5⟩
  have HT5 := Lib.hid (HT4.out.below hb5)
  have HK5 := Lib.hid (And.intro ((hb5.cell (block_lt HK4.out.1)).trans HK4.out.1) ((hb5.cell (block_lt HK4.out.2)).trans HK4.out.2))
  clear hb5
  go_wp2_with fail
  refine (HSB.out w5 HT5.out).mono ?_
  rintro e w6 ⟨rfl, hb6⟩
  have HT6 := Lib.hid (HT5.out.below hb6)
  have HA6 := Lib.hid (HPA.out w6 w3.heap.size (w3.heap.size + 1) HT6.out (by omega) (by omega) ((hb6.cell (block_lt HK5.out.1)).trans HK5.out.1) ((hb6.cell (block_lt HK5.out.2)).trans HK5.out.2))
  clear hb6
  go_wp2_with fail
  refine HA6.out.mono ?_
  rintro e w7 ⟨rfl, ht7⟩
  have HT7 := Lib.hid ht7
  clear ht7 HA6
  go_wp2_with fail
  refine (HSA.out w7 HT7.out).mono ?_
  rintro e w8 ⟨rfl, hb8⟩
  have HT8 := Lib.hid (HT7.out.below hb8)
  clear hb8
  go_wp2_with fail
  refine (HSB.out w8 HT8.out).mono ?_
  rintro e w9 ⟨rfl, hb9⟩
  have HT9 := Lib.hid (HT8.out.below hb9)
  clear hb9
  go_wp2_with fail
  refine (HRA.out w9 HT9.out).mono ?_
  rintro e w10 ⟨hb10, rfl⟩
  have HT10 := Lib.hid (HT9.out.below hb10)
  clear hb10
  go_wp2_with fail
  refine (HGT.out w10).mono ?_
  rintro e w11 ⟨rfl, hb11, k41, k42⟩
  have HT11 := Lib.hid (HT10.out.below hb11)
  have HK11 := Lib.hid (And.intro k41 k42)
  clear hb11 k41 k42
  go_wp2_with fail
  refine (HSA.out w11 HT11.out).mono ?_
  rintro e w12 ⟨rfl, hb12⟩
  have HT12 := Lib.hid (HT11.out.below hb12)
  have HA12 := Lib.hid (HPP.out w12 w10.heap.size (w10.heap.size + 1) HT12.out (by have := HT10.out.sz; omega) (by have := HT10.out.sz; omega) ((hb12.cell (block_lt HK11.out.1)).trans HK11.out.1) ((hb12.cell (block_lt HK11.out.2)).trans HK11.out.2))
  clear hb12
  go_wp2_with fail
  refine HA12.out.mono ?_
  rintro e w13 ⟨rfl, ht13⟩
  have HT13 := Lib.hid ht13
  clear ht13 HA12
  go_wp2_with fail
  refine (HSA.out w13 HT13.out).mono ?_
  rintro e w14 ⟨rfl, hb14⟩
  have HT14 := Lib.hid (HT13.out.below hb14)
  clear hb14
  go_wp2_with fail
  refine (HRP.out w14 HT14.out).mono ?_
  rintro e w15 ⟨hb15, rfl⟩
  have HT15 := Lib.hid (HT14.out.below hb15)
  have HAW := Lib.hid (awake_any HSO.out w15 (HEB.out _ HT15.out.low))
  clear hb15
  go_wp2_with fail
  refine HAW.out.mono ?_
  rintro e w16 ⟨rfl, hb16⟩
  have HB16 := Lib.hid (HT15.out.low.trans (hb16.mono HT15.out.low.size))
  clear hb16
  go_wp2
  go_ret
  exact ⟨rfl, HB16.out⟩
end Go.Proofs.YtihanglnjghcfaaGreatDoor
