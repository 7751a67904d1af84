/- The law's hole: a repository without one of its objects. -/
import Derived.Test.YtihanglnjghcfaaGreatDoorGCt22
import Derived.Test.YtihanglnjghcfaaGreatDoorGCt4
import Derived.Test.YtihanglnjghcfaaGreatDoorGCt24
import Derived.Test.YtihanglnjghcfaaGreatDoorGCt12
import Derived.Laws.MakeOwn
import Derived.Test.YtihanglnjghcfaaGreatDoorGCt19
import Derived.Test.YtihanglnjghcfaaGreatDoorGCt3
import Derived.Ground.SlgfProg
import Derived.Shelf.SlicesE.DeleteFunc
import Derived.Shelf.Spec.SearchS
import Derived.Test.YtihanglnjghcfaaGreatDoorProg
namespace Go.Proofs.YtihanglnjghcfaaGreatDoor
open Go.RowKit Go.Maps
set_option linter.unusedVariables false
set_option linter.unusedSimpArgs false

def holeK (R : List Kn) (gone : Gid) : List Kn := R.filter fun o => !(o.id == gone)
theorem holeK_len (R : List Kn) (gone : Gid) : (holeK R gone).length ≤ R.length := List.length_filter_le _ _
theorem holeK_take {R : List Kn} {gone : Gid} {i : Nat} {x : Kn} (h : R[i]? = some x) : holeK (R.take (i + 1)) gone = holeK (R.take i) gone ++ (if x.id = gone then [] else [x]) := by
 unfold holeK
 rw [List.take_add_one, h, List.filter_append]
 congr 1
 by_cases e : x.id = gone
 · rw [if_pos e]; simp [e]
 · rw [if_neg e]; simp [e]
theorem repSet0 {w : World} {r : Nat} {vO vR vH vT : Value} (h : Cel w r 47 4 (repF vO vR vH vT)) (v : Value) : Cel (w.setCell ⟨r, 0, none⟩ v) r 47 4 (repF v vR vH vT) :=
 (h.set 0 v).congr fun j hj => by
  have : j = 0 ∨ j = 1 ∨ j = 2 ∨ j = 3 := by omega
  rcases this with rfl | rfl | rfl | rfl <;> rfl
theorem own_base {w : World} {B size n c : Nat} {e : TypeId} {A : Option Addr} {xs : List Value} (h : OwnS w 0 e size (.slice A n c) n xs) (hK : ∀ k, Value.ownBlock (.slice A n c) = some k → B ≤ k) : OwnS w B e size (.slice A n c) n xs := by
 refine ⟨h.1, ?_⟩
 rcases h.2 with hh | ⟨g, off, cap, cur, hv, _, h1, h2, h3, h4, h5⟩
 · exact .inl hh
 · exact .inr ⟨g, off, cap, cur, hv, hK g (by rw [hv]; rfl), h1, h2, h3, h4, h5⟩
/-- What holds amid one more's being kept. -/
def IHo (w0 : World) (B r2 : Nat) (Q : List Kn) (x : Kn) (A0 : Option Addr) (c0 : Nat) (vR vH : Value) (vT : Bool) : List Value → World → Prop
 | [], w => Below w0.heap.size w0 w
 | [v], w => (∃ g, v = .slice (some ⟨g, 0, none⟩) 1 1 ∧ Src Tryz.prog w 3 v 1 (knV x)) ∧ Below w0.heap.size w0 w
 | [_, v], w => (∃ A c, v = .slice A (Q.length + 1) c ∧ OwnS w B 27 3 v (Q.length + 1) ((Q ++ [x]).flatMap knV)) ∧ Cel w r2 47 4 (repF (.slice A0 Q.length c0) vR vH (.bool vT)) ∧ Below B w0 w
 | _ :: _ :: _, w => RepAt w (fun k => B ≤ k) r2 (Q ++ [x]) ∧ Below B w0 w
set_option maxRecDepth 100000 in
set_option maxHeartbeats 4000000 in
theorem hole_any (K : Nat → Prop) (r : Nat) (R : List Kn) (gone : Gid) (w : World) (h : RepAt w K r R) (hl : R.length ≤ 1048576) :
 Calls Tryz.prog 14 #[.pointer (some ⟨r, 0, none⟩), .string (bk gone)] w fun e w' => Below w.heap.size w w' ∧ ∃ r2, e = .returned (.pointer (some ⟨r2, 0, none⟩)) ∧ RepAt w' (fun k => w.heap.size ≤ k) r2 (holeK R gone) := by
 obtain ⟨i0, hi, hz0, hz1, hz2⟩ := info_parts info_kn
 obtain ⟨_, A, c, _, _, _, hce, how, _⟩ := h
 have hG : Hid (∀ (i : Nat) (x : Kn), R[i]? = some x → ∃ b o, A = some ⟨b, o, none⟩ ∧ b < w.heap.size ∧ ∀ j, j < 3 → w.cell? ⟨b, o + i * 3 + j, none⟩ = (knV x)[j]?) := Lib.hid (fun i x hx => by
  obtain ⟨b, o, h1, _, h2, h3⟩ := OwnS.flat knV_len (by decide) how hx
  exact ⟨b, o, h1, h2, h3⟩)
 have HCE := Lib.hid hce
 have HL := Lib.hid hl
 have hR0 := RepAt.new w ⟨#[]⟩
 have hB0 : Below w.heap.size w (w.alloc (.cells #[.slice none 0 0, .slice none 0 0, .string ⟨#[]⟩, .bool false] 47)) := (Below.refl _ _).alloc (Nat.le_refl _) _
 clear hce how hl
 go_enter Tryz.func14, Tryz.ntmps14
 go_upto_region 2 with (fail)
 generalize w.alloc (.cells #[.slice none 0 0, .slice none 0 0, .string ⟨#[]⟩, .bool false] 47) = w1 at *
 have HR0 := Lib.hid hR0
 have HB0 := Lib.hid hB0
 clear hR0 hB0
 generalize hr2 : w.heap.size = r2 at *
 have HR2 := Lib.hid hr2
 go_wp2
 go_loopw [6] (fun vn wr => ∃ i : Nat, vn = .int .i64 i ∧ i ≤ R.length ∧ RepAt wr (fun k => r2 ≤ k) r2 (holeK (R.take i) gone) ∧ Below r2 w wr) (fun vn _ => R.length - (intOf vn).toNat)
 case atStart => exact ⟨0, rfl, by omega, HR0.out, HB0.out⟩
 case round =>
  obtain ⟨i, rfl, hin, hR, hb⟩ := hrel
  have HR := Lib.hid hR
  have HB := Lib.hid hb
  have k0 : wr.cell? ⟨r, 0, none⟩ = some (.slice A R.length c) := (HCE.out.below hb (by rw [← hr2]; exact HCE.out.blk)).cell 0 (by decide)
  clear hR hb
  by_cases hlt : i < R.length
  · have d1 : decide ((i : Int) < (R.length : Int)) = true := decide_eq_true (by omega)
    have d1' : decide (i < R.length) = true := decide_eq_true hlt
    obtain ⟨b, o, hA, hbl, hc⟩ := hG.out i R[i] (List.getElem?_eq_getElem hlt)
    subst hA
    have HTK := Lib.hid (holeK_take (gone := gone) (List.getElem?_eq_getElem hlt))
    generalize hx : R[i] = x at *
    have hbl2 : b < r2 := by first | exact hbl | (rw [← hr2]; exact hbl)
    have f0 : wr.cell? ⟨b, o + i * 3, none⟩ = some (.int .i64 x.kd) := (HB.out.cell (p := ⟨b, o + i * 3, none⟩) hbl2).trans (hc 0 (by decide))
    have f1 : wr.cell? ⟨b, o + i * 3 + 1, none⟩ = some (.string (bk x.b)) := (HB.out.cell (p := ⟨b, o + i * 3 + 1, none⟩) hbl2).trans (hc 1 (by decide))
    have f2 : wr.cell? ⟨b, o + i * 3 + 2, none⟩ = some (.string (bk x.id)) := (HB.out.cell (p := ⟨b, o + i * 3 + 2, none⟩) hbl2).trans (hc 2 (by decide))
    have hle : ¬ (R.length : Int) ≤ i := by omega
    have hn0 : (0 : Int) ≤ i := by omega
    have hnl : (i : Int) < R.length := by omega
    have hw1 : IntKind.i64.wrap ((i : Int) + 1) = (i : Int) + 1 := IntWalk.i64_in _ (by have := HL.out; omega)
    clear hc hx hbl
    by_cases he : x.id = gone
    · have q1 : ((bk x.id).toList == (bk gone).toList) = true := by rw [he]; simp
      have HTK2 : Hid (holeK (R.take (i + 1)) gone = holeK (R.take i) gone) := Lib.hid (by rw [HTK.out, if_pos he, List.append_nil])
      clear he
      go_wp2
      go_roundw
      case rel => exact ⟨i + 1, rfl, hlt, by rw [HTK2.out]; exact HR.out, HB.out⟩
      case measure => simp [intOf]; omega
    · have q1 : ((bk x.id).toList == (bk gone).toList) = false := by rw [Lib.toList_data, Lib.toList_data, bk_list, bk_list, beq_eq_false_iff_ne]; exact he
      have HTK2 : Hid (holeK (R.take (i + 1)) gone = holeK (R.take i) gone ++ [x]) := Lib.hid (by rw [HTK.out, if_neg he])
      have hQl : (holeK (R.take i) gone).length ≤ 1048576 := by have h1 := holeK_len (R.take i) gone; have h2 := HL.out; simp only [List.length_take] at h1; omega
      have HQL := Lib.hid hQl
      obtain ⟨_, A0, c0, vR, vH, vT, hce2, how2, hoK2⟩ := HR.out
      have hne2 : Value.ownBlock (.slice A0 (holeK (R.take i) gone).length c0) ≠ some r2 := how2.ne_cel hce2 (by decide)
      generalize hQ : holeK (R.take i) gone = Q at *
      have g0 : wr.cell? ⟨r2, 0, none⟩ = some (.slice A0 Q.length c0) := hce2.cell 0 (by decide)
      have HC2 := Lib.hid hce2
      have HO2 : Hid (OwnS wr r2 27 3 (.slice A0 Q.length c0) Q.length (Q.flatMap knV) ∧ Value.ownBlock (.slice A0 Q.length c0) ≠ some r2) := Lib.hid ⟨own_base how2 hoK2, hne2⟩
      have HF := Lib.hid (And.intro f0 (And.intro f1 (And.intro f2 (And.intro k0 g0))))
      have HBL2 := Lib.hid hbl2
      have HI0 := Lib.hid (show IHo wr r2 r2 Q x A0 c0 vR vH vT [] wr.drew from (Below.refl _ _).drew)
      clear he hce2 how2 hoK2 hne2 hQl hr2
      go_upto_region 6 with (fail)
      refine wp_region_ph (by kernel_rfl) [12, 13, 16] [.span 0 2, .span 0 1, .span 0 1, .span 0 1, .span 0 1, .span 0 0, .span 0 0, .span 0 0, .span 0 0, .span 0 0, .span 0 0, .span 0 0, .phase 0, .phase 1, .span 2 2, .span 2 2, .phase 2] [fun z9 => z9 = .pointer (some ⟨r2, 0, none⟩), fun z9 => z9 = .pointer (some ⟨r2, 0, none⟩), fun z9 => z9 = .pointer (some ⟨r2, 0, none⟩), fun z9 => z9 = .pointer (some ⟨r2, 0, none⟩), fun z9 => z9 = .slice A0 Q.length c0, fun z9 => z9 = .pointer (some ⟨r, 0, none⟩), fun z9 => z9 = .pointer (some ⟨r, 0, none⟩), fun z9 => z9 = .pointer (some ⟨r, 0, none⟩), fun z9 => z9 = .slice (some ⟨b, o, none⟩) R.length c, fun z9 => z9 = .int .i64 (i : Int), fun z9 => z9 = .pointer (some ⟨b, o + i * 3, none⟩), fun z9 => z9 = .agg #[.int .i64 x.kd, .string (bk x.b), .string (bk x.id)], fun _ => True, fun _ => True, fun z9 => z9 = .pointer (some ⟨r2, 0, none⟩), fun z9 => z9 = .pointer (some ⟨r2, 0, none⟩), fun _ => True] ((IHo wr r2 r2 Q x A0 c0 vR vH vT)) (by kernel_rfl) (by kernel_rfl) (by kernel_rfl) (by kernel_rfl) (by kernel_rfl) (by kernel_rfl) rfl rfl (HI0.out) ?steps ?done
      case steps =>
       refine ⟨?_, ?_, ?_, ?_, ?_, ?_, ?_, ?_, ?_, ?_, ?_, ?_, ?_, ?_, ?_, ?_, ?_, trivial⟩
       · intro us au w1 k0 hlo hhi ha hd hst hI
         have q5 := slot_far (t := 5) (v := .pointer (some ⟨r2, 0, none⟩)) ha (by kernel_rfl) (by kernel_rfl)
         have p5 := slot_norm q5
         clear ha hd hst
         exact StepI.pure (v := .pointer (some ⟨r2, 0, none⟩)) rfl rfl (by go_simp) ⟨rfl, hI⟩
       · intro us au w1 k1 hlo hhi ha hd hst hI
         have q5 := slot_far (t := 5) (v := .pointer (some ⟨r2, 0, none⟩)) ha (by kernel_rfl) (by kernel_rfl)
         have p5 := slot_norm q5
         clear ha hd hst
         exact StepI.pure (v := .pointer (some ⟨r2, 0, none⟩)) rfl rfl (by go_simp) ⟨rfl, hI⟩
       · intro us au w1 k2 hlo hhi ha hd hst hI
         have e1 := hd 1 _ (by kernel_rfl) rfl
         have q29 := slot_at (t := 29) 1 ha (by kernel_rfl) (by kernel_rfl) (by kernel_rfl) e1
         have p29 := slot_norm q29
         clear ha hd hst
         exact StepI.pure (v := .pointer (some ⟨r2, 0, none⟩)) rfl rfl (by go_simp) ⟨rfl, hI⟩
       · intro us au w1 k3 hlo hhi ha hd hst hI
         have e2 := hd 2 _ (by kernel_rfl) rfl
         have q30 := slot_at (t := 30) 2 ha (by kernel_rfl) (by kernel_rfl) (by kernel_rfl) e2
         have p30 := slot_norm q30
         clear ha hd hst
         exact StepI.pure (v := .pointer (some ⟨r2, 0, none⟩)) rfl rfl (by go_simp) ⟨rfl, hI⟩
       · intro us au w1 k4 hlo hhi ha hd hst hI
         have e3 := hd 3 _ (by kernel_rfl) rfl
         have q31 := slot_at (t := 31) 3 ha (by kernel_rfl) (by kernel_rfl) (by kernel_rfl) e3
         have p31 := slot_norm q31
         clear ha hd hst
         have hb : Below wr.heap.size wr w1 := by first | exact hI | (rcases (show k4 = 0 ∨ k4 = 1 by omega) with rfl | rfl <;> first | exact hI | exact hI.2)
         have kk : w1.cell? ⟨r2, 0, none⟩ = some (.slice A0 Q.length c0) := (hb.cell (p := ⟨r2, 0, none⟩) (block_lt HF.out.2.2.2.2)).trans HF.out.2.2.2.2
         exact StepI.pure (v := .slice A0 Q.length c0) rfl rfl (by go_simp) ⟨rfl, hI⟩
       · intro us au w1 k5 hlo hhi ha hd hst hI
         obtain rfl : k5 = 0 := by omega
         have q0 := slot_far (t := 0) (v := .pointer (some ⟨r, 0, none⟩)) ha (by kernel_rfl) (by kernel_rfl)
         have p0 := slot_norm q0
         clear ha hd hst
         exact StepI.pure (v := .pointer (some ⟨r, 0, none⟩)) rfl rfl (by go_simp) ⟨rfl, hI⟩
       · intro us au w1 k6 hlo hhi ha hd hst hI
         obtain rfl : k6 = 0 := by omega
         have e5 := hd 5 _ (by kernel_rfl) rfl
         have q33 := slot_at (t := 33) 5 ha (by kernel_rfl) (by kernel_rfl) (by kernel_rfl) e5
         have p33 := slot_norm q33
         clear ha hd hst
         exact StepI.pure (v := .pointer (some ⟨r, 0, none⟩)) rfl rfl (by go_simp) ⟨rfl, hI⟩
       · intro us au w1 k7 hlo hhi ha hd hst hI
         obtain rfl : k7 = 0 := by omega
         have e6 := hd 6 _ (by kernel_rfl) rfl
         have q34 := slot_at (t := 34) 6 ha (by kernel_rfl) (by kernel_rfl) (by kernel_rfl) e6
         have p34 := slot_norm q34
         clear ha hd hst
         exact StepI.pure (v := .pointer (some ⟨r, 0, none⟩)) rfl rfl (by go_simp) ⟨rfl, hI⟩
       · intro us au w1 k8 hlo hhi ha hd hst hI
         obtain rfl : k8 = 0 := by omega
         have e7 := hd 7 _ (by kernel_rfl) rfl
         have q35 := slot_at (t := 35) 7 ha (by kernel_rfl) (by kernel_rfl) (by kernel_rfl) e7
         have p35 := slot_norm q35
         clear ha hd hst
         have hb : Below wr.heap.size wr w1 := by first | exact hI | (rcases (show k8 = 0 ∨ k8 = 1 by omega) with rfl | rfl <;> first | exact hI | exact hI.2)
         have kk : w1.cell? ⟨r, 0, none⟩ = some (.slice (some ⟨b, o, none⟩) R.length c) := (hb.cell (p := ⟨r, 0, none⟩) (block_lt HF.out.2.2.2.1)).trans HF.out.2.2.2.1
         exact StepI.pure (v := .slice (some ⟨b, o, none⟩) R.length c) rfl rfl (by go_simp) ⟨rfl, hI⟩
       · intro us au w1 k9 hlo hhi ha hd hst hI
         obtain rfl : k9 = 0 := by omega
         have q6 := slot_far (t := 6) (v := .int .i64 (i : Int)) ha (by kernel_rfl) (by kernel_rfl)
         have p6 := slot_norm q6
         clear ha hd hst
         exact StepI.pure (v := .int .i64 (i : Int)) rfl rfl (by go_simp) ⟨rfl, hI⟩
       · intro us au w1 k10 hlo hhi ha hd hst hI
         obtain rfl : k10 = 0 := by omega
         have e8 := hd 8 _ (by kernel_rfl) rfl
         have e9 := hd 9 _ (by kernel_rfl) rfl
         have q36 := slot_at (t := 36) 8 ha (by kernel_rfl) (by kernel_rfl) (by kernel_rfl) e8
         have p36 := slot_norm q36
         have q37 := slot_at (t := 37) 9 ha (by kernel_rfl) (by kernel_rfl) (by kernel_rfl) e9
         have p37 := slot_norm q37
         clear ha hd hst
         exact StepI.pure (v := .pointer (some ⟨b, o + i * 3, none⟩)) rfl rfl (by go_simp) ⟨rfl, hI⟩
       · intro us au w1 k11 hlo hhi ha hd hst hI
         obtain rfl : k11 = 0 := by omega
         have e10 := hd 10 _ (by kernel_rfl) rfl
         have q38 := slot_at (t := 38) 10 ha (by kernel_rfl) (by kernel_rfl) (by kernel_rfl) e10
         have p38 := slot_norm q38
         clear ha hd hst
         have hb : Below wr.heap.size wr w1 := hI
         have kk0 : w1.cell? ⟨b, o + i * 3, none⟩ = some (.int .i64 x.kd) := (hb.cell (p := ⟨b, o + i * 3, none⟩) (block_lt HF.out.1)).trans HF.out.1
         have kk1 : w1.cell? ⟨b, o + i * 3 + 1, none⟩ = some (.string (bk x.b)) := (hb.cell (p := ⟨b, o + i * 3 + 1, none⟩) (block_lt HF.out.2.1)).trans HF.out.2.1
         have kk2 : w1.cell? ⟨b, o + i * 3 + 2, none⟩ = some (.string (bk x.id)) := (hb.cell (p := ⟨b, o + i * 3 + 2, none⟩) (block_lt HF.out.2.2.1)).trans HF.out.2.2.1
         exact StepI.pure (v := .agg #[.int .i64 x.kd, .string (bk x.b), .string (bk x.id)]) rfl rfl (by go_simp) ⟨rfl, hI⟩
       · intro us au w1 ha hd hst hI
         have e11 := hd 11 _ (by kernel_rfl) rfl
         have q39 := slot_at (t := 39) 11 ha (by kernel_rfl) (by kernel_rfl) (by kernel_rfl) e11
         have p39 := slot_norm q39
         clear ha hd hst
         exact StepI.runs (v := .slice (some ⟨w1.heap.size, 0, none⟩) 1 1) (w' := w1.alloc (.cells #[.int .i64 x.kd, .string (bk x.b), .string (bk x.id)] 27)) rfl rfl (by go_simp) ⟨trivial, ⟨w1.heap.size, rfl, Src.kn w1 x _⟩, Below.trans hI (((Below.refl _ _).alloc (Nat.le_refl _) _).mono (Below.size hI))⟩
       · intro us au w1 ha hd hst hI
         have e4 := hd 4 _ (by kernel_rfl) rfl
         obtain ⟨e12⟩ := hd 12 _ (by kernel_rfl) rfl
         have q32 := slot_at (t := 32) 4 ha (by kernel_rfl) (by kernel_rfl) (by kernel_rfl) e4
         have p32 := slot_norm q32
         have q40 := slot_at (t := 40) 12 ha (by kernel_rfl) (by kernel_rfl) (by kernel_rfl) (Eq.refl (us 12))
         have p40 := slot_norm q40
         clear ha hd hst
         obtain ⟨⟨gs, hv8, hsrc⟩, hb8⟩ := hI
         rw [hv8] at p40 hsrc
         refine StepI.wp rfl rfl ?_
         intro K9 hK9
         have ho8 := HO2.out.1.chg (S := fun _ => False) (Chg.of_below hb8) (fun _ _ h => h)
         refine wp_append_S (.tmp 32) (.tmp 40) 23 23 rfl i0 (.agg #[.int .i64 0, .string ⟨#[]⟩, .string ⟨#[]⟩]) 40 (.slice 27) Tryz.underlying23 Tryz.underlying23 (fun _ h => by cases h) hi hz0 hz1 hz2 rfl (by go_simp) (by go_simp) ho8 hsrc (by have := HQL.out; unfold maxLen; omega) (by have := HQL.out; omega) (by have h1 := hb8.size; have h2 : r2 < wr.heap.size := HC2.out.blk; omega) ?_
         intro A9 c9 w9 ho9 hg9 hw9
         have hbc : Below r2 wr w1 := hb8.mono (Nat.le_of_lt HC2.out.blk)
         refine hK9 _ _ ⟨trivial, ⟨A9, c9, rfl, by rw [List.flatMap_append]; exact ho9⟩, (HC2.out.below hb8 HC2.out.blk).grown hg9 HO2.out.2, hbc.grown hg9 (by have h1 := hb8.size; have h2 : r2 < wr.heap.size := HC2.out.blk; omega) (fun q h => (HO2.out.1.lt q h).1)⟩
       · intro us au w1 k14 hlo hhi ha hd hst hI
         obtain rfl : k14 = 2 := by omega
         have e0 := hd 0 _ (by kernel_rfl) rfl
         have q28 := slot_at (t := 28) 0 ha (by kernel_rfl) (by kernel_rfl) (by kernel_rfl) e0
         have p28 := slot_norm q28
         clear ha hd hst
         exact StepI.pure (v := .pointer (some ⟨r2, 0, none⟩)) rfl rfl (by go_simp) ⟨rfl, hI⟩
       · intro us au w1 k15 hlo hhi ha hd hst hI
         obtain rfl : k15 = 2 := by omega
         have e14 := hd 14 _ (by kernel_rfl) rfl
         have q42 := slot_at (t := 42) 14 ha (by kernel_rfl) (by kernel_rfl) (by kernel_rfl) e14
         have p42 := slot_norm q42
         clear ha hd hst
         exact StepI.pure (v := .pointer (some ⟨r2, 0, none⟩)) rfl rfl (by go_simp) ⟨rfl, hI⟩
       · intro us au w1 ha hd hst hI
         have e15 := hd 15 _ (by kernel_rfl) rfl
         obtain ⟨e13⟩ := hd 13 _ (by kernel_rfl) rfl
         have q43 := slot_at (t := 43) 15 ha (by kernel_rfl) (by kernel_rfl) (by kernel_rfl) e15
         have p43 := slot_norm q43
         have q41 := slot_at (t := 41) 13 ha (by kernel_rfl) (by kernel_rfl) (by kernel_rfl) (Eq.refl (us 13))
         have p41 := slot_norm q41
         clear ha hd hst
         obtain ⟨⟨A9, c9, hv9, ho9⟩, hcv9, hb9⟩ := hI
         rw [hv9] at p41 ho9
         have fz := Cel.frozen hcv9 0
         have kk := Cel.cell hcv9 0 (by decide)
         have hQ1 : (Q ++ [x]).length = Q.length + 1 := by simp
         refine StepI.stored (w' := w1.setCell ⟨r2, 0, none⟩ (.slice A9 (Q.length + 1) c9)) rfl rfl (by go_simp) ⟨trivial, ⟨Nat.le_refl _, A9, c9, vR, vH, vT, ?_, ?_, ?_⟩, hb9.setCell (p := ⟨r2, 0, none⟩) (Nat.le_refl _) _⟩
         · rw [hQ1]; exact repSet0 hcv9 _
         · rw [hQ1]; exact (ho9.base_ (Nat.zero_le _)).setFar (ho9.ne_cel hcv9 (by decide)) _
         · rw [hQ1]; exact fun q h => (ho9.lt q h).1
      case done =>
       intro us w1 hI hd
       have HI9 : Hid (RepAt w1 (fun k => r2 ≤ k) r2 (Q ++ [x]) ∧ Below r2 wr w1) := Lib.hid hI
       clear hI hd
       simp only [putAll]
       go_simp
       have HB9 := Lib.hid (HB.out.trans HI9.out.2)
       go_wp2
       go_roundw
       case rel => exact ⟨i + 1, rfl, hlt, by rw [HTK2.out]; exact HI9.out.1, HB9.out⟩
       case measure => simp [intOf]; omega
  · have d1 : decide ((i : Int) < (R.length : Int)) = false := decide_eq_false (by omega)
    have d1' : decide (i < R.length) = false := decide_eq_false hlt
    have HTA : Hid (R.take i = R) := Lib.hid (List.take_of_length_le (by omega))
    go_wp2
    go_ret
    exact ⟨by first | exact HB.out | (rw [hr2]; exact HB.out) | (rw [HR2.out]; exact HB.out), r2, rfl, by have := HR.out; rw [HTA.out] at this; first | exact this | (rw [hr2]; exact this) | (rw [HR2.out]; exact this)⟩
end Go.Proofs.YtihanglnjghcfaaGreatDoor
namespace Go.Proofs.YtihanglnjghcfaaGreatDoor
open Go.RowKit Go.Maps
set_option linter.unusedVariables false
set_option linter.unusedSimpArgs false

theorem thOut_there (G : Gid → Option Kn) (L : List Gid) : thOut G L = L.filter (thereB (gobG G)) := by
 unfold thOut thereB gobG
 congr 1
 funext d
 cases G d <;> rfl
/-- What the walk keeps from round to round. -/
structure ThI (F0 : Nat → Prop) (r b1 b2 bg bo : Nat) (R : List Kn) (gone : Gid) (U rs : List Gid) (get : Value) (w : World) (g i : Nat) (l : List Git) (F1 : Nat → Prop) (wr : World) : Prop where
 st : ThSt F0 r b1 b2 bg bo R gone F1 ((l.map (·.id)).take i) wr
 sub : ∀ k, F1 k → F0 k ∨ w.heap.size ≤ k
 chg : Chg F0 w wr
 at' : WalkAt wr (KOf w.heap.size F1) g get true l
 run : ∀ M, ThRun (gobG (withoutK R gone)) i (l.map (·.id)) M → ThRun (gobG (withoutK R gone)) 0 (parG [] rs) M
 one : OneG l
 inU : SubU U l
 le : i ≤ l.length
def TherePost (F0 : Nat → Prop) (r b1 b2 : Nat) (R : List Kn) (gone : Gid) (rs : List Gid) (w : World) (e : Ending) (w' : World) : Prop :=
 GetSt r b1 b2 R gone F0 [] w' ∧ Chg F0 w w' ∧ ∃ M A, ThRun (gobG (withoutK R gone)) 0 (parG [] rs) M ∧ M.length ≤ 268435456 ∧ e = .returned (.slice A (thOut (withoutK R gone) M).length (thOut (withoutK R gone) M).length) ∧
  OwnS w' w.heap.size 9 1 (.slice A (thOut (withoutK R gone) M).length (thOut (withoutK R gone) M).length) (thOut (withoutK R gone) M).length (strVs (sortG (thOut (withoutK R gone) M)))
set_option maxRecDepth 100000 in
set_option maxHeartbeats 8000000 in
theorem there_any (hSo : SortsS) (F0 : Nat → Prop) (r b1 b2 : Nat) (R : List Kn) (gone : Gid) {U : List Gid} (hU : Univ (withoutK R gone) U) (w : World) (hst : GetSt r b1 b2 R gone F0 [] w) (hE : EnvO w) (h1 : ¬ F0 1) (h2 : ¬ F0 2)
 (A : Option Addr) (n c : Nat) (rs : List Gid) (hR : StrsAt w A (rs.map bk)) (hn : rs.length = n) (hl : n ≤ 268435456) (hs : ∀ r ∈ rs, r.length ≤ 1099511627776) (hrU : ∀ r ∈ rs, r ∈ U) (hRl : R.length ≤ 1073741824) (hz : ∀ x ∈ R, x.b.length ≤ 268435456) :
 Calls Tryz.prog 43 #[fnV 38 (.pointer (some ⟨b1, 0, none⟩)) (.pointer (some ⟨b2, 0, none⟩)), .slice A n c] w (TherePost F0 r b1 b2 R gone rs w) := by
 have hb0 : Below w.heap.size w (w.alloc (.cells #[.func (.func 38) #[] #[.pointer (some ⟨b1, 0, none⟩), .pointer (some ⟨b2, 0, none⟩)]] 38)) := (Below.refl _ _).alloc (Nat.le_refl _) _
 have hg0 : (w.alloc (.cells #[.func (.func 38) #[] #[.pointer (some ⟨b1, 0, none⟩), .pointer (some ⟨b2, 0, none⟩)]] 38)).cell? ⟨w.heap.size, 0, none⟩ = some (.func (.func 38) #[] #[.pointer (some ⟨b1, 0, none⟩), .pointer (some ⟨b2, 0, none⟩)]) := by rw [World.cell?_alloc_at _ _ _ _ (by simp)]; rfl
 have hs0 : (w.alloc (.cells #[.func (.func 38) #[] #[.pointer (some ⟨b1, 0, none⟩), .pointer (some ⟨b2, 0, none⟩)]] 38)).heap.size = w.heap.size + 1 := by simp
 have HBE := Lib.hid (beginN_any A n c rs (w.alloc (.cells #[.func (.func 38) #[] #[.pointer (some ⟨b1, 0, none⟩), .pointer (some ⟨b2, 0, none⟩)]] 38)) (hR.below hb0) hn hl hs)
 have HSO := Lib.hid hSo
 have HU := Lib.hid hU
 have HST := Lib.hid hst
 have HE := Lib.hid hE
 have HT := Lib.hid (And.intro hE.lt (And.intro h1 h2))
 have HRU := Lib.hid hrU
 have HGT := Lib.hid (fun (bg bo : Nat) => getter_there F0 r b1 b2 bg bo R gone hRl (fun x hx => by have := hz x hx; omega))
 have HZ := Lib.hid hz
 have HB0 := Lib.hid (And.intro hb0 (And.intro hg0 hs0))
 clear hSo hU hst hE h1 h2 hR hn hl hs hrU hRl hz hb0 hg0 hs0
 unfold fnV
 go_enter Tryz.func43, Tryz.ntmps43
 go_wp2_with fail
 refine HBE.out.mono ?_
 rintro e w2 ⟨hb2, g, rfl, hw2⟩
 generalize w.alloc (.cells #[.func (.func 38) #[] #[.pointer (some ⟨b1, 0, none⟩), .pointer (some ⟨b2, 0, none⟩)]] 38) = w1 at *
 have HB2 := Lib.hid hb2
 have HW2 := Lib.hid hw2
 have hgw : w1.heap.size ≤ g := hw2.1
 have HGW := Lib.hid hgw
 obtain ⟨_, k3, _, z3, hg2⟩ := hw2.cells
 have HG2 := Lib.hid hg2
 clear hb2 hw2 hgw hg2 HBE
 go_upto_region 3 with (fail)
 have hw3 := setEasy HW2.out true
 have hb3 : Below w1.heap.size w1 (w2.setCell ⟨g, 3, none⟩ (.bool true)) := HB2.out.setCell HGW.out _
 have hs3 : (w2.setCell ⟨g, 3, none⟩ (.bool true)).heap.size = w2.heap.size := by simp
 generalize w2.setCell ⟨g, 3, none⟩ (.bool true) = w3 at *
 have hbA : Below w3.heap.size w3 (w3.alloc (.cells #[.slice none 0 0] 32)) := (Below.refl _ _).alloc (Nat.le_refl _) _
 have hcA := Cel.new w3 32 #[.slice none 0 0] (oneF (.slice none 0 0)) (fun j hj => by
  have : j = 0 := by simp at hj; omega
  subst this; rfl)
 have hw4 := hw3.keep (K' := fun k => w1.heap.size ≤ k ∧ k < w3.heap.size) (Chg.of_below (S := fun k => w3.heap.size ≤ k) hbA) (fun k _ h1 h2 => by omega) (fun k hk hl => ⟨hk, hl⟩)
 obtain ⟨k0, _, z0, _, hg4⟩ := hw4.cells
 have HW4 := Lib.hid hw4
 have HB3 := Lib.hid hb3
 have HCA := Lib.hid hcA
 have HBA := Lib.hid hbA
 have HS3 := Lib.hid hs3
 clear hw3 hb3 hs3 hbA hcA hw4 hg4 k3 z3
 go_upto_region 5 with (fail)
 have hw5 := setGet HW4.out (fnV 62 (.pointer (some ⟨w.heap.size, 0, none⟩)) (.pointer (some ⟨w3.heap.size, 0, none⟩)))
 have hc5 := HCA.out.setFar (a := ⟨g, 0, none⟩) (by have := HG2.out; have := HS3.out; show w3.heap.size ≠ g; omega) (fnV 62 (.pointer (some ⟨w.heap.size, 0, none⟩)) (.pointer (some ⟨w3.heap.size, 0, none⟩)))
 have hb5 := (HB3.out.trans (HBA.out.mono HB3.out.size)).setCell (p := ⟨g, 0, none⟩) HGW.out (fnV 62 (.pointer (some ⟨w.heap.size, 0, none⟩)) (.pointer (some ⟨w3.heap.size, 0, none⟩)))
 unfold fnV at hw5 hc5 hb5
 generalize (w3.alloc (.cells #[.slice none 0 0] 32)).setCell ⟨g, 0, none⟩ (.func (.func 62) #[] #[.pointer (some ⟨w.heap.size, 0, none⟩), .pointer (some ⟨w3.heap.size, 0, none⟩)]) = w5 at *
 have hB5 : Below w.heap.size w w5 := HB0.out.1.trans (hb5.mono HB0.out.1.size)
 have HI0 : Hid (ThI F0 r b1 b2 w.heap.size w3.heap.size R gone U rs (.func (.func 62) #[] #[.pointer (some ⟨w.heap.size, 0, none⟩), .pointer (some ⟨w3.heap.size, 0, none⟩)]) w g 0 (rootsP [] rs) (fun k => F0 k ∨ k = w.heap.size ∨ k = w3.heap.size) w5) := Lib.hid (by
  have hs1 := HB0.out.2.2
  have h13 := HB3.out.size
  have hlt := HST.out.1
  have hne : ∀ k, F0 k → ¬ w.heap.size ≤ k := fun k hk => Nat.not_le.2 (hlt k hk)
  have hcB : Chg (fun k => w.heap.size ≤ k) w w5 := Chg.of_below hB5
  have hsz5 := hc5.blk
  exact {
   st := {
    lt := fun k hk => by
     rcases hk with h | h | h
     · have := hlt k h; have := hB5.size; omega
     · omega
     · omega
    sub := fun k hk => .inl hk
    rep := HST.out.2.1.keep hcB (fun k hk _ => hne k hk) (fun k hk _ => hk)
    f12 := ⟨HST.out.2.2.1, HST.out.2.2.2.1⟩
    k1 := cell_chg HST.out.2.2.2.2.1 hcB (hne _ HST.out.2.2.1)
    k2 := cell_chg HST.out.2.2.2.2.2 hcB (hne _ HST.out.2.2.2.1)
    fg := ⟨.inr (.inl rfl), fun h => by have := hlt _ h; omega⟩
    kg := (hb5.cell (p := ⟨w.heap.size, 0, none⟩) (by show w.heap.size < _; omega)).trans HB0.out.2.1
    fo := ⟨.inr (.inr rfl), fun h => by have := hlt _ h; omega, by omega⟩
    out := ⟨none, 0, hc5, DocS.nil _ _⟩ }
   sub := fun k hk => by
    rcases hk with h | h | h
    · exact .inl h
    · exact .inr (by omega)
    · exact .inr (by omega)
   chg := Chg.of_below hB5
   at' := hw5.keep (Chg.refl (fun _ => False) _) (fun _ _ _ h => h) (fun k hk _ => ⟨by have := hk.1; omega, fun h => by
    rcases h with h | h | h
    · have := hlt k h; have := hk.1; omega
    · have := hk.1; omega
    · have := hk.2; omega⟩)
   run := fun M h => by rw [rootsP_ids] at h; exact h
   one := rootsP_one rs [] List.Pairwise.nil
   inU := rootsP_sub rs [] (fun x hx => by simp at hx) HRU.out
   le := Nat.zero_le _ })
 clear hw5 hc5 hb5 hB5 k0 z0
 generalize hbo : w3.heap.size = bo at *
 generalize hbg : w.heap.size = bg at HI0
 have HBG : Hid (bg = w.heap.size) := Lib.hid hbg.symm
 go_wp2
 go_loopw [7] (fun vn wr => ∃ (i : Nat) (l : List Git) (F1 : Nat → Prop), vn = .int .i64 i ∧ ThI F0 r b1 b2 bg bo R gone U rs (.func (.func 62) #[] #[.pointer (some ⟨bg, 0, none⟩), .pointer (some ⟨bo, 0, none⟩)]) w g i l F1 wr) (fun vn _ => U.length - (intOf vn).toNat)
 case atStart => exact ⟨0, _, _, rfl, HI0.out⟩
 case round =>
  clear HI0 HW2 HW4 HB2 HB3 HB0 HCA HBA HS3 HG2 HGW
  obtain ⟨i, l, F1, rfl, hI⟩ := hrel
  have HI := Lib.hid hI
  have HLU := Lib.hid (And.intro (sub_len hI.one hI.inU) HU.out.num)
  clear hI
  generalize wr = w6 at *
  by_cases hlt : i < l.length
  · have d1 : decide ((i : Int) < (l.length : Int)) = true := decide_eq_true (by omega)
    have d1' : decide (i < l.length) = true := decide_eq_true hlt
    have HLT := Lib.hid hlt
    obtain ⟨x, hx⟩ : ∃ x, l[i]? = some x := ⟨_, List.getElem?_eq_getElem hlt⟩
    obtain ⟨b, o, c2, k1, f1, fz, hwk, hck⟩ := HI.out.at'.kind hx 0
    have HX := Lib.hid hx
    have HWK := Lib.hid hwk
    have HCK := Lib.hid hck
    have hle : ¬ (l.length : Int) ≤ i := by omega
    have hn0 : (0 : Int) ≤ i := by omega
    have hnl : (i : Int) < l.length := by omega
    have hw1 : IntKind.i64.wrap ((i : Int) + 1) = (i : Int) + 1 := IntWalk.i64_in _ (by have := HLU.out; omega)
    clear hx hwk hck hlt
    go_upto_region 9 with (fail)
    generalize w6.setCell ⟨b, o + i * 2 + 1, none⟩ (.int .i64 0) = w7 at *
    clear k1 f1 fz
    have HC7 : Hid (Chg F0 w w7) := Lib.hid (HI.out.chg.trans HCK.out (fun k hk h => by have := h.1; omega))
    have hS7 := HI.out.st.keep HCK.out (fun k hk h => h.2 hk)
    have hx7 : (l.modify i fun y => (⟨y.id, 0⟩ : Git))[i]? = some ⟨x.id, 0⟩ := by rw [List.getElem?_modify, HX.out]; simp
    have hxi : (l.map (·.id))[i]? = some x.id := by rw [List.getElem?_map, HX.out]; rfl
    have HIDS := Lib.hid (look_easy (G := gobG (withoutK R gone)) hxi)
    have HXI := Lib.hid hxi
    have HLK := Lib.hid (lookN_any (HGT.out bg bo) F1 ((l.map (·.id)).take i) w7 w.heap.size g i true (l.modify i fun y => ⟨y.id, 0⟩) ⟨x.id, 0⟩
     (by rw [List.length_take]; have h1 := HLU.out; have h2 := HLT.out; omega) hS7 (HE.out.chg HC7.out HT.out.2.1 HT.out.2.2) HT.out.1.1 HT.out.1.2
     (fun h => by rcases HI.out.sub _ h with h | h; exact HT.out.2.1 h; have := HT.out.1.1; omega) (fun h => by rcases HI.out.sub _ h with h | h; exact HT.out.2.2 h; have := HT.out.1.2; omega)
     HC7.out.size HWK.out hx7 (by rw [List.length_modify]; have := HLU.out; omega) (fun o ho => HU.out.sz _ o ho))
    have HON := Lib.hid (lookW_one true (gobG (withoutK R gone)) i (one_modify HI.out.one i 0))
    have HSU := Lib.hid (lookW_sub HU.out true i (sub_modify HI.out.inU i 0))
    rw [show (fun d => (withoutK R gone d).map gobK) = gobG (withoutK R gone) from rfl] at HLK
    unfold fnV at HLK
    unfold LookPost at HLK
    clear hS7 hx7 hxi
    go_wp2_with fail
    refine HLK.out.mono ?_
    generalize lookW true (gobG (withoutK R gone)) (l.modify i fun y => ⟨y.id, 0⟩) i = RR at *
    rintro e w8 ⟨rfl, F2, hs8, hf8, hc8, hw8⟩
    obtain ⟨m, er⟩ := RR
    dsimp only at *
    have HFI : Hid (ThI F0 r b1 b2 bg bo R gone U rs (.func (.func 62) #[] #[.pointer (some ⟨bg, 0, none⟩), .pointer (some ⟨bo, 0, none⟩)]) w g (i + 1) m F2 w8) := Lib.hid (by
     obtain ⟨t, ht⟩ : ∃ t, m.map (·.id) = l.map (·.id) ++ t := by
      rw [HIDS.out]
      unfold thStep
      split
      · exact ⟨[], by simp⟩
      · exact parG_pre _ _
     have hil := HLT.out
     have hml : m.length = l.length + t.length := by have := congrArg List.length ht; simpa using this
     have hqs : (m.map (·.id)).take (i + 1) = (l.map (·.id)).take i ++ [x.id] := by
      rw [ht, List.take_append_of_le_length (by rw [List.length_map]; omega), List.take_add_one, HXI.out]; rfl
     exact {
      st := by rw [hqs]; exact hs8
      sub := fun k hk => by
       rcases hf8 k hk with h | h
       · exact HI.out.sub k h
       · have := HC7.out.size; exact .inr (by omega)
      chg := HC7.out.trans hc8 (fun k hk h => by
       rcases h with h | h
       · rcases HI.out.sub k h with h | h
         · exact h
         · omega
       · have := h.1; omega)
      at' := hw8
      run := fun M h => HI.out.run M (.step HXI.out (by rw [← HIDS.out]; exact h))
      one := HON.out
      inU := HSU.out
      le := by omega })
    clear hs8 hf8 hc8 hw8 HLK
    go_wp2
    go_roundw
    case rel => exact ⟨i + 1, m, F2, rfl, HFI.out⟩
    case measure => have := HLU.out; have := HLT.out; simp [intOf]; omega
  · have d1 : decide ((i : Int) < (l.length : Int)) = false := decide_eq_false (by omega)
    have d1' : decide (i < l.length) = false := decide_eq_false hlt
    have hst := HI.out.st
    rw [List.take_of_length_le (by rw [List.length_map]; omega)] at hst
    have HRUN := Lib.hid (HI.out.run _ (.done (by rw [List.length_map]; omega)))
    have HML : Hid ((l.map (·.id)).length ≤ 268435456) := Lib.hid (by rw [List.length_map]; have := HLU.out; omega)
    obtain ⟨_, A2, c2', _, _, hcew, _⟩ := HI.out.at'
    have k1 : w6.cell? ⟨g, 1, none⟩ = some (.slice A2 l.length c2') := hcew.cell 1 (by decide)
    have HS6 := Lib.hid hst
    generalize l.map (·.id) = M at *
    obtain ⟨A3, c3, hce, hdo⟩ := hst.out
    have ko : w6.cell? ⟨bo, 0, none⟩ = some (.slice A3 (thOut (withoutK R gone) M).length c3) := hce.cell 0 (by decide)
    have hnb : Value.ownBlock (.slice A3 (thOut (withoutK R gone) M).length c3) ≠ some bo := hdo.1.ne_cel hce (by decide)
    have hpl : ∀ k, Value.ownBlock (.slice A3 (thOut (withoutK R gone) M).length c3) = some k → w.heap.size ≤ k := fun k hk => by
     have h := hdo.2 k hk
     rcases HI.out.sub k h.1 with h2 | h2
     · exact absurd h2 h.2.1
     · exact h2
    have HPL := Lib.hid (And.intro hpl hnb)
    have hno : ∀ k, Value.ownBlock (.slice A3 (thOut (withoutK R gone) M).length c3) = some k → ¬ F0 k ∧ k ≠ bg := fun k hk => (hdo.2 k hk).2
    have HNO := Lib.hid hno
    have hol : (thOut (withoutK R gone) M).length ≤ 1073741824 := by have := thOut_len (withoutK R gone) M; have := HML.out; omega
    have HOL := Lib.hid hol
    have HSR := Lib.hid (HSO.out w6 w.heap.size A3 _ c3 _ (own_base hdo.1 hpl) hol)
    have HCE := Lib.hid hce
    have HCP := Lib.hid (And.intro hdo.1.cap hdo.1.capM)
    clear hst hcew hce hdo hnb hpl hno hol hlt
    go_wp2_with fail
    refine HSR.out.mono ?_
    rintro e w7 ⟨rfl, ho7, hc7⟩
    have ko7 : w7.cell? ⟨bo, 0, none⟩ = some (.slice A3 (thOut (withoutK R gone) M).length c3) := (HCE.out.chg hc7 (fun h => HPL.out.2 h)).cell 0 (by decide)
    have HO7 := Lib.hid ho7
    have HC7 := Lib.hid hc7
    have HCL := Lib.hid (clipS_any A3 (thOut (withoutK R gone) M).length c3 w7 HCP.out.1 HCP.out.2)
    clear ho7 hc7 k1 ko
    go_wp2_with fail
    refine HCL.out.mono ?_
    rintro e w8 ⟨rfl, hww⟩
    have hww2 := hww
    subst hww2
    go_wp2
    go_ret
    have hs := HS6.out
    have hnc : ∀ k, F0 k → ¬ Value.ownBlock (.slice A3 (thOut (withoutK R gone) M).length c3) = some k := fun k hk h => (HNO.out k h).1 hk
    refine ⟨⟨fun k hk => ?_, hs.rep.keep HC7.out (fun k hk _ => hnc k hk) (fun k hk _ => hk), hs.f12.1, hs.f12.2, cell_chg hs.k1 HC7.out (hnc _ hs.f12.1), cell_chg hs.k2 HC7.out (hnc _ hs.f12.2)⟩, HI.out.chg.trans HC7.out (fun k hk h => ?_), M, A3, HRUN.out, HML.out, rfl, HO7.out.clipN⟩
    · have h1 := hs.lt k (hs.sub k hk)
      have h2 := HC7.out.size
      omega
    · have := HPL.out.1 k h
      omega
end Go.Proofs.YtihanglnjghcfaaGreatDoor
namespace Go.Proofs.YtihanglnjghcfaaGreatDoor
open Go.RowKit Go.Maps
set_option linter.unusedVariables false
set_option linter.unusedSimpArgs false

def idxK (R : List Kn) (d : Gid) : Option Nat := R.findIdx? fun o => o.id == d
/-- What is counted: one more at the place of the one asked. -/
def stepA (R : List Kn) (L : List Int) (d : Gid) : List Int := match idxK R d with | none => L | some i => L.set i (IntKind.i64.wrap (L.getD i 0 + 1))
def askF (R : List Kn) (qs : List Gid) : List Int := qs.foldl (stepA R) (List.replicate (R.length + 1) 0)
/-- How the counting function's memory lies. -/
structure OnceSt (r bR bA ba oa : Nat) (R : List Kn) (F : Nat → Prop) (qs : List Gid) (w : World) : Prop where
 low : ∀ k, F k → k < w.heap.size
 rep : RepAt w (fun k => F k ∧ k ≠ ba) r R
 fR : F bR
 fA : F bA
 fa : F ba
 cR : w.cell? ⟨bR, 0, none⟩ = some (.pointer (some ⟨r, 0, none⟩))
 cA : w.cell? ⟨bA, 0, none⟩ = some (.slice (some ⟨ba, oa, none⟩) (R.length + 1) (R.length + 1))
 row : OwnS w 0 3 1 (.slice (some ⟨ba, oa, none⟩) (R.length + 1) (R.length + 1)) (R.length + 1) ((askF R qs).map (Value.int .i64))
 nR : bR ≠ ba
 nA : bA ≠ ba
theorem OnceSt.keep {r bR bA ba oa : Nat} {R : List Kn} {F S : Nat → Prop} {qs : List Gid} {w w' : World} (h : OnceSt r bR bA ba oa R F qs w) (hc : Chg S w w') (hS : ∀ k, F k → ¬ S k) : OnceSt r bR bA ba oa R F qs w' where
 low := fun k hk => Nat.lt_of_lt_of_le (h.low k hk) hc.size
 rep := h.rep.keep hc (fun k hk _ => hS k hk.1) (fun k hk _ => hk)
 fR := h.fR
 fA := h.fA
 fa := h.fa
 cR := (World.cell?_of_block (hc.block bR (block_lt h.cR) (hS bR h.fR))).trans h.cR
 cA := (World.cell?_of_block (hc.block bA (block_lt h.cA) (hS bA h.fA))).trans h.cA
 row := h.row.chg hc fun k hk => hS k (by injection hk with hk; rw [← hk]; exact h.fa)
 nR := h.nR
 nA := h.nA
end Go.Proofs.YtihanglnjghcfaaGreatDoor
namespace Go.Proofs.YtihanglnjghcfaaGreatDoor
open Go.RowKit Go.Maps
set_option linter.unusedVariables false
set_option linter.unusedSimpArgs false

def noneW : Gid := [110, 111, 110, 101]
/-- The n-th of all IDs, or a text that is none. -/
def someK (R : List Kn) (n : Int) : Gid := if R.length = 0 ∨ n < 0 then noneW else (R[n.toNat % R.length]?.map (·.id)).getD []
set_option maxRecDepth 100000 in
set_option maxHeartbeats 2000000 in
theorem some_any (K : Nat → Prop) (r : Nat) (R : List Kn) (n : Int) (w : World) (h : RepAt w K r R) (hl : R.length ≤ 1048576) (hn : n ≤ 9223372036854775807) :
 Calls Tryz.prog 13 #[.pointer (some ⟨r, 0, none⟩), .int .i64 n] w fun e w' => e = .returned (.string (bk (someK R n))) ∧ Below w.heap.size w w' := by
 obtain ⟨_, A, c, _, _, _, hce, how, _⟩ := h
 have k0 : w.cell? ⟨r, 0, none⟩ = some (.slice A R.length c) := hce.cell 0 (by decide)
 by_cases hz : R.length = 0
 · have HR : Hid (someK R n = noneW) := Lib.hid (by unfold someK; rw [if_pos (.inl hz)])
   have d0 : ((R.length : Int) == 0) = true := by rw [beq_iff_eq]; omega
   have d0' : (R.length : Int) = 0 := by omega
   rw [hz] at k0 d0'
   clear hce how hz d0
   go_enter Tryz.func13, Tryz.ntmps13
   go_wp2
   go_ret
   exact ⟨by rw [HR.out]; rfl, Below.refl _ _⟩
 · have d0 : ((R.length : Int) == 0) = false := by rw [beq_eq_false_iff_ne]; omega
   have d0' : ¬ (R.length : Int) = 0 := by omega
   have d0'' : ¬ R.length = 0 := hz
   by_cases hneg : n < 0
   · have d1 : decide (n < 0) = true := decide_eq_true hneg
     have HR : Hid (someK R n = noneW) := Lib.hid (by unfold someK; rw [if_pos (.inr hneg)])
     clear hce how
     go_enter Tryz.func13, Tryz.ntmps13
     go_wp2
     go_ret
     exact ⟨by rw [HR.out]; rfl, Below.refl _ _⟩
   · have d1 : decide (n < 0) = false := decide_eq_false hneg
     have hq : n.toNat % R.length < R.length := Nat.mod_lt _ (by omega)
     have HR : Hid (someK R n = R[n.toNat % R.length].id) := Lib.hid (by unfold someK; rw [if_neg (by omega), List.getElem?_eq_getElem hq]; rfl)
     have ht : (n.tmod (R.length : Int)) = ((n.toNat % R.length : Nat) : Int) := by
      rw [Int.tmod_eq_emod_of_nonneg (by omega)]
      have : n = (n.toNat : Int) := by omega
      conv => lhs; rw [this]
      rfl
     obtain ⟨b, o, hA, _, _, hc⟩ := OwnS.flat knV_len (by decide) how (List.getElem?_eq_getElem hq)
     subst hA
     have f2 : w.cell? ⟨b, o + (n.toNat % R.length) * 3 + 2, none⟩ = some (.string (bk R[n.toNat % R.length].id)) := hc 2 (by decide)
     generalize hy : R[n.toNat % R.length] = y at *
     clear hy
     generalize n.toNat % R.length = q at *
     have hle : ¬ (R.length : Int) ≤ q := by omega
     have hn0 : (0 : Int) ≤ q := by omega
     have hnl : (q : Int) < R.length := by omega
     have hw : IntKind.i64.wrap (q : Int) = q := IntWalk.i64_in _ (by omega)
     clear hce how hc hl
     go_enter Tryz.func13, Tryz.ntmps13
     go_upto_region 3 with (fail)
     go_quiet (fail)
     go_wp2
     go_ret
     exact ⟨by rw [HR.out]; rfl, Below.drewN (Below.refl _ _) _⟩
end Go.Proofs.YtihanglnjghcfaaGreatDoor
namespace Go.Proofs.YtihanglnjghcfaaGreatDoor
open Go.RowKit Go.Maps
set_option linter.unusedVariables false
set_option linter.unusedSimpArgs false

def idsK (R : List Kn) (xs : List Int) : List Gid := (xs.take 6).map (someK R)
theorem idsK_len (R : List Kn) (xs : List Int) : (idsK R xs).length ≤ 6 := by unfold idsK; rw [List.length_map, List.length_take]; omega
def LIdsPost (L : List Gid) (w : World) (e : Ending) (w' : World) : Prop :=
 Below w.heap.size w w' ∧ ∃ A c, e = .returned (.slice A L.length c) ∧ OwnS w' w.heap.size 9 1 (.slice A L.length c) L.length (strVs L)
set_option maxRecDepth 100000 in
set_option maxHeartbeats 2000000 in
theorem lids_any (K : Nat → Prop) (r : Nat) (R : List Kn) (A : Option Addr) (n c : Nat) (xs : List Int) (w : World) (h : RepAt w K r R) (hl : R.length ≤ 1048576) (hI : Ints .i64 w A xs) (hn : xs.length = n) (hnm : n ≤ 9223372036854775807) (hx : ∀ x ∈ xs, x ≤ 9223372036854775807) :
 Calls Tryz.prog 15 #[.pointer (some ⟨r, 0, none⟩), .slice A n c] w (LIdsPost (idsK R xs) w) := by
 obtain ⟨i0, hi, hz0, hz1, hz2⟩ := info_parts info_str1
 have HI := Lib.hid hI
 have HN := Lib.hid hn
 have HX := Lib.hid hx
 have HR := Lib.hid h
 have HL := Lib.hid hl
 clear h hl hI hn hx
 go_enter Tryz.func15, Tryz.ntmps15
 go_wp2
 go_loopw [5, 6] (fun v5 v6 wr => ∃ (i : Nat) (A5 : Option Addr) (c5 : Nat), v6 = .int .i64 i ∧ v5 = .slice A5 i c5 ∧ i ≤ n ∧ i ≤ 6 ∧ OwnS wr w.heap.size 9 1 (.slice A5 i c5) i (strVs ((xs.take i).map (someK R))) ∧ Below w.heap.size w wr) (fun _ v6 _ => 6 - (intOf v6).toNat)
 case atStart => exact ⟨0, none, 0, rfl, rfl, by omega, by omega, OwnS.nil _ _ _ _, Below.refl _ _⟩
 case round =>
  obtain ⟨i, A5, c5, rfl, rfl, hin, hi6, ho, hb⟩ := hrel
  have HO := Lib.hid ho
  have HB := Lib.hid hb
  clear ho hb
  by_cases hlt : i < n
  · have d1 : decide ((i : Int) < (n : Int)) = true := decide_eq_true (by omega)
    have d1' : decide (i < n) = true := decide_eq_true hlt
    by_cases hlt6 : i < 6
    · have d2 : decide ((i : Int) < 6) = true := decide_eq_true (by omega)
      have d2' : decide (i < 6) = true := decide_eq_true hlt6
      have hix : i < xs.length := by rw [HN.out]; exact hlt
      obtain ⟨b, o, hA, hbl, hcl⟩ := HI.out (by omega)
      have hc0 := hcl i hix
      have hgd : xs.getD i 0 = xs[i] := by rw [List.getD_eq_getElem?_getD, List.getElem?_eq_getElem hix]; rfl
      rw [hgd] at hc0
      have hxb := HX.out xs[i] (List.getElem_mem hix)
      have HTK : Hid (strVs ((xs.take (i + 1)).map (someK R)) = strVs ((xs.take i).map (someK R)) ++ [.string (bk (someK R xs[i]))]) := Lib.hid (by unfold strVs; rw [List.take_add_one, List.getElem?_eq_getElem hix, List.map_append, List.map_append]; rfl)
      subst hA
      generalize xs[i] = x at *
      have f0 := (HB.out.cell (p := ⟨b, o + i, none⟩) hbl).trans hc0
      have hle : ¬ (n : Int) ≤ i := by omega
      have hn0 : (0 : Int) ≤ i := by omega
      have hnl : (i : Int) < n := by omega
      have hw1 : IntKind.i64.wrap ((i : Int) + 1) = (i : Int) + 1 := IntWalk.i64_in _ (by omega)
      have HSM := Lib.hid (some_any K r R x wr (HR.out.below HB.out) HL.out hxb)
      have hm9 : i + 1 ≤ maxLen := by unfold maxLen; omega
      have hb9 : (i + 1) * 16 ≤ 140737488355328 := by omega
      clear hcl hc0 hbl hix hgd hxb
      go_wp2_with fail
      refine HSM.out.mono ?_
      rintro e w2 ⟨rfl, hb2⟩
      have HS := Lib.hid (Src.one_new (P := Tryz.prog) (w := w2) (u := .string (bk (someK R x))) (t := 9) rfl)
      have HOA := Lib.hid ((HO.out.chg (S := fun _ => False) (Chg.of_below hb2) (fun _ _ h => h)).alloc (.cells #[.string (bk (someK R x))] 9))
      have HBA : Hid (Below w.heap.size w (w2.alloc (.cells #[.string (bk (someK R x))] 9))) := Lib.hid ((HB.out.trans (hb2.mono HB.out.size)).trans (((Below.refl _ _).alloc (Nat.le_refl _) _).mono (HB.out.trans (hb2.mono HB.out.size)).size))
      clear hb2
      go_wp2_with (at_builtin; go_loud (refine wpList_append_S rfl (.tmp 17) (.tmp 24) 32 32 rfl i0 (.string ⟨#[]⟩) 16 (.slice 9) Tryz.underlying32 Tryz.underlying32 (fun _ h => by cases h) hi hz0 hz1 hz2 rfl rfl rfl HOA.out HS.out hm9 hb9 HBA.out.size ?_; intro A8 c8 w8; generalize hnn : i + 1 = nn at *; intro ho8 hg8 hw8; have HO8 := Lib.hid ho8; have HB8 := Lib.hid (HBA.out.grown hg8 HBA.out.size (fun j hj => (HOA.out.lt j hj).1)); have HNN := Lib.hid hnn; clear ho8 hg8 hw8 hnn))
      go_roundw
      case rel => exact ⟨nn, A8, c8, by rw [← HNN.out]; rfl, rfl, by have := HNN.out; omega, by have := HNN.out; omega, by rw [HTK.out]; exact HO8.out, HB8.out⟩
      case measure => have := HNN.out; simp [intOf]; omega
    · have d2 : decide ((i : Int) < 6) = false := decide_eq_false (by omega)
      have d2' : decide (i < 6) = false := decide_eq_false hlt6
      have he6 : i = 6 := by omega
      have e1 : (idsK R xs).length = i := by unfold idsK; rw [List.length_map, List.length_take, HN.out]; omega
      have HE := Lib.hid e1
      have HT6 : Hid (strVs ((xs.take i).map (someK R)) = strVs (idsK R xs)) := Lib.hid (by rw [he6]; rfl)
      clear e1 he6
      go_wp2
      go_ret
      exact ⟨HB.out, A5, c5, by rw [HE.out]; rfl, by rw [HE.out, ← HT6.out]; exact HO.out⟩
  · have d1 : decide ((i : Int) < (n : Int)) = false := decide_eq_false (by omega)
    have d1' : decide (i < n) = false := decide_eq_false hlt
    have e1 : (idsK R xs).length = i := by unfold idsK; rw [List.length_map, List.length_take, HN.out]; omega
    have HE := Lib.hid e1
    have HT6 : Hid (strVs ((xs.take i).map (someK R)) = strVs (idsK R xs)) := Lib.hid (by
     unfold idsK
     have hni : n = i := by omega
     rw [List.take_of_length_le (l := xs) (i := i) (by rw [HN.out]; omega), List.take_of_length_le (l := xs) (i := 6) (by rw [HN.out]; omega)])
    clear e1
    go_wp2
    go_ret
    exact ⟨HB.out, A5, c5, by rw [HE.out]; rfl, by rw [HE.out, ← HT6.out]; exact HO.out⟩
end Go.Proofs.YtihanglnjghcfaaGreatDoor
namespace Go.Proofs.YtihanglnjghcfaaGreatDoor
open Go.RowKit Go.Maps
set_option linter.unusedVariables false
set_option linter.unusedSimpArgs false

/-- All that may be come to from some roots. -/
def univK (R : List Kn) (rs : List Gid) : List Gid := rs ++ R.flatMap fun x => ((lkOf x.kd x.b).getD []).map fun k => k.id.data.toList
theorem univ_of {G : Gid → Option Kn} {R : List Kn} {rs : List Gid} (hG : ∀ d o, G d = some o → o ∈ R) (hl : R.length ≤ 100) (hr : rs.length ≤ 100) (hb : ∀ x ∈ R, x.b.length ≤ 2000) : Univ G (univK R rs) where
 num := by
  unfold univK
  rw [List.length_append]
  have key : ∀ (Q : List Kn), (∀ x ∈ Q, x.b.length ≤ 2000) → (Q.flatMap fun x => ((lkOf x.kd x.b).getD []).map fun k => k.id.data.toList).length ≤ Q.length * 2001 := by
   intro Q
   induction Q with
   | nil => intro _; simp
   | cons x Q ih =>
    intro h
    rw [List.flatMap_cons, List.length_append, List.length_map, List.length_cons, Nat.succ_mul]
    have h1 := ih fun y hy => h y (List.mem_cons_of_mem _ hy)
    have h2 : ((lkOf x.kd x.b).getD []).length ≤ 2001 := by
     cases hk : lkOf x.kd x.b with
     | none => simp
     | some ks =>
      have := lkOf_num hk
      have := h x (by simp)
      show ks.length ≤ _
      omega
    omega
  have := key R hb
  have : R.length * 2001 ≤ 100 * 2001 := Nat.mul_le_mul_right _ hl
  omega
 sz := fun d o h => by have := hb o (hG d o h); omega
 lk := fun d o ks h hk k hkm => by
  unfold univK
  refine List.mem_append_right _ (List.mem_flatMap.2 ⟨o, hG d o h, ?_⟩)
  rw [hk]
  exact List.mem_map.2 ⟨k, hkm, rfl⟩
theorem univ_roots (R : List Kn) (rs : List Gid) : ∀ r ∈ rs, r ∈ univK R rs := fun r hr => List.mem_append_left _ hr
theorem someK_len {R : List Kn} (hR : IdR R) (n : Int) : (someK R n).length ≤ 40 := by
 unfold someK
 split
 · decide
 · cases h : R[n.toNat % R.length]? with
   | none => simp
   | some x =>
    show x.id.length ≤ 40
    rw [hR x (List.mem_of_getElem? h), idK_len]
    exact Nat.le_refl _
theorem getK_mem {R : List Kn} {d : Gid} {o : Kn} (h : getK R d = some o) : o ∈ R := List.mem_of_find?_eq_some h
end Go.Proofs.YtihanglnjghcfaaGreatDoor
namespace Go.Proofs.YtihanglnjghcfaaGreatDoor
open Go.RowKit Go.Maps
set_option linter.unusedVariables false
set_option linter.unusedSimpArgs false

theorem hole_getK (R : List Kn) (gone : Gid) : getK (holeK R gone) = withoutK R gone := by
 funext d
 unfold withoutK
 induction R with
 | nil => simp [holeK, getK]
 | cons x R ih =>
  unfold holeK getK at *
  rw [List.filter_cons]
  by_cases hx : x.id = gone
  · have h1 : (!(x.id == gone)) = false := by simp [hx]
    rw [h1, if_neg (by simp), ih, List.find?_cons]
    by_cases hd : d = gone
    · rw [if_pos hd, if_pos hd]
    · rw [if_neg hd, if_neg hd]
      have h2 : (x.id == d) = false := by rw [beq_eq_false_iff_ne]; exact fun h => hd (h.symm.trans hx)
      rw [h2]
  · have h1 : (!(x.id == gone)) = true := by simp [hx]
    rw [h1, if_pos rfl, List.find?_cons, List.find?_cons]
    by_cases hd : x.id = d
    · have h2 : (x.id == d) = true := by rw [beq_iff_eq]; exact hd
      rw [h2]
      dsimp only
      rw [if_neg (fun h => hx (hd.trans h))]
    · have h2 : (x.id == d) = false := by rw [beq_eq_false_iff_ne]; exact hd
      rw [h2]
      exact ih
theorem goG_one {G : Gid → Option Gob} {most : Int} : ∀ {n i : Nat} {l m : List Git}, goG G most n i l = .ok m → OneG l → OneG m
 | 0, i, l, m, h, h1 => by unfold goG at h; injection h with h; rw [← h]; exact h1
 | n + 1, i, l, m, h, h1 => by
  unfold goG at h
  split at h
  · split at h
    · cases h
    · split at h
      · cases h
      · rename_i hl
        exact goG_one h (lookG_one h1 hl)
  · injection h with h; rw [← h]; exact h1
theorem closR_one {G : Gid → Option Kn} {U : List Gid} {rs : List Gid} {most : Int} {m : List Git} (h : closR G U rs most = .ok m) : OneG m := goG_one h (rootsP_one rs [] List.Pairwise.nil)
theorem before_lt : ∀ a b : List UInt8, bytesBefore a b = true ↔ a < b
 | [], [] => by simp [bytesBefore]
 | _ :: _, [] => by simp [bytesBefore]
 | [], _ :: _ => by simp [bytesBefore]
 | a :: x, b :: y => by
  rw [List.cons_lt_cons_iff, ← before_lt x y]
  simp [bytesBefore]
theorem sortG_rise {L : List Gid} (h : L.Nodup) : Rise (sortG L) := by
 have hs : (sortG L).Pairwise fun x y => decide (x ≤ y) = true := List.pairwise_mergeSort (fun a b c h1 h2 => by simp only [decide_eq_true_eq] at *; exact List.le_trans h1 h2) (fun a b => by simp only [Bool.or_eq_true, decide_eq_true_eq]; exact List.le_total a b) L
 have hn : (sortG L).Nodup := (List.mergeSort_perm _ _).nodup_iff.2 h
 unfold Rise
 refine (hs.and hn).imp fun {a b} hab => ?_
 rw [before_lt]
 have h1 : a ≤ b := by simpa using hab.1
 exact Classical.byContradiction fun hn => hab.2 (List.le_antisymm h1 (List.not_lt.1 hn))
theorem clos_same {G : Gid → Option Kn} {U : List Gid} {rs : List Gid} {most : Int} {m : List Git} (h : closR G U rs most = .ok m) : sortG (m.map (·.id)) = putAllS [] (m.map (·.id)) :=
 sorted_put (fun x => sortG_mem) (sortG_rise (closR_one h))
theorem holeK_le (R : List Kn) (gone : Gid) : (holeK R gone).length ≤ R.length := List.length_filter_le _ _
theorem without_mem {R : List Kn} {gone d : Gid} {o : Kn} (h : withoutK R gone d = some o) : o ∈ R := by
 unfold withoutK at h
 split at h
 · cases h
 · exact getK_mem h
end Go.Proofs.YtihanglnjghcfaaGreatDoor
namespace Go.Proofs
open Go.Shelf
def Tryz.laysSlH10_f44_ren : Go.Shelf.Ren := ⟨fun | 10 => 44 | 6 => 63 | n => n, fun | 22 => 32 | 23 => 9 | 25 => 109 | 3 => 3 | 4 => 4 | 0 => 0 | n => n, fun | n => n⟩
theorem Tryz.laysSlH10_f44 : Go.Proofs.SlLaysH.n10 Tryz.prog Tryz.laysSlH10_f44_ren := {
 mixed := by kernel_rfl
 f6 := ⟨Tryz.f63.name, by decide, Tryz.func63.trans (congrArg some (by kernel_rfl))⟩
 f10 := ⟨Tryz.f44.name, by decide, Tryz.func44.trans (congrArg some (by kernel_rfl))⟩
 t0 := Tryz.underlying0
 a0 := Tryz.isAgg0
 z0 := Tryz.sizeOf0
 v0 := Tryz.zeroValue0
 t3 := Tryz.underlying3
 a3 := Tryz.isAgg3
 z3 := Tryz.sizeOf3
 v3 := Tryz.zeroValue3
 t4 := Tryz.underlying4
 a4 := Tryz.isAgg4
 z4 := Tryz.sizeOf4
 v4 := Tryz.zeroValue4
 t22 := Tryz.underlying32
 a22 := Tryz.isAgg32
 z22 := Tryz.sizeOf32
 v22 := Tryz.zeroValue32
 a23 := Tryz.isAgg9
 z23 := Tryz.sizeOf9
 t25 := Tryz.underlying109
 a25 := Tryz.isAgg109
 z25 := Tryz.sizeOf109
 v25 := Tryz.zeroValue109 }
open Go.RowKit Go.Lib Go.Sort in
theorem Tryz.slices_DeleteFunc {α : Type} [Inhabited α] (enc : α → Value) (hO : OneCell enc) (p : α → Bool) (g : Nat) (lb : Array Value) (eg : ∀ args w, (callFunc g args).run Tryz.prog w = .ok (.enter g args) w) (zr : α) (v23 : ∀ w, (zeroValue 9).run Tryz.prog w = .ok (enc zr) w) (blk off cap : Nat) (d : Array α) (w : World) (hp : PredAt Tryz.prog g lb enc p w) (hpo : PredOver Tryz.prog g lb enc p blk off d.size w) (hH : Holds enc w blk off d) (hsz : d.size ≤ 9223372036854775807) (hcap : d.size ≤ cap) :
 Calls Tryz.prog 44 #[.slice (some ⟨blk, off, none⟩) d.size cap, .func (.func g) #[] lb] w fun e w' => e = .returned (.slice (some ⟨blk, off, none⟩) (d.toList.filter fun x => !p x).length cap) ∧ ∃ q, w' = putRow enc (Sort.ahead w q) blk off ((d.toList.filter fun x => !p x) ++ List.replicate (d.size - (d.toList.filter fun x => !p x).length) zr).toArray := AnyE.slices_DeleteFunc Tryz.laysSlH10_f44 enc hO p g lb eg zr v23 blk off cap d w hp hpo hH hsz hcap
def Tryz.laysBs_ren : Go.Shelf.Ren := ⟨fun | 26 => 46 | 33 => 64 | 34 => 65 | 38 => 87 | n => n, fun | 24 => 32 | 40 => 77 | n => n, fun | n => n⟩
theorem Tryz.laysBs : Go.Proofs.Lays2.n26 Tryz.prog Tryz.laysBs_ren := {
 mixed := by kernel_rfl
 f26 := Tryz.func46.trans (congrArg some (by kernel_rfl))
 f33 := Tryz.func64.trans (congrArg some (by kernel_rfl))
 f34 := Tryz.func65.trans (congrArg some (by kernel_rfl))
 f38 := Tryz.func87.trans (congrArg some (by kernel_rfl))
 t0 := Tryz.underlying0
 a0 := Tryz.isAgg0
 z0 := Tryz.sizeOf0
 v0 := Tryz.zeroValue0
 t3 := Tryz.underlying3
 a3 := Tryz.isAgg3
 z3 := Tryz.sizeOf3
 v3 := Tryz.zeroValue3
 t4 := Tryz.underlying4
 a4 := Tryz.isAgg4
 z4 := Tryz.sizeOf4
 v4 := Tryz.zeroValue4
 t9 := Tryz.underlying9
 a9 := Tryz.isAgg9
 z9 := Tryz.sizeOf9
 v9 := Tryz.zeroValue9
 t24 := Tryz.underlying32
 a24 := Tryz.isAgg32
 z24 := Tryz.sizeOf32
 v24 := Tryz.zeroValue32
 t40 := Tryz.underlying77
 a40 := Tryz.isAgg77
 z40 := Tryz.sizeOf77
 v40 := Tryz.zeroValue77 }
end Go.Proofs
