/- Inflate: a dynamic block's lengths, by the program. -/
import Derived.Test.YtoeipgbnjcgbjaaInfG
namespace Go.Proofs.Ytoeipgbnjcgbjaa
open Go.RowKit
set_option linter.unusedVariables false

/-- A row of integers of the call's own. -/
def RowV (B : Nat) (w : World) (v : Value) (l : List Int) : Prop := OwnS w B 3 1 v l.length (l.map (Value.int .i64))
def lenV : Value → Nat
  | .slice _ n _ => n
  | _ => 0
theorem RowV.len {B : Nat} {w : World} {v : Value} {l : List Int} (h : RowV B w v l) : lenV v = l.length := by
  obtain ⟨A, c, e⟩ := OwnS.shape h
  rw [e]; rfl
/-- What reading the lengths leaves. -/
def LensPost (L R G : Nat) (bs : List Int) (most : Nat) (vo : Value) (out : List Int) (n : Nat) (r : Int × Nat × List Int) (w : World) (e : Ending) (w' : World) : Prop :=
  (r.1 ≠ 0 → e = .returned (.tuple #[.slice none 0 0, .int .i64 r.1]) ∧ Below L w w') ∧
  (r.1 = 0 → ∃ v, e = .returned (.tuple #[v, .int .i64 0]) ∧ RowV w.heap.size w' v r.2.2 ∧ r.2.2.length = n ∧ InfAt L R G bs most w' r.2.1 vo out ∧ Chg (fun k => k = G) w w')
theorem lens_no {L R G : Nat} {bs : List Int} {most : Nat} {vo : Value} {out : List Int} {n : Nat} {r : Int × Nat × List Int} {w w' : World} {x : Int} {y : Nat × List Int} (h : r = (x, y)) (hx : x ≠ 0) (hb : Below L w w') : LensPost L R G bs most vo out n r w (.returned (.tuple #[.slice none 0 0, .int .i64 x])) w' := by
  subst h
  exact ⟨fun _ => ⟨rfl, hb⟩, fun e => absurd e hx⟩
theorem lens_ok {L R G : Nat} {bs : List Int} {most : Nat} {vo : Value} {out : List Int} {n p : Nat} {l : List Int} {r : Int × Nat × List Int} {w w' : World} {v : Value} (h : r = (0, p, l)) (hv : RowV w.heap.size w' v l) (hl : l.length = n) (hI : InfAt L R G bs most w' p vo out) (hC : Chg (fun k => k = G) w w') : LensPost L R G bs most vo out n r w (.returned (.tuple #[v, .int .i64 0])) w' := by
  subst h
  exact ⟨fun e => absurd rfl e, fun _ => ⟨v, rfl, hv, hl, hI, hC⟩⟩
/-- The outer loop: between its rounds. -/
def LenRel (L R G : Nat) (bs : List Int) (most : Nat) (vo : Value) (out : List Int) (own : List Int) (n : Nat) (RR : Int × Nat × List Int) (w : World) (v : Value) (w' : World) : Prop :=
  ∃ f p1 o1, RR = lensM bs own n f p1 o1 ∧ n < f + o1.length ∧ o1.length ≤ n ∧ RowV w.heap.size w' v o1 ∧ InfAt L R G bs most w' p1 vo out ∧ Chg (fun k => k = G) w w'
/-- The row, the reader and the rest in one. -/
structure LenAt (L R G : Nat) (bs : List Int) (most : Nat) (vo : Value) (out : List Int) (w : World) (v : Value) (l : List Int) (p : Nat) (w' : World) : Prop where
  row : RowV w.heap.size w' v l
  inf : InfAt L R G bs most w' p vo out
  chg : Chg (fun k => k = G) w w'
section
variable {L R G most p q : Nat} {bs out l : List Int} {w w' w1 : World} {vo v : Value}
theorem LenAt.went (h : LenAt L R G bs most vo out w v l p w') (hI : InfAt L R G bs most w1 q vo out) (hc : Chg (fun k => k = G) w' w1) (hG : G < w.heap.size) : LenAt L R G bs most vo out w v l q w1 :=
  ⟨OwnS.chg h.row hc (fun k hk e => by have := (OwnS.lt h.row k hk).1; omega), hI, h.chg.trans hc (fun _ _ h => h)⟩
/-- A row that has grown. -/
theorem LenAt.grown (h : LenAt L R G bs most vo out w v l p w') (h0 : InfAt L R G bs most w q vo out) (o : Obj) {w9 : World} {row : Option Nat} {v9 : Value} {l9 : List Int} (hg : (w'.alloc o).grownBy w9 row) (hr : row = none ∨ row = v.ownBlock) (ho : RowV w.heap.size w9 v9 l9) : LenAt L R G bs most vo out w v9 l9 p w9 := by
  have hc : Chg (fun k => w.heap.size ≤ k) w' w9 := ((Chg.refl _ w').alloc o).trans (Chg.of_grown (S := fun k => w.heap.size ≤ k) hg (fun k hk => by
    rcases hr with hr | hr
    · rw [hr] at hk; cases hk
    · rw [hr] at hk; exact (OwnS.lt h.row k hk).1)) (fun _ _ h => h)
  have hL : L ≤ w.heap.size := by have := h0.low; have := h0.cel.blk; omega
  exact ⟨ho, h.inf.far hc (fun k hk hs => by have := (h0.lt k hk).2; omega) (fun k hk hs => by omega), h.chg.trans hc (fun i hi hs => absurd hs (by omega))⟩
end
set_option maxRecDepth 100000 in
set_option maxHeartbeats 8000000 in
theorem iLens_any (L R G most p H g n : Nat) (bs out own : List Int) (w : World) (vo : Value) (h : InfAt L R G bs most w p vo out) (hx : CodeX H g w own) (ha : ApartI R G vo H g) (ho : own.length = 19) (hn : n ≤ 1000) :
    Calls Try.prog 110 #[.pointer (some ⟨R, 0, none⟩), .pointer (some ⟨g, 0, none⟩), .int .i64 n] w (LensPost L R G bs most vo out n (lensM bs own n (n + 1) p []) w) := by
  have HR0 : Hid (LenRel L R G bs most vo out own n (lensM bs own n (n + 1) p []) w (.slice none 0 0) w) := Lib.hid ⟨n + 1, p, [], rfl, by simp, Nat.zero_le _, OwnS.nil _ _ _ _, h, Chg.refl _ _⟩
  have HH := Lib.hid h
  have HX := Lib.hid hx
  have HA := Lib.hid ha
  have hlow := h.low
  have hRs := (h.lt R (.inl rfl)).2
  have hGs := (h.lt G (.inr (.inl rfl))).2
  generalize lensM bs own n (n + 1) p [] = RR at *
  obtain ⟨i0, hi, hz0, hz1, hz2⟩ := info_parts Try.info_int
  clear h hx ha
  go_enter Try.func110, Try.ntmps110
  go_wp2
  go_loopw [8] (fun v wr => LenRel L R G bs most vo out own n RR w v wr) (fun v _ => n - lenV v)
  case atStart => exact HR0.out
  case round =>
    clear HR0
    obtain ⟨f, p1, o1, hrr, hf, hl1, hrow, hI1, hC1⟩ := hrel
    have HL1 := Lib.hid hrow.len
    obtain ⟨A, c, rfl⟩ := OwnS.shape hrow
    have HP := Lib.hid (LenAt.mk hrow hI1 hC1)
    have c0 := hI1.c0
    have hcap := OwnS.cap hrow
    by_cases hlt : o1.length < n
    · have d0 : decide ((o1.length : Int) < (n : Int)) = true := decide_eq_true (by omega)
      obtain ⟨f', rfl⟩ : ∃ f', f = f' + 1 := ⟨f - 1, by omega⟩
      have HM : Hid (RR = _) := Lib.hid (hrr.trans (by rw [lensM, if_neg (by omega)]))
      have HX1 := Lib.hid (HX.out.chg (chgG (R := R) (vo := vo) hC1) HA.out)
      have HS1 := Lib.hid (iSym L R G most p1 H g bs out own wr vo hI1 HX1.out HA.out)
      have HQ1 := Lib.hid (rd_sym own bs 15 0 p1)
      clear hI1 hC1 hrr hrow
      go_wp2_with fail
      refine HS1.out.mono ?_
      rintro e w2 ⟨rfl, hI2, hC2⟩
      have HP2 := Lib.hid (HP.out.went hI2 hC2 hGs)
      have hq := HQ1.out
      clear hI2 hC2 HS1 HQ1 c0 HX1 HP
      generalize rd own bs 15 0 p1 = RES at *
      obtain ⟨s, er, p2⟩ := RES
      simp only at HM hq HP2
      simp only
      rw [ho] at hq
      by_cases her : er = 0
      · subst her
        have h30 : ¬ ((0 : Int) ≠ 0) := by decide
        have hs19 := hq.2.2.1 rfl
        have hmx1 : o1.length + 1 ≤ maxLen := by unfold maxLen; omega
        have hmx2 : (o1.length + 1) * 8 ≤ 140737488355328 := by omega
        by_cases hs1 : s < 16
        · have d1 : decide (s < 16) = true := decide_eq_true hs1
          have HM2 : Hid (RR = lensM bs own n f' p2 (o1 ++ [s])) := Lib.hid (HM.out.trans (by simp only [h30, if_false, if_pos hs1]))
          have hown2 := HP2.out.row
          have hown3 := Lib.hid (OwnS.alloc hown2 (.cells #[.int .i64 s] 3))
          have hLs : w.heap.size ≤ (w2.alloc (.cells #[.int .i64 s] 3)).heap.size := by have := HP2.out.chg.size; simp; omega
          clear HM hown2
          go_wp2_with (at_builtin; go_loud (refine wpList_append_S rfl (.tmp 33) (.tmp 35) 121 121 rfl i0 (.int .i64 0) 8 (.slice 3) Try.underlying121 Try.underlying121 (fun _ h => by cases h) hi hz0 hz1 hz2 rfl rfl rfl hown3.out (Src.one_new (u := .int .i64 s) rfl) hmx1 hmx2 hLs ?_; intro A9 c9 w9 ho9 hg9 hw9))
          all_goals
            have ho9' : RowV w.heap.size w9 (.slice A9 (o1.length + 1) c9) (o1 ++ [s]) := by unfold RowV; rw [List.length_append, List.map_append]; exact ho9
            have HP9 := Lib.hid (HP2.out.grown HH.out _ hg9 (.inr rfl) ho9')
            clear ho9 hg9 hw9 ho9' hown3
            go_wp2
            go_roundw
            case rel => exact ⟨f', p2, _, HM2.out, by rw [List.length_append, List.length_singleton]; omega, by rw [List.length_append, List.length_singleton]; omega, HP9.out.row, HP9.out.inf, HP9.out.chg⟩
            case measure => simp [lenV]; omega
        · have d1 : decide (s < 16) = false := decide_eq_false hs1
          have hs3 : s = 16 ∨ s = 17 ∨ s = 18 := by omega
          have HM2 : Hid (RR = match tk bs p2 (repW s) with
            | none => (4, p1, o1)
            | some m => if (s = 16 ∧ o1.length = 0) ∨ n < o1.length + repL s + m.toNat then (3, p1, o1) else lensM bs own n f' (p2 + repW s) (o1 ++ List.replicate (repL s + m.toNat) (repV s o1))) := Lib.hid (HM.out.trans (by simp only [h30, if_false, if_neg hs1]; try rfl))
          clear HM hs1
          rcases hs3 with rfl | rfl | rfl
          · have HM3 : Hid (RR = match tk bs p2 2 with
              | none => (4, p1, o1)
              | some m => if ((16 : Int) = 16 ∧ o1.length = 0) ∨ n < o1.length + 3 + m.toNat then (3, p1, o1) else lensM bs own n f' (p2 + 2) (o1 ++ List.replicate (3 + m.toNat) (repV 16 o1))) := HM2
            clear HM2
            cases ht : tk bs p2 2 with
            | none =>
              have HT := Lib.hid (iTake_no L R G most p2 2 bs out w2 vo HP2.out.inf (by decide) ht)
              have HM4 : Hid (RR = (4, p1, o1)) := Lib.hid (HM3.out.trans (by rw [ht]))
              clear HM3 ht
              go_wp2_with fail
              refine HT.out.mono ?_
              rintro e w3 ⟨rfl, m, rfl⟩
              clear HT
              go_wp2
              go_ret2
              exact lens_no HM4.out (by decide) (Below.drewN (HH.out.belowL (chgG HP2.out.chg)) m)
            | some m0 =>
              have hm0 := tk_le ht
              obtain ⟨m, rfl⟩ := Int.eq_ofNat_of_zero_le hm0.1
              have hm8 : m < 128 := by have := hm0.2.1; omega
              have HT := Lib.hid (iTake_yes L R G most p2 2 bs out w2 vo m HP2.out.inf (by decide) ht)
              have HM4 : Hid (RR = if ((16 : Int) = 16 ∧ o1.length = 0) ∨ n < o1.length + (3 + m) then (3, p1, o1) else lensM bs own n f' (p2 + 2) (o1 ++ List.replicate (3 + m) (repV 16 o1))) := Lib.hid (HM3.out.trans (by rw [ht]; simp only [Int.toNat_natCast, Nat.add_assoc]))
              clear HM3 ht hm0
              obtain ⟨cnt, hcnt⟩ : ∃ cnt, 3 + m = cnt := ⟨_, rfl⟩
              rw [hcnt] at HM4
              have e1 : IntKind.i64.wrap ((3 : Int) + (m : Int)) = (cnt : Int) := by rw [IntWalk.i64_in _ (by omega)]; omega
              have e2 : IntKind.i64.wrap ((n : Int) - (o1.length : Int)) = (n : Int) - (o1.length : Int) := IntWalk.i64_in _ (by omega)
              have hc2 : 3 ≤ cnt ∧ cnt < 200 := by omega
              clear hcnt
              go_wp2_with fail
              refine HT.out.mono ?_
              rintro e w3 ⟨rfl, hI3, hC3⟩
              have HP3 := Lib.hid (HP2.out.went hI3 hC3 hGs)
              clear hI3 hC3 HT HP2
              by_cases hz : o1.length = 0
              · have d2 : ((o1.length : Int) == 0) = true := by simpa using hz
                have HM5 : Hid (RR = (3, p1, o1)) := Lib.hid (HM4.out.trans (if_pos (.inl (by simp [hz]))))
                clear HM4
                go_wp2
                go_ret2
                exact lens_no HM5.out (by decide) (HH.out.belowL (chgG HP3.out.chg))
              · have d2 : ((o1.length : Int) == 0) = false := by simpa using hz
                by_cases hbig : n < o1.length + cnt
                · have d3 : decide ((n : Int) - (o1.length : Int) < (cnt : Int)) = true := decide_eq_true (by omega)
                  have HM5 : Hid (RR = (3, p1, o1)) := Lib.hid (HM4.out.trans (if_pos (.inr hbig)))
                  clear HM4
                  go_wp2
                  go_ret2
                  exact lens_no HM5.out (by decide) (HH.out.belowL (chgG HP3.out.chg))
                · have d3 : decide ((n : Int) - (o1.length : Int) < (cnt : Int)) = false := decide_eq_false (by omega)
                  have HM5 : Hid (RR = lensM bs own n f' (p2 + 2) (o1 ++ List.replicate cnt (repV 16 o1))) := Lib.hid (HM4.out.trans (if_neg (by omega)))
                  clear HM4
                  have hrow5 := HP3.out.row
                  obtain ⟨b5, o5, rfl, hb5, hcell5⟩ := OwnS.ints hrow5 (by omega)
                  have kx := hcell5 (o1.length - 1) (by omega)
                  obtain ⟨dd, hdd⟩ : ∃ dd, o1.length - 1 = dd := ⟨_, rfl⟩
                  have hV : repV 16 o1 = o1.getD dd 0 := by rw [← hdd]; rfl
                  rw [hdd] at kx
                  have e5 : IntKind.i64.wrap ((o1.length : Int) - 1) = (dd : Int) := by rw [IntWalk.i64_in _ (by omega)]; omega
                  have e6 : (o1.length : Int) - 1 = (dd : Int) := by omega
                  have s3 : dd < o1.length := by omega
                  rw [← hV] at kx
                  clear hcell5 hrow5 hV hdd
                  generalize repV 16 o1 = x at *
                  go_wp2
                  clear e1 e2 d3
                  go_loopw [8, 79] (fun v i wr => ∃ j : Nat, i = .int .i64 j ∧ j ≤ cnt ∧ LenAt L R G bs most vo out w v (o1 ++ List.replicate j (x)) (p2 + 2) wr) (fun _ i _ => cnt - (intOf i).toNat)
                  case atStart => exact ⟨0, rfl, Nat.zero_le _, by rw [List.replicate_zero, List.append_nil]; exact HP3.out⟩
                  case round =>
                    clear HP3
                    obtain ⟨j, rfl, hj, hP4⟩ := hrel
                    have HLN := Lib.hid (show (o1 ++ List.replicate j (x)).length = o1.length + j by simp)
                    have HP4 := Lib.hid hP4
                    by_cases hjl : j < cnt
                    · have d4 : decide ((j : Int) < (cnt : Int)) = true := decide_eq_true (by omega)
                      have HSN := Lib.hid (show (o1 ++ List.replicate j (x)) ++ [x] = o1 ++ List.replicate (j + 1) (x) by rw [List.append_assoc, ← List.replicate_succ'])
                      generalize o1 ++ List.replicate j (x) = o2 at *
                      have hrow4 := hP4.row
                      obtain ⟨A4, c4, rfl⟩ := OwnS.shape hrow4
                      have hmx3 : o2.length + 1 ≤ maxLen := by have := HLN.out; unfold maxLen; omega
                      have hmx4 : (o2.length + 1) * 8 ≤ 140737488355328 := by have := HLN.out; omega
                      have hown5 := Lib.hid (OwnS.alloc hrow4 (.cells #[.int .i64 x] 3))
                      have hLs : w.heap.size ≤ (wr.alloc (.cells #[.int .i64 x] 3)).heap.size := by have := hP4.chg.size; simp; omega
                      clear hrow4 hP4
                      go_wp2_with (at_builtin; go_loud (refine wpList_append_S rfl (.tmp 81) (.tmp 83) 121 121 rfl i0 (.int .i64 0) 8 (.slice 3) Try.underlying121 Try.underlying121 (fun _ h => by cases h) hi hz0 hz1 hz2 rfl rfl rfl hown5.out (Src.one_new (u := .int .i64 x) rfl) hmx3 hmx4 hLs ?_; intro A9 c9 w9 ho9 hg9 hw9))
                      all_goals
                        have ho9' : RowV w.heap.size w9 (.slice A9 (o2.length + 1) c9) (o2 ++ [x]) := by unfold RowV; rw [List.length_append, List.map_append]; exact ho9
                        have HP9 := Lib.hid (HP4.out.grown HH.out _ hg9 (.inr rfl) ho9')
                        rw [HSN.out] at HP9
                        clear ho9 hg9 hw9 ho9' hown5
                        go_wp2
                        go_roundw
                        case rel => exact ⟨j + 1, by go_num, by omega, HP9.out⟩
                        case measure => simp [intOf]; omega
                    · have d4 : decide ((j : Int) < (cnt : Int)) = false := decide_eq_false (by omega)
                      obtain rfl : j = cnt := by omega
                      have HLV := Lib.hid hP4.row.len
                      have h3 : 3 ≤ j := by omega
                      clear hP4
                      go_wp2
                      go_roundw
                      case rel => exact ⟨f', p2 + 2, _, HM5.out, by rw [HLN.out]; omega, by rw [HLN.out]; omega, HP4.out.row, HP4.out.inf, HP4.out.chg⟩
                      case measure => rw [HLV.out, HLN.out]; simp [lenV]; omega
          · have HM3 : Hid (RR = match tk bs p2 3 with
              | none => (4, p1, o1)
              | some m => if ((17 : Int) = 16 ∧ o1.length = 0) ∨ n < o1.length + 3 + m.toNat then (3, p1, o1) else lensM bs own n f' (p2 + 3) (o1 ++ List.replicate (3 + m.toNat) (repV 17 o1))) := HM2
            clear HM2
            cases ht : tk bs p2 3 with
            | none =>
              have HT := Lib.hid (iTake_no L R G most p2 3 bs out w2 vo HP2.out.inf (by decide) ht)
              have HM4 : Hid (RR = (4, p1, o1)) := Lib.hid (HM3.out.trans (by rw [ht]))
              clear HM3 ht
              go_wp2_with fail
              refine HT.out.mono ?_
              rintro e w3 ⟨rfl, m, rfl⟩
              clear HT
              go_wp2
              go_ret2
              exact lens_no HM4.out (by decide) (Below.drewN (HH.out.belowL (chgG HP2.out.chg)) m)
            | some m0 =>
              have hm0 := tk_le ht
              obtain ⟨m, rfl⟩ := Int.eq_ofNat_of_zero_le hm0.1
              have hm8 : m < 128 := by have := hm0.2.1; omega
              have HT := Lib.hid (iTake_yes L R G most p2 3 bs out w2 vo m HP2.out.inf (by decide) ht)
              have HM4 : Hid (RR = if ((17 : Int) = 16 ∧ o1.length = 0) ∨ n < o1.length + (3 + m) then (3, p1, o1) else lensM bs own n f' (p2 + 3) (o1 ++ List.replicate (3 + m) (repV 17 o1))) := Lib.hid (HM3.out.trans (by rw [ht]; simp only [Int.toNat_natCast, Nat.add_assoc]))
              clear HM3 ht hm0
              obtain ⟨cnt, hcnt⟩ : ∃ cnt, 3 + m = cnt := ⟨_, rfl⟩
              rw [hcnt] at HM4
              have e1 : IntKind.i64.wrap ((3 : Int) + (m : Int)) = (cnt : Int) := by rw [IntWalk.i64_in _ (by omega)]; omega
              have e2 : IntKind.i64.wrap ((n : Int) - (o1.length : Int)) = (n : Int) - (o1.length : Int) := IntWalk.i64_in _ (by omega)
              have hc2 : 3 ≤ cnt ∧ cnt < 200 := by omega
              clear hcnt
              go_wp2_with fail
              refine HT.out.mono ?_
              rintro e w3 ⟨rfl, hI3, hC3⟩
              have HP3 := Lib.hid (HP2.out.went hI3 hC3 hGs)
              clear hI3 hC3 HT HP2
              by_cases hbig : n < o1.length + cnt
              · have d3 : decide ((n : Int) - (o1.length : Int) < (cnt : Int)) = true := decide_eq_true (by omega)
                have HM5 : Hid (RR = (3, p1, o1)) := Lib.hid (HM4.out.trans (if_pos (.inr hbig)))
                clear HM4
                go_wp2
                go_ret2
                exact lens_no HM5.out (by decide) (HH.out.belowL (chgG HP3.out.chg))
              · have d3 : decide ((n : Int) - (o1.length : Int) < (cnt : Int)) = false := decide_eq_false (by omega)
                have HM5 : Hid (RR = lensM bs own n f' (p2 + 3) (o1 ++ List.replicate cnt (repV 17 o1))) := Lib.hid (HM4.out.trans (if_neg (by omega)))
                clear HM4
                have hV : repV 17 o1 = 0 := rfl
                rw [hV] at HM5
                go_wp2
                clear e1 e2 d3
                go_loopw [8, 79] (fun v i wr => ∃ j : Nat, i = .int .i64 j ∧ j ≤ cnt ∧ LenAt L R G bs most vo out w v (o1 ++ List.replicate j 0) (p2 + 3) wr) (fun _ i _ => cnt - (intOf i).toNat)
                case atStart => exact ⟨0, rfl, Nat.zero_le _, by rw [List.replicate_zero, List.append_nil]; exact HP3.out⟩
                case round =>
                  clear HP3
                  obtain ⟨j, rfl, hj, hP4⟩ := hrel
                  have HLN := Lib.hid (show (o1 ++ List.replicate j 0).length = o1.length + j by simp)
                  have HP4 := Lib.hid hP4
                  by_cases hjl : j < cnt
                  · have d4 : decide ((j : Int) < (cnt : Int)) = true := decide_eq_true (by omega)
                    have HSN := Lib.hid (show (o1 ++ List.replicate j 0) ++ [0] = o1 ++ List.replicate (j + 1) 0 by rw [List.append_assoc, ← List.replicate_succ'])
                    generalize o1 ++ List.replicate j 0 = o2 at *
                    have hrow4 := hP4.row
                    obtain ⟨A4, c4, rfl⟩ := OwnS.shape hrow4
                    have hmx3 : o2.length + 1 ≤ maxLen := by have := HLN.out; unfold maxLen; omega
                    have hmx4 : (o2.length + 1) * 8 ≤ 140737488355328 := by have := HLN.out; omega
                    have hown5 := Lib.hid (OwnS.alloc hrow4 (.cells #[.int .i64 0] 3))
                    have hLs : w.heap.size ≤ (wr.alloc (.cells #[.int .i64 0] 3)).heap.size := by have := hP4.chg.size; simp; omega
                    clear hrow4 hP4
                    go_wp2_with (at_builtin; go_loud (refine wpList_append_S rfl (.tmp 81) (.tmp 83) 121 121 rfl i0 (.int .i64 0) 8 (.slice 3) Try.underlying121 Try.underlying121 (fun _ h => by cases h) hi hz0 hz1 hz2 rfl rfl rfl hown5.out (Src.one_new (u := .int .i64 0) rfl) hmx3 hmx4 hLs ?_; intro A9 c9 w9 ho9 hg9 hw9))
                    all_goals
                      have ho9' : RowV w.heap.size w9 (.slice A9 (o2.length + 1) c9) (o2 ++ [0]) := by unfold RowV; rw [List.length_append, List.map_append]; exact ho9
                      have HP9 := Lib.hid (HP4.out.grown HH.out _ hg9 (.inr rfl) ho9')
                      rw [HSN.out] at HP9
                      clear ho9 hg9 hw9 ho9' hown5
                      go_wp2
                      go_roundw
                      case rel => exact ⟨j + 1, by go_num, by omega, HP9.out⟩
                      case measure => simp [intOf]; omega
                  · have d4 : decide ((j : Int) < (cnt : Int)) = false := decide_eq_false (by omega)
                    obtain rfl : j = cnt := by omega
                    have HLV := Lib.hid hP4.row.len
                    have h3 : 3 ≤ j := by omega
                    clear hP4
                    go_wp2
                    go_roundw
                    case rel => exact ⟨f', p2 + 3, _, HM5.out, by rw [HLN.out]; omega, by rw [HLN.out]; omega, HP4.out.row, HP4.out.inf, HP4.out.chg⟩
                    case measure => rw [HLV.out, HLN.out]; simp [lenV]; omega
          · have HM3 : Hid (RR = match tk bs p2 7 with
              | none => (4, p1, o1)
              | some m => if ((18 : Int) = 16 ∧ o1.length = 0) ∨ n < o1.length + 11 + m.toNat then (3, p1, o1) else lensM bs own n f' (p2 + 7) (o1 ++ List.replicate (11 + m.toNat) (repV 18 o1))) := HM2
            clear HM2
            cases ht : tk bs p2 7 with
            | none =>
              have HT := Lib.hid (iTake_no L R G most p2 7 bs out w2 vo HP2.out.inf (by decide) ht)
              have HM4 : Hid (RR = (4, p1, o1)) := Lib.hid (HM3.out.trans (by rw [ht]))
              clear HM3 ht
              go_wp2_with fail
              refine HT.out.mono ?_
              rintro e w3 ⟨rfl, m, rfl⟩
              clear HT
              go_wp2
              go_ret2
              exact lens_no HM4.out (by decide) (Below.drewN (HH.out.belowL (chgG HP2.out.chg)) m)
            | some m0 =>
              have hm0 := tk_le ht
              obtain ⟨m, rfl⟩ := Int.eq_ofNat_of_zero_le hm0.1
              have hm8 : m < 128 := by have := hm0.2.1; omega
              have HT := Lib.hid (iTake_yes L R G most p2 7 bs out w2 vo m HP2.out.inf (by decide) ht)
              have HM4 : Hid (RR = if ((18 : Int) = 16 ∧ o1.length = 0) ∨ n < o1.length + (11 + m) then (3, p1, o1) else lensM bs own n f' (p2 + 7) (o1 ++ List.replicate (11 + m) (repV 18 o1))) := Lib.hid (HM3.out.trans (by rw [ht]; simp only [Int.toNat_natCast, Nat.add_assoc]))
              clear HM3 ht hm0
              obtain ⟨cnt, hcnt⟩ : ∃ cnt, 11 + m = cnt := ⟨_, rfl⟩
              rw [hcnt] at HM4
              have e1 : IntKind.i64.wrap ((11 : Int) + (m : Int)) = (cnt : Int) := by rw [IntWalk.i64_in _ (by omega)]; omega
              have e2 : IntKind.i64.wrap ((n : Int) - (o1.length : Int)) = (n : Int) - (o1.length : Int) := IntWalk.i64_in _ (by omega)
              have hc2 : 3 ≤ cnt ∧ cnt < 200 := by omega
              clear hcnt
              go_wp2_with fail
              refine HT.out.mono ?_
              rintro e w3 ⟨rfl, hI3, hC3⟩
              have HP3 := Lib.hid (HP2.out.went hI3 hC3 hGs)
              clear hI3 hC3 HT HP2
              by_cases hbig : n < o1.length + cnt
              · have d3 : decide ((n : Int) - (o1.length : Int) < (cnt : Int)) = true := decide_eq_true (by omega)
                have HM5 : Hid (RR = (3, p1, o1)) := Lib.hid (HM4.out.trans (if_pos (.inr hbig)))
                clear HM4
                go_wp2
                go_ret2
                exact lens_no HM5.out (by decide) (HH.out.belowL (chgG HP3.out.chg))
              · have d3 : decide ((n : Int) - (o1.length : Int) < (cnt : Int)) = false := decide_eq_false (by omega)
                have HM5 : Hid (RR = lensM bs own n f' (p2 + 7) (o1 ++ List.replicate cnt (repV 18 o1))) := Lib.hid (HM4.out.trans (if_neg (by omega)))
                clear HM4
                have hV : repV 18 o1 = 0 := rfl
                rw [hV] at HM5
                go_wp2
                clear e1 e2 d3
                go_loopw [8, 79] (fun v i wr => ∃ j : Nat, i = .int .i64 j ∧ j ≤ cnt ∧ LenAt L R G bs most vo out w v (o1 ++ List.replicate j 0) (p2 + 7) wr) (fun _ i _ => cnt - (intOf i).toNat)
                case atStart => exact ⟨0, rfl, Nat.zero_le _, by rw [List.replicate_zero, List.append_nil]; exact HP3.out⟩
                case round =>
                  clear HP3
                  obtain ⟨j, rfl, hj, hP4⟩ := hrel
                  have HLN := Lib.hid (show (o1 ++ List.replicate j 0).length = o1.length + j by simp)
                  have HP4 := Lib.hid hP4
                  by_cases hjl : j < cnt
                  · have d4 : decide ((j : Int) < (cnt : Int)) = true := decide_eq_true (by omega)
                    have HSN := Lib.hid (show (o1 ++ List.replicate j 0) ++ [0] = o1 ++ List.replicate (j + 1) 0 by rw [List.append_assoc, ← List.replicate_succ'])
                    generalize o1 ++ List.replicate j 0 = o2 at *
                    have hrow4 := hP4.row
                    obtain ⟨A4, c4, rfl⟩ := OwnS.shape hrow4
                    have hmx3 : o2.length + 1 ≤ maxLen := by have := HLN.out; unfold maxLen; omega
                    have hmx4 : (o2.length + 1) * 8 ≤ 140737488355328 := by have := HLN.out; omega
                    have hown5 := Lib.hid (OwnS.alloc hrow4 (.cells #[.int .i64 0] 3))
                    have hLs : w.heap.size ≤ (wr.alloc (.cells #[.int .i64 0] 3)).heap.size := by have := hP4.chg.size; simp; omega
                    clear hrow4 hP4
                    go_wp2_with (at_builtin; go_loud (refine wpList_append_S rfl (.tmp 81) (.tmp 83) 121 121 rfl i0 (.int .i64 0) 8 (.slice 3) Try.underlying121 Try.underlying121 (fun _ h => by cases h) hi hz0 hz1 hz2 rfl rfl rfl hown5.out (Src.one_new (u := .int .i64 0) rfl) hmx3 hmx4 hLs ?_; intro A9 c9 w9 ho9 hg9 hw9))
                    all_goals
                      have ho9' : RowV w.heap.size w9 (.slice A9 (o2.length + 1) c9) (o2 ++ [0]) := by unfold RowV; rw [List.length_append, List.map_append]; exact ho9
                      have HP9 := Lib.hid (HP4.out.grown HH.out _ hg9 (.inr rfl) ho9')
                      rw [HSN.out] at HP9
                      clear ho9 hg9 hw9 ho9' hown5
                      go_wp2
                      go_roundw
                      case rel => exact ⟨j + 1, by go_num, by omega, HP9.out⟩
                      case measure => simp [intOf]; omega
                  · have d4 : decide ((j : Int) < (cnt : Int)) = false := decide_eq_false (by omega)
                    obtain rfl : j = cnt := by omega
                    have HLV := Lib.hid hP4.row.len
                    have h3 : 3 ≤ j := by omega
                    clear hP4
                    go_wp2
                    go_roundw
                    case rel => exact ⟨f', p2 + 7, _, HM5.out, by rw [HLN.out]; omega, by rw [HLN.out]; omega, HP4.out.row, HP4.out.inf, HP4.out.chg⟩
                    case measure => rw [HLV.out, HLN.out]; simp [lenV]; omega
      · have d1 : (er == 0) = false := by simpa using her
        have d2 : (er != 0) = true := by simpa using her
        have HM2 : Hid (RR = (er, p1, o1)) := Lib.hid (HM.out.trans (by simp only [ne_eq, her, not_false_eq_true, if_true]))
        clear HM
        go_wp2
        go_ret2
        exact lens_no HM2.out her (HH.out.belowL (chgG HP2.out.chg))
    · have d0 : decide ((o1.length : Int) < (n : Int)) = false := decide_eq_false (by omega)
      have HM : Hid (RR = (0, p1, o1)) := Lib.hid (hrr.trans (by cases f with
        | zero => rfl
        | succ f => rw [lensM, if_pos (by omega)]))
      clear hI1 hC1 hrr hrow
      go_wp2
      go_ret2
      exact lens_ok HM.out HP.out.row (by omega) HP.out.inf HP.out.chg
end Go.Proofs.Ytoeipgbnjcgbjaa
