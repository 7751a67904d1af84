/- Inflate: a row of blocks, by the program. -/
import Derived.Test.YtoeipgbnjcgbjaaInfJ
namespace Go.Proofs.Ytoeipgbnjcgbjaa
open Go.RowKit
set_option linter.unusedVariables false

/-- What Raw leaves. -/
def RawPost (bs : List Int) (most : Nat) (r : Int × Nat × List Int) (w : World) (e : Ending) (w' : World) : Prop :=
  Below w.heap.size w w' ∧ (r.1 ≠ 0 → e = .returned (.tuple #[.slice none 0 0, .int .i64 0, .int .i64 r.1])) ∧
    (r.1 = 0 → (∃ v, e = .returned (.tuple #[v, .int .i64 (r.2.1 : Nat), .int .i64 0]) ∧ OwnS w' w.heap.size 5 1 v r.2.2.length (r.2.2.map (Value.int .u8))) ∧ r.2.2.length ≤ most ∧ r.2.1 ≤ bs.length ∧ Bytes r.2.2)
theorem raw_no {bs : List Int} {most : Nat} {r : Int × Nat × List Int} {w w' : World} {x : Int} {y : Nat × List Int} (h : r = (x, y)) (hx : x ≠ 0) (hb : Below w.heap.size w w') : RawPost bs most r w (.returned (.tuple #[.slice none 0 0, .int .i64 0, .int .i64 x])) w' := by
  subst h
  exact ⟨hb, fun _ => rfl, fun e => absurd e hx⟩
/-- The place, by the bits' cell. -/
def placeAt (w : World) (G : Nat) : Nat := match w.cell? ⟨G, 1, none⟩ with
  | some (.int _ p) => p.toNat
  | _ => 0
theorem InfAt.placeAt {L R G most p : Nat} {bs out : List Int} {w : World} {vo : Value} (h : InfAt L R G bs most w p vo out) : placeAt w G = p := by
  unfold Go.Proofs.Ytoeipgbnjcgbjaa.placeAt
  rw [h.rd.c1]
  simp
theorem inf_no {IM RR : Int × Nat × List Int} (h : IM = if RR.1 ≠ 0 then (RR.1, 0, []) else (0, (RR.2.1 + 7) / 8, RR.2.2)) {x : Int} {y : Nat × List Int} (hr : RR = (x, y)) (hx : x ≠ 0) : IM = (x, 0, []) := by
  rw [h, hr, if_pos hx]
theorem inf_ok {IM RR : Int × Nat × List Int} (h : IM = if RR.1 ≠ 0 then (RR.1, 0, []) else (0, (RR.2.1 + 7) / 8, RR.2.2)) {p : Nat} {o : List Int} (hr : RR = (0, p, o)) : IM = (0, (p + 7) / 8, o) := by
  rw [h, hr, if_neg (by simp)]
theorem raw_ok {bs : List Int} {most : Nat} {r : Int × Nat × List Int} {w w' : World} {v : Value} {n : Nat} {o : List Int} (h : r = (0, n, o)) (hb : Below w.heap.size w w') (hv : OwnS w' w.heap.size 5 1 v o.length (o.map (Value.int .u8))) (h1 : o.length ≤ most) (h2 : n ≤ bs.length) (h3 : Bytes o) : RawPost bs most r w (.returned (.tuple #[v, .int .i64 n, .int .i64 0])) w' := by
  subst h
  exact ⟨hb, fun e => absurd rfl e, fun _ => ⟨⟨v, rfl, hv⟩, h1, h2, h3⟩⟩
/-- Between the blocks: more are to come, or the last one was read. -/
def BlocksRel (R G F : Nat) (bs : List Int) (most : Nat) (RR : Int × Nat × List Int) (w : World) (last : Value) (w' : World) : Prop :=
  ∃ p out vo, InfAt G R G bs most w' p vo out ∧ Below w.heap.size w w' ∧
    ((last = .int .i64 0 ∧ ∃ f, RR = rawM F bs most f p out ∧ 8 * bs.length < f + p) ∨ (last = .int .i64 1 ∧ RR = (0, p, out)))
set_option maxRecDepth 100000 in
set_option maxHeartbeats 8000000 in
theorem iRaw_any (A : Option Addr) (c F : Nat) (bs : List Int) (m : Int) (most : Nat) (w : World) (hI : Ints .u8 w A bs) (hb : Bytes bs) (hsz : bs.length ≤ 140737488351232) (hm : max m 0 = (most : Int)) (hmm : most ≤ 1000000) (hF1 : most < F) (hF2 : 8 * bs.length < F) :
    Calls Try.prog 43 #[.slice A bs.length c, .int .i64 m] w (RawPost bs most (infM F bs most) w) := by
  have HRD := Lib.hid (bitsRead_any A c bs w hI (by omega))
  have hmx : (if m < 0 then (0 : Int) else m) = (most : Int) := by split <;> omega
  clear hm
  go_enter Try.func43, Try.ntmps43
  go_wp2_with fail
  refine HRD.out.mono ?_
  rintro e w1 ⟨⟨G, rfl, hG, hr⟩, hB1⟩
  clear HRD
  go_wp2
  have hGl := hr.blk
  have hI0 : InfAt G w1.heap.size G bs most (w1.alloc (.cells #[.pointer (some ⟨G, 0, none⟩), .slice none 0 0, .int .i64 most] 107)) 0 (.slice none 0 0) [] := by
    refine ⟨?_, hr.below ((Below.refl _ _).alloc (Nat.le_refl _) _), OwnS.nil _ _ _ _, Nat.zero_le _, by omega, hmm, hb, (fun _ h => by cases h), hsz, Nat.zero_le _⟩
    exact Cel.new w1 _ #[.pointer (some ⟨G, 0, none⟩), .slice none 0 0, .int .i64 most] (infF G (.slice none 0 0) most) (fun i hi => by
      match i, hi with
      | 0, _ => rfl
      | 1, _ => rfl
      | 2, _ => rfl)
  have hB2 : Below w.heap.size w (w1.alloc (.cells #[.pointer (some ⟨G, 0, none⟩), .slice none 0 0, .int .i64 most] 107)) := hB1.alloc (by have := hB1.size; omega) _
  obtain ⟨RR, hRR⟩ : ∃ RR, rawM F bs most F 0 [] = RR := ⟨_, rfl⟩
  have HINF : Hid (infM F bs most = if RR.1 ≠ 0 then (RR.1, 0, []) else (0, (RR.2.1 + 7) / 8, RR.2.2)) := Lib.hid (by unfold infM; rw [hRR])
  have HR0 : Hid (BlocksRel w1.heap.size G F bs most RR w (.int .i64 0) (w1.alloc (.cells #[.pointer (some ⟨G, 0, none⟩), .slice none 0 0, .int .i64 most] 107))) := Lib.hid ⟨0, [], .slice none 0 0, hI0, hB2, .inl ⟨rfl, F, hRR.symm, by omega⟩⟩
  clear hI0 hB2 hB1 hr hRR hmx
  generalize infM F bs most = IM at *
  generalize hwc : w1.alloc (.cells #[.pointer (some ⟨G, 0, none⟩), .slice none 0 0, .int .i64 most] 107) = wc at *
  clear hwc
  generalize w1.heap.size = R at *
  go_loopw [8] (fun last wr => BlocksRel R G F bs most RR w last wr) (fun last wr => 8 * bs.length - placeAt wr G)
  case atStart => exact HR0.out
  case round =>
    clear HR0
    obtain ⟨p, out, vo, hI1, hB1, hway⟩ := hrel
    have HI1 := Lib.hid hI1
    have HB1 := Lib.hid hB1
    have HPL := Lib.hid hI1.placeAt
    clear hI1 hB1
    rcases hway with ⟨rfl, f, hrr, hf⟩ | ⟨rfl, hrr⟩
    · obtain ⟨f', rfl⟩ : ∃ f', f = f' + 1 := ⟨f - 1, by have := HI1.out.hp; omega⟩
      have HM : Hid (RR = _) := Lib.hid (hrr.trans (by rw [rawM]))
      clear hrr
      rcases tk_some bs p 1 with ⟨h1, hl1⟩ | ⟨h1, hl1⟩
      · have HT := Lib.hid (iTake_yes G R G most p 1 bs out wr vo _ HI1.out (by decide) h1)
        have hv1 := takeN_le bs p 1
        generalize takeN bs p 1 = v1 at *
        have hv1' : v1 = 0 ∨ v1 = 1 := by have := hv1.2; omega
        clear hv1 h1
        go_wp2_with fail
        refine HT.out.mono ?_
        rintro e w2 ⟨rfl, hI2, hC2⟩
        have HI2 := Lib.hid hI2
        have HC2 := Lib.hid hC2
        clear hI2 hC2 HT
        rcases tk_some bs (p + 1) 2 with ⟨h2, hl2⟩ | ⟨h2, hl2⟩
        · have HT := Lib.hid (iTake_yes G R G most (p + 1) 2 bs out w2 vo _ HI2.out (by decide) h2)
          have hv2 := takeN_le bs (p + 1) 2
          generalize takeN bs (p + 1) 2 = v2 at *
          have hv2' : v2 = 0 ∨ v2 = 1 ∨ v2 = 2 ∨ v2 = 3 := by have := hv2.2; omega
          clear hv2 h2
          go_wp2_with fail
          refine HT.out.mono ?_
          rintro e w3 ⟨rfl, hI3, hC3⟩
          have HI3 := Lib.hid hI3
          have HB3 := Lib.hid (HB1.out.trans (((HI1.out.belowL (chgG HC2.out)).trans (HI2.out.belowL (chgG hC3))).mono hG))
          clear hI3 hC3 HT HI2 HC2
          have HM2 : Hid (RR = if v2 = 3 then (3, p, out) else if (blockM F bs most v2 (p + 3) out).1 ≠ 0 then blockM F bs most v2 (p + 3) out else if v1 = 1 then blockM F bs most v2 (p + 3) out else rawM F bs most f' (blockM F bs most v2 (p + 3) out).2.1 (blockM F bs most v2 (p + 3) out).2.2) := Lib.hid (HM.out.trans (if_neg (by omega)))
          clear HM
          rcases hv2' with rfl | rfl | rfl | rfl
          rotate_right
          · have HM3 := Lib.hid (HM2.out.trans (if_pos rfl))
            clear HM2
            go_wp2
            go_ret3
            exact raw_no (inf_no HINF.out HM3.out (by decide)) (by decide) HB3.out
          · have HBK : Hid (∀ w4, InfAt G R G bs most w4 (p + 3) vo out → Calls Try.prog 89 #[.pointer (some ⟨R, 0, none⟩)] w4 (BlkPost G R G bs most vo (blockM F bs most 0 (p + 3) out) w4)) := Lib.hid fun w4 h => iStored_any G R G most (p + 3) bs out w4 vo h
            have HUP := Lib.hid (block_up (most := most) (bs := bs) F 0 (p + 3) out (by omega))
            have HM3 := Lib.hid (HM2.out.trans (if_neg (by decide)))
            clear HM2
            generalize blockM F bs most 0 (p + 3) out = X at *
            obtain ⟨ex, px, ox⟩ := X
            simp only at HM3 HUP
            go_wp2_with fail
            refine (iKinds_any w3).mono ?_
            rintro e w4 ⟨rfl, hB4⟩
            have HI4 := Lib.hid (HI3.out.below hB4)
            have HB4 := Lib.hid (HB3.out.trans (hB4.mono HB3.out.size))
            have HBK4 := Lib.hid (HBK.out w4 HI4.out)
            clear HBK hB4 HI3 HB3
            have hk := run_kind0 w4
            simp only [kindsV]
            go_wp2_with fail
            refine HBK4.out.mono ?_
            rintro e w5 ⟨rfl, hB5, hP5⟩
            have HB5 := Lib.hid (HB4.out.trans (hB5.mono hG))
            clear hB5 HBK4
            simp only at hP5
            by_cases hx0 : ex = 0
            · subst hx0
              have HM4 := Lib.hid (HM3.out.trans (if_neg (by decide)))
              obtain ⟨vo5, hI5, _, _⟩ := hP5 rfl
              have HI5 := Lib.hid hI5
              have hup := (HUP.out rfl).1
              have hp5 := hI5.hp
              have HPL5 := Lib.hid hI5.placeAt
              clear hP5 hI5 HM3 HUP
              rcases hv1' with rfl | rfl
              · have HM5 := Lib.hid (HM4.out.trans (if_neg (by decide)))
                clear HM4
                go_wp2
                go_roundw
                case rel => exact ⟨px, ox, vo5, HI5.out, HB5.out, .inl ⟨rfl, f', HM5.out, by omega⟩⟩
                case measure => rw [HPL5.out, HPL.out]; omega
              · have HM5 := Lib.hid (HM4.out.trans (if_pos rfl))
                clear HM4
                go_wp2
                go_roundw
                case rel => exact ⟨px, ox, vo5, HI5.out, HB5.out, .inr ⟨rfl, HM5.out⟩⟩
                case measure => rw [HPL5.out, HPL.out]; omega
            · have d5 : (ex == 0) = false := by simpa using hx0
              have d6 : (ex != 0) = true := by simpa using hx0
              have HM4 := Lib.hid (HM3.out.trans (if_pos hx0))
              clear hP5 HM3 HUP
              go_wp2
              go_ret3
              exact raw_no (inf_no HINF.out HM4.out hx0) hx0 HB5.out
          · have HBK : Hid (∀ w4, InfAt G R G bs most w4 (p + 3) vo out → Calls Try.prog 90 #[.pointer (some ⟨R, 0, none⟩)] w4 (BlkPost G R G bs most vo (blockM F bs most 1 (p + 3) out) w4)) := Lib.hid fun w4 h => iFixed_any G R G most (p + 3) F bs out w4 vo h hF1
            have HUP := Lib.hid (block_up (most := most) (bs := bs) F 1 (p + 3) out (by omega))
            have HM3 := Lib.hid (HM2.out.trans (if_neg (by decide)))
            clear HM2
            generalize blockM F bs most 1 (p + 3) out = X at *
            obtain ⟨ex, px, ox⟩ := X
            simp only at HM3 HUP
            go_wp2_with fail
            refine (iKinds_any w3).mono ?_
            rintro e w4 ⟨rfl, hB4⟩
            have HI4 := Lib.hid (HI3.out.below hB4)
            have HB4 := Lib.hid (HB3.out.trans (hB4.mono HB3.out.size))
            have HBK4 := Lib.hid (HBK.out w4 HI4.out)
            clear HBK hB4 HI3 HB3
            have hk := run_kind1 w4
            simp only [kindsV]
            go_wp2_with fail
            refine HBK4.out.mono ?_
            rintro e w5 ⟨rfl, hB5, hP5⟩
            have HB5 := Lib.hid (HB4.out.trans (hB5.mono hG))
            clear hB5 HBK4
            simp only at hP5
            by_cases hx0 : ex = 0
            · subst hx0
              have HM4 := Lib.hid (HM3.out.trans (if_neg (by decide)))
              obtain ⟨vo5, hI5, _, _⟩ := hP5 rfl
              have HI5 := Lib.hid hI5
              have hup := (HUP.out rfl).1
              have hp5 := hI5.hp
              have HPL5 := Lib.hid hI5.placeAt
              clear hP5 hI5 HM3 HUP
              rcases hv1' with rfl | rfl
              · have HM5 := Lib.hid (HM4.out.trans (if_neg (by decide)))
                clear HM4
                go_wp2
                go_roundw
                case rel => exact ⟨px, ox, vo5, HI5.out, HB5.out, .inl ⟨rfl, f', HM5.out, by omega⟩⟩
                case measure => rw [HPL5.out, HPL.out]; omega
              · have HM5 := Lib.hid (HM4.out.trans (if_pos rfl))
                clear HM4
                go_wp2
                go_roundw
                case rel => exact ⟨px, ox, vo5, HI5.out, HB5.out, .inr ⟨rfl, HM5.out⟩⟩
                case measure => rw [HPL5.out, HPL.out]; omega
            · have d5 : (ex == 0) = false := by simpa using hx0
              have d6 : (ex != 0) = true := by simpa using hx0
              have HM4 := Lib.hid (HM3.out.trans (if_pos hx0))
              clear hP5 HM3 HUP
              go_wp2
              go_ret3
              exact raw_no (inf_no HINF.out HM4.out hx0) hx0 HB5.out
          · have HBK : Hid (∀ w4, InfAt G R G bs most w4 (p + 3) vo out → Calls Try.prog 91 #[.pointer (some ⟨R, 0, none⟩)] w4 (BlkPost G R G bs most vo (blockM F bs most 2 (p + 3) out) w4)) := Lib.hid fun w4 h => iDynamic_any G R G most (p + 3) F bs out w4 vo h hF1
            have HUP := Lib.hid (block_up (most := most) (bs := bs) F 2 (p + 3) out (by omega))
            have HM3 := Lib.hid (HM2.out.trans (if_neg (by decide)))
            clear HM2
            generalize blockM F bs most 2 (p + 3) out = X at *
            obtain ⟨ex, px, ox⟩ := X
            simp only at HM3 HUP
            go_wp2_with fail
            refine (iKinds_any w3).mono ?_
            rintro e w4 ⟨rfl, hB4⟩
            have HI4 := Lib.hid (HI3.out.below hB4)
            have HB4 := Lib.hid (HB3.out.trans (hB4.mono HB3.out.size))
            have HBK4 := Lib.hid (HBK.out w4 HI4.out)
            clear HBK hB4 HI3 HB3
            have hk := run_kind2 w4
            simp only [kindsV]
            go_wp2_with fail
            refine HBK4.out.mono ?_
            rintro e w5 ⟨rfl, hB5, hP5⟩
            have HB5 := Lib.hid (HB4.out.trans (hB5.mono hG))
            clear hB5 HBK4
            simp only at hP5
            by_cases hx0 : ex = 0
            · subst hx0
              have HM4 := Lib.hid (HM3.out.trans (if_neg (by decide)))
              obtain ⟨vo5, hI5, _, _⟩ := hP5 rfl
              have HI5 := Lib.hid hI5
              have hup := (HUP.out rfl).1
              have hp5 := hI5.hp
              have HPL5 := Lib.hid hI5.placeAt
              clear hP5 hI5 HM3 HUP
              rcases hv1' with rfl | rfl
              · have HM5 := Lib.hid (HM4.out.trans (if_neg (by decide)))
                clear HM4
                go_wp2
                go_roundw
                case rel => exact ⟨px, ox, vo5, HI5.out, HB5.out, .inl ⟨rfl, f', HM5.out, by omega⟩⟩
                case measure => rw [HPL5.out, HPL.out]; omega
              · have HM5 := Lib.hid (HM4.out.trans (if_pos rfl))
                clear HM4
                go_wp2
                go_roundw
                case rel => exact ⟨px, ox, vo5, HI5.out, HB5.out, .inr ⟨rfl, HM5.out⟩⟩
                case measure => rw [HPL5.out, HPL.out]; omega
            · have d5 : (ex == 0) = false := by simpa using hx0
              have d6 : (ex != 0) = true := by simpa using hx0
              have HM4 := Lib.hid (HM3.out.trans (if_pos hx0))
              clear hP5 HM3 HUP
              go_wp2
              go_ret3
              exact raw_no (inf_no HINF.out HM4.out hx0) hx0 HB5.out
        · have HT := Lib.hid (iTake_no G R G most (p + 1) 2 bs out w2 vo HI2.out (by decide) h2)
          have HM2 := Lib.hid (HM.out.trans (if_pos (by omega)))
          have HB2 := Lib.hid (HB1.out.trans ((HI1.out.belowL (chgG HC2.out)).mono hG))
          clear HM h2
          go_wp2_with fail
          refine HT.out.mono ?_
          rintro e w3 ⟨rfl, m3, rfl⟩
          clear HT
          go_wp2
          go_ret3
          exact raw_no (inf_no HINF.out HM2.out (by decide)) (by decide) (Below.drewN HB2.out m3)
      · have HT := Lib.hid (iTake_no G R G most p 1 bs out wr vo HI1.out (by decide) h1)
        have HM2 := Lib.hid (HM.out.trans (if_pos (by omega)))
        clear HM h1
        go_wp2_with fail
        refine HT.out.mono ?_
        rintro e w2 ⟨rfl, m2, rfl⟩
        clear HT
        go_wp2
        go_ret3
        exact raw_no (inf_no HINF.out HM2.out (by decide)) (by decide) (Below.drewN HB1.out m2)
    · obtain ⟨Av, cv, rfl⟩ := HI1.out.own.shape
      have c1 := HI1.out.c1
      have c0 := HI1.out.c0
      have hcap := HI1.out.own.cap
      have HIM := Lib.hid (inf_ok HINF.out hrr)
      have hrd := HI1.out.rd
      have hp := HI1.out.hp
      clear hrr
      have t1 : (out.length : Int) ≤ (cv : Int) := by omega
      go_wp2
      go_quiet (exact quiet_same (used_any G G bs p _ (hrd.drewN _) hp (by omega)))
      go_wp2
      go_ret3
      exact raw_ok HIM.out (Below.drewN HB1.out nq) ((HI1.out.own.clipI.heap fun _ _ => rfl).base_ hG) HI1.out.ol (by omega) HI1.out.ob
end Go.Proofs.Ytoeipgbnjcgbjaa
