/- Whether a commit came ahead of another one: the program's Ancestor. -/
import Derived.Test.YtihanglnjghcfaaGreatDoorGLn13
import Derived.Test.YtihanglnjghcfaaGreatDoorGLn12
import Derived.Maps.Range
import Derived.Test.YtihanglnjghcfaaGreatDoorGLn10
import Derived.Test.YtihanglnjghcfaaGreatDoorGLn9
import Derived.Laws.StructEq
import Derived.Test.YtihanglnjghcfaaGreatDoorGLn3
import Derived.Test.YtihanglnjghcfaaGreatDoorGLn2
namespace Go.Proofs.YtihanglnjghcfaaGreatDoor
open Go.RowKit Go.Maps
set_option linter.unusedVariables false
set_option linter.unusedSimpArgs false

def AncPost (St : (Nat → Prop) → List Gid → World → Prop) (F : Nat → Prop) (qs : List Gid) (R : Except Int Bool) (w : World) (e : Ending) (w' : World) : Prop :=
 ∃ F' qs', St F' (qs ++ qs') w' ∧ Chg F w w' ∧ (∀ k, F' k → F k ∨ w.heap.size ≤ k) ∧ e = .returned (ancV R)
/-- What the walk keeps from round to round. -/
structure AncI (St : (Nat → Prop) → List Gid → World → Prop) (F : Nat → Prop) (qs U : List Gid) (G : Gid → Option Kn) (a b : Gid) (most : Int) (get : Value) (w : World) (g i : Nat) (l : List Git) (F1 : Nat → Prop) (wr : World) : Prop where
 st : ∃ t, St F1 (qs ++ t) wr
 sub : ∀ k, F1 k → F k ∨ w.heap.size ≤ k
 chg : Chg F w wr
 at' : WalkAt wr (KOf w.heap.size F1) g get false l
 eq : ancR G U most a b = ancP (gobG G) most a (U.length + 1 - i) i (l.map (·.id))
 one : OneG l
 inU : SubU U l
set_option maxRecDepth 100000 in
set_option maxHeartbeats 4000000 in
theorem ancestor_any {f : FuncId} {c1 c2 : Value} {G : Gid → Option Kn} {St : (Nat → Prop) → List Gid → World → Prop} (hg : Getter f c1 c2 G St) {U : List Gid} (hU : Univ G U) (F : Nat → Prop) (qs : List Gid) (w : World) (a b : Gid) (most : Int)
 (hS : St F qs w) (hE : EnvO w) (h1 : ¬ F 1) (h2 : ¬ F 2) (hb : b ∈ U) (hal : a.length ≤ 1099511627776) (hbl : b.length ≤ 1099511627776) :
 Calls Tryz.prog 23 #[fnV f c1 c2, .string (bk a), .string (bk b), .int .i64 most] w (AncPost St F qs (ancR G U most a b) w) := by
 have hbA : Below w.heap.size w (w.alloc (.cells #[.string (bk b)] 9)) := (Below.refl _ _).alloc (Nat.le_refl _) _
 have HBE := Lib.hid (begin_any f c1 c2 (some ⟨w.heap.size, 0, none⟩) 1 1 [b] (w.alloc (.cells #[.string (bk b)] 9)) (StrsAt.one w b) rfl (by decide) (by intro q hq; simp at hq; subst hq; exact hbl))
 have HBA := Lib.hid hbA
 have HG := Lib.hid hg
 have HU := Lib.hid hU
 have HE := Lib.hid hE
 have HT := Lib.hid (And.intro hE.lt.1 (And.intro hE.lt.2 (And.intro h1 h2)))
 have HS0 := Lib.hid hS
 have HLO := Lib.hid (hg.low hS)
 have HBU := Lib.hid hb
 have hsa : (bk a).size ≤ 9223372036854775807 := by rw [bk_size]; omega
 have HSA := Lib.hid hsa
 clear hg hU hS hE h1 h2 hb hbA hal hbl hsa
 unfold fnV at *
 go_enter Tryz.func23, Tryz.ntmps23
 go_wp2_with fail
 refine HBE.out.mono ?_
 rintro e w1 ⟨hb1, g, rfl, hw1⟩
 have HI0 : Hid (AncI St F qs U G a b most (.func (.func f) #[] #[c1, c2]) w g 0 [⟨b, 0⟩] F w1) := Lib.hid (by
  have hb2 := HBA.out.trans (hb1.mono HBA.out.size)
  exact {
   st := ⟨[], by simpa using HG.out.keep HS0.out (Chg.of_below (S := fun k => w.heap.size ≤ k) hb2) (fun k hk => Nat.not_le.2 (HLO.out k hk))⟩
   sub := fun k hk => .inl hk
   chg := Chg.of_below hb2
   at' := hw1.keep (Chg.refl (fun _ => False) _) (fun _ _ _ h => h) (fun k hk _ => ⟨by have := HBA.out.size; omega, fun h => by have := HLO.out k h; have := HBA.out.size; omega⟩)
   eq := rfl
   one := rootsP_one [b] [] List.Pairwise.nil
   inU := rootsP_sub [b] [] (fun x hx => by simp at hx) (fun r hr => by simp at hr; subst hr; exact HBU.out) })
 clear hb1 hw1
 go_wp2
 go_loopw [11] (fun vn wr => ∃ (i : Nat) (l : List Git) (F1 : Nat → Prop), vn = .int .i64 i ∧ AncI St F qs U G a b most (.func (.func f) #[] #[c1, c2]) w g i l F1 wr) (fun vn _ => U.length - (intOf vn).toNat)
 case atStart => exact ⟨0, _, _, rfl, HI0.out⟩
 case round =>
  obtain ⟨i, l, F1, rfl, hI⟩ := hrel
  have HI := Lib.hid hI
  obtain ⟨_, A2, c2', m, n2, hce, how, hoK, hmp, _⟩ := hI.at'
  have k1 : wr.cell? ⟨g, 1, none⟩ = some (.slice A2 l.length c2') := hce.cell 1 (by decide)
  have k2 : wr.cell? ⟨g, 2, none⟩ = some (.map (some m)) := hce.cell 2 (by decide)
  have hlk := hmp.look (bk a) HSA.out
  rw [bk_list] at hlk
  have hlu := sub_len hI.one hI.inU
  have HLU := Lib.hid (And.intro hlu HU.out.num)
  have HOW := Lib.hid how
  clear hI hce hlu how hoK hmp
  generalize wr = w2 at *
  by_cases hlt : i < l.length
  · have d1 : decide ((i : Int) < (l.length : Int)) = true := decide_eq_true (by omega)
    have d1' : decide (i < l.length) = true := decide_eq_true hlt
    have HLT := Lib.hid hlt
    have hUi : U.length + 1 - i = (U.length - i) + 1 := by have := HLU.out.1; omega
    have HUI := Lib.hid hUi
    have hml : i < (l.map (·.id)).length := by rw [List.length_map]; exact hlt
    have HML := Lib.hid hml
    clear hUi hml
    cases hat : atG l a with
    | some p =>
     rw [hat] at hlk
     unfold optI at hlk
     have HRES : Hid (ancR G U most a b = .ok true) := Lib.hid (by rw [HI.out.eq, HUI.out]; exact ancP_in HML.out (atG_mem.1 (by rw [hat]; rfl)))
     clear hat hlt
     go_wp2
     go_ret2
     rw [HRES.out]
     obtain ⟨t, ht⟩ := HI.out.st
     exact ⟨F1, t, ht, HI.out.chg, HI.out.sub, rfl⟩
    | none =>
     rw [hat] at hlk
     unfold optI at hlk
     have HNA : Hid (a ∉ l.map (·.id)) := Lib.hid (fun h => by have := atG_mem.2 h; rw [hat] at this; cases this)
     obtain ⟨M, hM⟩ : ∃ M, max most 0 = M := ⟨_, rfl⟩
     have HM : Hid (max most 0 = M) := Lib.hid hM
     clear hat
     by_cases hb : M ≤ (i : Int)
     · have d2 : decide (M ≤ (i : Int)) = true := decide_eq_true hb
       have HRES : Hid (ancR G U most a b = .error 5) := Lib.hid (by rw [HI.out.eq, HUI.out]; exact ancP_big HML.out HNA.out (by rw [HM.out]; exact hb))
       clear hb hlt
       go_wp2
       go_ret2
       rw [HRES.out]
       obtain ⟨t, ht⟩ := HI.out.st
       exact ⟨F1, t, ht, HI.out.chg, HI.out.sub, rfl⟩
     · have d2 : decide (M ≤ (i : Int)) = false := decide_eq_false hb
       have HNB : Hid (¬ max most 0 ≤ (i : Int)) := Lib.hid (by rw [HM.out]; exact hb)
       obtain ⟨x, hx⟩ : ∃ x, l[i]? = some x := ⟨_, List.getElem?_eq_getElem hlt⟩
       have HX : Hid ((l.map (·.id))[i]? = some x.id) := Lib.hid (by rw [List.getElem?_map, hx]; rfl)
       obtain ⟨b2, o2, rfl, _, hbl2, hcl2⟩ := OwnS.flat itV_len (by decide) HOW.out hx
       have f0 : w2.cell? ⟨b2, o2 + i * 2, none⟩ = some (.string (bk x.id)) := hcl2 0 (by decide)
       obtain ⟨t0, ht0⟩ := HI.out.st
       have HST0 := Lib.hid ht0
       have HA := Lib.hid (ask_any HG.out F1 (qs ++ t0) w2 x.id ht0 (HE.out.chg HI.out.chg HT.out.2.2.1 HT.out.2.2.2) (fun h => by rcases HI.out.sub _ h with h | h; exact HT.out.2.2.1 h; have := HT.out.1; omega) (fun h => by rcases HI.out.sub _ h with h | h; exact HT.out.2.2.2 h; have := HT.out.2.1; omega) (fun o ho => by have := HU.out.sz _ o ho; omega))
       have hle : ¬ (l.length : Int) ≤ i := by omega
       have hn0 : (0 : Int) ≤ i := by omega
       have hnl : (i : Int) < l.length := by omega
       have hw1 : IntKind.i64.wrap ((i : Int) + 1) = (i : Int) + 1 := IntWalk.i64_in _ (by have := HLU.out; omega)
       clear hx hbl2 hcl2 ht0 hb hlt
       unfold fnV at HA
       go_wp2_with fail
       refine HA.out.mono ?_
       rintro e w3 ⟨F2, hs2, hc2, hf2, ha2⟩
       have HC2 : Hid (Chg F w w3) := Lib.hid (HI.out.chg.trans hc2 (fun k hk h => by
        rcases HI.out.sub k h with h | h
        · exact h
        · omega))
       have HF2 : Hid (∀ k, F2 k → F k ∨ w.heap.size ≤ k) := Lib.hid (fun k hk => by
        rcases hf2 k hk with h | h
        · exact HI.out.sub k h
        · have := HI.out.chg.size; exact .inr (by omega))
       have HS2 := Lib.hid hs2
       have HW3 : Hid (WalkAt w3 (fun k => k < w2.heap.size ∧ KOf w.heap.size F2 k) g (.func (.func f) #[] #[c1, c2]) false l) := Lib.hid (HI.out.at'.keep hc2 (fun k hk _ => hk.2) (fun k hk hl => ⟨hl, hk.1, fun hf1 => (hf2 k hf1).elim hk.2 (fun h => by omega)⟩))
       have HSZ : Hid (w.heap.size ≤ w2.heap.size ∧ w2.heap.size ≤ w3.heap.size) := Lib.hid ⟨HI.out.chg.size, hc2.size⟩
       clear hs2 hc2 hf2 f0 k1 k2 hlk
       cases hgd : G x.id with
       | none =>
        rw [hgd] at ha2
        obtain rfl := ha2
        have HRES : Hid (ancR G U most a b = .error 61) := Lib.hid (by rw [HI.out.eq, HUI.out]; exact ancP_none HX.out HNA.out (by have := HNB.out; omega) (by unfold gobG; rw [hgd]; rfl))
        clear hgd
        go_wp2
        go_ret2
        rw [HRES.out]
        exact ⟨F2, _, by rw [← List.append_assoc]; exact HS2.out, HC2.out, HF2.out, rfl⟩
       | some o =>
        have HGD : Hid (gobG G x.id = some (gobK o)) := Lib.hid (by unfold gobG; rw [hgd]; rfl)
        have HGX := Lib.hid hgd
        rw [hgd] at ha2
        rcases ha2 with ⟨hlk0, rfl⟩ | ⟨IF, B1, rfl, hB1, hFB, hlk0, ho⟩
        · have HRES : Hid (ancR G U most a b = .error 3) := Lib.hid (by rw [HI.out.eq, HUI.out]; exact ancP_bad HX.out HNA.out (by have := HNB.out; omega) HGD.out (paOf_none hlk0))
          clear hgd hlk0
          go_wp2
          go_ret2
          rw [HRES.out]
          exact ⟨F2, _, by rw [← List.append_assoc]; exact HS2.out, HC2.out, HF2.out, rfl⟩
        · by_cases hk1 : o.kd = 1
          · obtain ⟨r, A3, hr, rfl, ho3⟩ : ∃ r A, commitF o.b = some r ∧ IF = .iface 103 (.agg #[.string (bk r.t), .slice A r.P.length r.P.length, .string (bk r.a), .string (bk r.c), .string (bk r.m)]) ∧ OwnS w3 B1 9 1 (.slice A r.P.length r.P.length) r.P.length (strVs r.P) := by
             rcases ho with ⟨_, r, A, h1, h2, h3⟩ | ⟨h, _⟩ | ⟨h, _⟩ | ⟨h, _⟩
             · exact ⟨r, A, h1, h2, h3⟩
             · omega
             · omega
             · omega
            have hpa : paOf o.kd o.b = some r.P := by unfold paOf; rw [if_pos hk1, hr]; rfl
            have HRES : Hid (ancR G U most a b = ancP (gobG G) most a (U.length - i) (i + 1) (parG (l.map (·.id)) r.P)) := Lib.hid (by rw [HI.out.eq, HUI.out]; exact ancP_step HX.out HNA.out (by have := HNB.out; omega) HGD.out hpa)
            have HPU := Lib.hid (HU.out.pa HGX.out hpa)
            have HPN : Hid (r.P.length ≤ 268435456 ∧ ∀ p ∈ r.P, p.length ≤ 1099511627776) := Lib.hid ⟨by have := pa_num hpa; have := HU.out.sz _ _ HGX.out; omega, fun p hp => by have := pa_each hpa p hp; have := HU.out.sz _ _ HGX.out; omega⟩
            have hta := tc_com (.string (bk r.t)) (.slice A3 r.P.length r.P.length) (.string (bk r.a)) (.string (bk r.c)) (.string (bk r.m)) w3
            have z1 : (w3.alloc (.cells #[.string (bk r.t), .slice A3 r.P.length r.P.length, .string (bk r.a), .string (bk r.c), .string (bk r.m)] 103)).cell? ⟨w3.heap.size, 1, none⟩ = some (.slice A3 r.P.length r.P.length) := by rw [World.cell?_alloc_at _ _ _ _ (by simp)]; rfl
            have hbC : Below w3.heap.size w3 (w3.alloc (.cells #[.string (bk r.t), .slice A3 r.P.length r.P.length, .string (bk r.a), .string (bk r.c), .string (bk r.m)] 103)) := (Below.refl _ _).alloc (Nat.le_refl _) _
            have hsC : w3.heap.size < (w3.alloc (.cells #[.string (bk r.t), .slice A3 r.P.length r.P.length, .string (bk r.a), .string (bk r.c), .string (bk r.m)] 103)).heap.size := by simp
            have HB1 := Lib.hid (And.intro hB1 hFB)
            have HO3 := Lib.hid ho3
            have HBC := Lib.hid (And.intro hbC hsC)
            clear hgd hlk0 ho hk1 hr hpa hB1 hFB ho3 hbC hsC
            go_upto_region 16 with (fail)
            generalize w3.alloc (.cells #[.string (bk r.t), .slice A3 r.P.length r.P.length, .string (bk r.a), .string (bk r.c), .string (bk r.m)] 103) = w4 at *
            go_wp2
            go_loopw [73] (fun vn wr => ∃ (j : Nat) (l' : List Git), vn = .int .i64 j ∧ j ≤ r.P.length ∧ WalkAt wr (fun k => (k < w2.heap.size ∧ KOf w.heap.size F2 k) ∨ w4.heap.size ≤ k) g (.func (.func f) #[] #[c1, c2]) false l' ∧ Chg (fun k => (k < w2.heap.size ∧ KOf w.heap.size F2 k) ∨ w4.heap.size ≤ k) w4 wr ∧ parsW l r.P = parsW l' (r.P.drop j) ∧ l'.length ≤ l.length + j) (fun vn _ => r.P.length - (intOf vn).toNat)
            case atStart => exact ⟨0, l, rfl, Nat.zero_le _, HW3.out.keep (Chg.of_below (S := fun k => w3.heap.size ≤ k) HBC.out.1) (fun k _ h1 h2 => by omega) (fun k hk _ => .inl hk), Chg.refl _ _, by rw [List.drop_zero], Nat.le_refl _⟩
            case round =>
             obtain ⟨j, l', rfl, hj, hw', hcr, hlk', hln'⟩ := hrel
             have HWR := Lib.hid hw'
             have HCR := Lib.hid hcr
             have HLR := Lib.hid hlk'
             have HNR := Lib.hid hln'
             clear hw' hcr hlk' hln'
             by_cases hlt : j < r.P.length
             · have e1 : decide ((j : Int) < (r.P.length : Int)) = true := decide_eq_true (by omega)
               have e1' : decide (j < r.P.length) = true := decide_eq_true hlt
               have hor := (HO3.out.chg (Chg.of_below (S := fun k => w3.heap.size ≤ k) HBC.out.1) (fun k hk h => by have := (HO3.out.lt k hk).2; omega)).chg HCR.out (fun k hk h => by
                have h1 := HO3.out.lt k hk
                have h2 := HB1.out.1
                have h3 := HBC.out.2
                rcases h with h | h
                · have := h.1; omega
                · omega)
               obtain ⟨kb, ko, rfl, hkb, hkc⟩ := hor.strsAt (by rw [List.length_map]; omega)
               generalize hyy : r.P[j] = y at *
               have f1 : wr.cell? ⟨kb, ko + j, none⟩ = some (.string (bk y)) := hkc j (bk y) (by rw [List.getElem?_map, List.getElem?_eq_getElem hlt, hyy]; rfl)
               have HDR : Hid (r.P.drop j = y :: r.P.drop (j + 1)) := Lib.hid (by rw [List.drop_eq_getElem_cons hlt, hyy])
               have hle2 : ¬ (r.P.length : Int) ≤ j := by omega
               have hj0 : (0 : Int) ≤ j := by omega
               have hjl : (j : Int) < r.P.length := by omega
               have hw2 : IntKind.i64.wrap ((j : Int) + 1) = (j : Int) + 1 := IntWalk.i64_in _ (by have := HPN.out.1; omega)
               have HADD := Lib.hid (add_any _ g _ false l' ⟨y, 0⟩ _ HWR.out (fun k hk => .inr (by have := HCR.out.size; omega)) (by have := HNR.out; have := HLU.out; have := HPN.out.1; omega) (HPN.out.2 y (by rw [← hyy]; exact List.getElem_mem hlt)))
               dsimp only at HADD
               clear hor hkb hkc hyy
               go_wp2_with fail
               refine HADD.out.mono ?_
               rintro e w11 ⟨rfl, hwa, hca⟩
               have HWB := Lib.hid hwa
               have HCB := Lib.hid (HCR.out.trans hca (fun _ _ h => h))
               have HLEN : Hid ((addG l' ⟨y, 0⟩).1.length ≤ l.length + (j + 1)) := Lib.hid (by have := addG_le l' ⟨y, 0⟩; have := HNR.out; omega)
               have HNX : Hid (parsW l r.P = parsW (addG l' ⟨y, 0⟩).1 (r.P.drop (j + 1))) := Lib.hid (by rw [HLR.out, HDR.out]; rfl)
               clear hwa hca f1
               go_wp2
               go_roundw
               case rel => exact ⟨j + 1, _, rfl, hlt, HWB.out, HCB.out, HNX.out, HLEN.out⟩
               case measure => simp [intOf]; omega
             · have e1 : decide ((j : Int) < (r.P.length : Int)) = false := decide_eq_false (by omega)
               have e1' : decide (j < r.P.length) = false := decide_eq_false hlt
               have hNX : parsW l r.P = l' := by rw [HLR.out, List.drop_eq_nil_of_le (by omega)]; rfl
               have HFI : Hid (AncI St F qs U G a b most (.func (.func f) #[] #[c1, c2]) w g (i + 1) l' F2 wr) := Lib.hid (by
                have hs4 := HG.out.keep HS2.out (Chg.of_below (S := fun k => w3.heap.size ≤ k) HBC.out.1) (fun k hk => Nat.not_le.2 (HG.out.low HS2.out k hk))
                exact {
                 st := ⟨t0 ++ [x.id], by
                  rw [← List.append_assoc]
                  refine HG.out.keep hs4 HCR.out (fun k hk h => ?_)
                  have h1 := HG.out.low HS2.out k hk
                  have h3 := HBC.out.2
                  rcases h with h | h
                  · exact h.2.2 hk
                  · omega⟩
                 sub := HF2.out
                 chg := (HC2.out.trans (Chg.of_below (S := fun _ => False) HBC.out.1) (fun _ _ h => h.elim)).trans HCR.out (fun k hk h => by
                  rcases h with h | h
                  · have := h.2.1; omega
                  · have := HSZ.out; have h3 := HBC.out.2; omega)
                 at' := HWR.out.keep (Chg.refl (fun _ => False) _) (fun _ _ _ h => h) (fun k hk _ => by
                  rcases hk with h | h
                  · exact h.2
                  · exact ⟨by have := HSZ.out; have h3 := HBC.out.2; omega, fun h2 => by have := HG.out.low HS2.out k h2; have h3 := HBC.out.2; omega⟩)
                 eq := by rw [HRES.out, ← parsW_ids, hNX, show U.length + 1 - (i + 1) = U.length - i by omega]
                 one := by rw [← hNX]; exact parsW_one _ _ HI.out.one
                 inU := by rw [← hNX]; exact parsW_sub _ _ HI.out.inU HPU.out })
               clear hNX hlt
               go_wp2
               go_roundw
               case rel => exact ⟨i + 1, l', F2, rfl, HFI.out⟩
               case measure => have := HLU.out; have := HLT.out; simp [intOf]; omega
          · have hta := ho.noCom hk1 w3
            have HRES : Hid (ancR G U most a b = .error 3) := Lib.hid (by rw [HI.out.eq, HUI.out]; exact ancP_bad HX.out HNA.out (by have := HNB.out; omega) HGD.out (paOf_no hk1))
            have hbA : Below w3.heap.size w3 (w3.alloc (.cells #[.string ⟨#[]⟩, .slice none 0 0, .string ⟨#[]⟩, .string ⟨#[]⟩, .string ⟨#[]⟩] 103)) := (Below.refl _ _).alloc (Nat.le_refl _) _
            have HBA2 := Lib.hid hbA
            clear hgd hlk0 ho hk1 hbA
            go_wp2
            go_ret2
            rw [HRES.out]
            exact ⟨F2, _, by rw [← List.append_assoc]; exact HG.out.keep HS2.out (Chg.of_below (S := fun k => w3.heap.size ≤ k) HBA2.out) (fun k hk => Nat.not_le.2 (HG.out.low HS2.out k hk)), HC2.out.trans (Chg.of_below (S := fun _ => False) HBA2.out) (fun _ _ h => h.elim), HF2.out, rfl⟩
  · have d1 : decide ((i : Int) < (l.length : Int)) = false := decide_eq_false (by omega)
    have d1' : decide (i < l.length) = false := decide_eq_false hlt
    have HRES : Hid (ancR G U most a b = .ok false) := Lib.hid (by rw [HI.out.eq]; exact ancP_end (by rw [List.length_map]; omega))
    clear hlt
    go_wp2
    go_ret2
    rw [HRES.out]
    obtain ⟨t, ht⟩ := HI.out.st
    exact ⟨F1, t, ht, HI.out.chg, HI.out.sub, rfl⟩
end Go.Proofs.YtihanglnjghcfaaGreatDoor
namespace Go.Proofs.YtihanglnjghcfaaGreatDoor
open Go.RowKit Go.Maps
set_option linter.unusedVariables false
set_option linter.unusedSimpArgs false

set_option maxRecDepth 100000 in
set_option maxHeartbeats 2000000 in
theorem rhas_any (w : World) (A : Option Addr) (n c : Nat) (l : List Gid) (d : Gid) (h : StrsAt w A (l.map bk)) (hl : l.length = n) (hn : n ≤ 1073741824) :
 Calls Tryz.prog 28 #[.slice A n c, .string (bk d)] w fun e w' => e = .returned (.bool (decide (d ∈ l))) ∧ w' = w := by
 have HS := Lib.hid h
 have HL := Lib.hid (And.intro hl hn)
 clear h hl hn
 go_enter Tryz.func28, Tryz.ntmps28
 go_wp2
 go_loopw [5] (fun vn wr => ∃ i : Nat, vn = .int .i64 i ∧ i ≤ n ∧ wr = w ∧ ∀ j x, j < i → l[j]? = some x → x ≠ d) (fun vn _ => n - (intOf vn).toNat)
 case atStart => exact ⟨0, rfl, by omega, rfl, fun j x h => absurd h (by omega)⟩
 case round =>
  obtain ⟨i, rfl, hi, rfl, hno⟩ := hrel
  have HNO := Lib.hid hno
  clear hno
  by_cases hlt : i < n
  · have d1 : decide ((i : Int) < (n : Int)) = true := decide_eq_true (by omega)
    have d1' : decide (i < n) = true := decide_eq_true hlt
    obtain ⟨x, hx⟩ : ∃ x, l[i]? = some x := ⟨_, List.getElem?_eq_getElem (by rw [HL.out.1]; exact hlt)⟩
    obtain ⟨b, o, rfl, _, hc⟩ := HS.out (by rw [List.length_map, HL.out.1]; omega)
    have f0 := hc i (bk x) (by rw [List.getElem?_map, hx]; rfl)
    have HX := Lib.hid hx
    have hle : ¬ (n : Int) ≤ i := by omega
    have hn0 : (0 : Int) ≤ i := by omega
    have hnl : (i : Int) < n := by omega
    clear hx hc
    by_cases he : x = d
    · have q1 : ((bk x).toList == (bk d).toList) = true := by rw [he]; simp
      have HRR : Hid (decide (d ∈ l) = true) := Lib.hid (decide_eq_true (by rw [← he]; exact List.mem_of_getElem? HX.out))
      clear he
      go_wp2
      go_ret
      exact ⟨by rw [HRR.out]; rfl, by first | rfl | trivial⟩
    · have q1 : ((bk x).toList == (bk d).toList) = false := by rw [Lib.toList_data, Lib.toList_data, bk_list, bk_list, beq_eq_false_iff_ne]; exact he
      have HNX : Hid (∀ j y, j < i + 1 → l[j]? = some y → y ≠ d) := Lib.hid (fun j y hj hy => by
       rcases Nat.lt_or_ge j i with h | h
       · exact HNO.out j y h hy
       · obtain rfl : j = i := by omega
         rw [HX.out] at hy
         injection hy with hy
         rw [← hy]; exact he)
      have hw : IntKind.i64.wrap ((i : Int) + 1) = (i : Int) + 1 := IntWalk.i64_in _ (by have := HL.out; omega)
      clear he
      go_wp2
      go_roundw
      case rel => exact ⟨i + 1, rfl, hlt, by first | rfl | trivial, HNX.out⟩
      case measure => simp [intOf]; omega
  · have d1 : decide ((i : Int) < (n : Int)) = false := decide_eq_false (by omega)
    have d1' : decide (i < n) = false := decide_eq_false hlt
    have HRR : Hid (decide (d ∈ l) = false) := Lib.hid (decide_eq_false (fun h => by
     obtain ⟨j, hj, e⟩ := List.mem_iff_getElem.1 h
     exact HNO.out j l[j] (by have := HL.out.1; omega) (List.getElem?_eq_getElem hj) e))
    go_wp2
    go_ret
    exact ⟨by rw [HRR.out]; rfl, by first | rfl | trivial⟩
end Go.Proofs.YtihanglnjghcfaaGreatDoor
namespace Go.Proofs.YtihanglnjghcfaaGreatDoor
open Go.Maps Go.WideShapes
set_option linter.unusedVariables false
set_option linter.unusedSimpArgs false

abbrev Txt := List UInt8
/-- Texts that rise. -/
def Rise (l : List Txt) : Prop := l.Pairwise fun a b => bytesBefore a b = true
end Go.Proofs.YtihanglnjghcfaaGreatDoor
namespace Go.Proofs.YtihanglnjghcfaaGreatDoor
open Go.RowKit Go.Maps
set_option linter.unusedVariables false
set_option linter.unusedSimpArgs false

theorem less_beforeG : ∀ a b : List UInt8, Op.bytesLess a b = bytesBefore a b
 | [], [] => rfl
 | _ :: _, [] => rfl
 | [], _ :: _ => rfl
 | a :: x, b :: y => by
  show (_ || (_ && Op.bytesLess x y)) = (_ || (_ && bytesBefore x y))
  rw [less_beforeG x y]
theorem less_bk (p s : Gid) : Op.bytesLess (bk p).toList (bk s).toList = bytesBefore p s := by rw [less_beforeG, Lib.toList_data, Lib.toList_data, bk_list, bk_list]
theorem OwnS.low {w : World} {B n : Nat} {e : TypeId} {size : Nat} {v : Value} {xs : List Value} (h : OwnS w B e size v n xs) (W : World) (hb : Below w.heap.size w W) : OwnS W B e size v n xs :=
 h.chg (S := fun _ => False) (Chg.of_below hb) fun _ _ h => h
end Go.Proofs.YtihanglnjghcfaaGreatDoor
namespace Go.Proofs.YtihanglnjghcfaaGreatDoor
open Go.RowKit
set_option linter.unusedVariables false
set_option linter.unusedSimpArgs false

theorem RSt.put {w0 w w' : World} {g1 g2 : Nat} {V V' : Array Value} (h : RSt w0 w g1 g2 V) (hc : CelV w' g2 V') (hg : w.grownBy w' (some g2)) : RSt w0 w' g1 g2 V' :=
 ⟨h.low.grown hg h.low.size (fun k hk => by injection hk with hk; have := h.e1; have := h.lt; omega), h.e1, h.lt, h.res.grown hg (by intro hx; injection hx with hx; have := h.lt; omega), hc⟩
end Go.Proofs.YtihanglnjghcfaaGreatDoor
namespace Go.Proofs.YtihanglnjghcfaaGreatDoor
open Go.RowKit
set_option linter.unusedVariables false
set_option linter.unusedSimpArgs false

/-- A row of links read. -/
def LksAt (w : World) (A : Option Addr) (K : List Lk) : Prop := 0 < K.length → ∃ b o, A = some ⟨b, o, none⟩ ∧ b < w.heap.size ∧ ∀ (i : Nat) (x : Lk), K[i]? = some x → w.cell? ⟨b, o + i * 2, none⟩ = some (.string x.id) ∧ w.cell? ⟨b, o + i * 2 + 1, none⟩ = some (.int .i64 x.k)
theorem LksAt.below {w w' : World} {A : Option Addr} {K : List Lk} (h : LksAt w A K) (hb : Below w.heap.size w w') : LksAt w' A K := fun hl => by
 obtain ⟨b, o, h1, h2, h3⟩ := h hl
 exact ⟨b, o, h1, Nat.lt_of_lt_of_le h2 hb.size, fun i x hx => ⟨(hb.cell (p := ⟨b, o + i * 2, none⟩) h2).trans (h3 i x hx).1, (hb.cell (p := ⟨b, o + i * 2 + 1, none⟩) h2).trans (h3 i x hx).2⟩⟩
end Go.Proofs.YtihanglnjghcfaaGreatDoor
namespace Go.Proofs.YtihanglnjghcfaaGreatDoor
open Go.RowKit Go.Maps
set_option linter.unusedVariables false
set_option linter.unusedSimpArgs false

/-- The document's object. -/
structure Ob8 where
 kd : Int
 d : ByteArray
 vL : Value
 t : ByteArray
 vP : Value
 a : ByteArray
 c : ByteArray
 o : ByteArray
 n : ByteArray
 ty : Int
 g : ByteArray
 m : ByteArray
def Ob8.V (x : Ob8) : Array Value := #[.int .i64 x.kd, .string x.d, x.vL, .string x.t, x.vP, .string x.a, .string x.c, .string x.o, .string x.n, .int .i64 x.ty, .string x.g, .string x.m]
end Go.Proofs.YtihanglnjghcfaaGreatDoor
namespace Go.Proofs.YtihanglnjghcfaaGreatDoor
open Go.RowKit Go.Maps
set_option linter.unusedVariables false
set_option linter.unusedSimpArgs false

/-- The document's list in memory. -/
def DocL (w : World) (K : Nat → Prop) (A : Option Addr) (c : Nat) (l : List Git) : Prop :=
 OwnS w 0 89 2 (.slice A l.length c) l.length (l.flatMap itV) ∧ ∀ k, Value.ownBlock (.slice A l.length c) = some k → K k
theorem DocL.nil (w : World) (K : Nat → Prop) : DocL w K none 0 [] := ⟨OwnS.nil _ _ _ _, fun k hk => by simp [Value.ownBlock] at hk⟩
theorem DocL.keep {w w' : World} {K K' S : Nat → Prop} {A : Option Addr} {c : Nat} {l : List Git} (h : DocL w K A c l) (hc : Chg S w w') (hS : ∀ k, K k → k < w.heap.size → ¬ S k) (hK : ∀ k, K k → k < w.heap.size → K' k) : DocL w' K' A c l :=
 ⟨h.1.chg hc fun k hk => hS k (h.2 k hk) (h.1.lt k hk).2, fun k hk => hK k (h.2 k hk) (h.1.lt k hk).2⟩
theorem DocL.below {w w' : World} {K : Nat → Prop} {A : Option Addr} {c : Nat} {l : List Git} (h : DocL w K A c l) (hb : Below w.heap.size w w') : DocL w' K A c l :=
 h.keep (S := fun k => w.heap.size ≤ k) (Chg.of_below hb) (fun k _ h1 h2 => by omega) fun k hk _ => hk
theorem DocL.snoc {w w8 : World} {K : Nat → Prop} {A A8 : Option Addr} {c c8 : Nat} {l : List Git} {x : Git} (h : DocL w K A c l) (ho : OwnS w8 0 89 2 (.slice A8 (l.length + 1) c8) (l.length + 1) (l.flatMap itV ++ itV x)) {N : Nat}
 (hh : (Value.slice A8 (l.length + 1) c8).ownBlock = (Value.slice A l.length c).ownBlock ∨ (Value.slice A8 (l.length + 1) c8).ownBlock = some N) (hK : K N) : DocL w8 K A8 c8 (l ++ [x]) := by
 have e1 : (l ++ [x]).length = l.length + 1 := by simp
 refine ⟨by rw [e1, List.flatMap_append]; simpa using ho, fun k hk => ?_⟩
 rw [e1] at hk
 rcases hh with h1 | h1
 · exact h.2 k (h1.symm.trans hk)
 · rw [h1] at hk; injection hk with hk; rw [← hk]; exact hK
theorem DocL.set {w : World} {K : Nat → Prop} {b o c i : Nat} {l : List Git} {x : Git} (h : DocL w K (some ⟨b, o, none⟩) c l) (hx : l[i]? = some x) (u : Int) :
 DocL (w.setCell ⟨b, o + i * 2 + 1, none⟩ (.int .i64 u)) K (some ⟨b, o, none⟩) c (l.modify i fun y => ⟨y.id, u⟩) ∧ Chg K w (w.setCell ⟨b, o + i * 2 + 1, none⟩ (.int .i64 u)) := by
 have hil : i < l.length := (List.getElem?_eq_some_iff.1 hx).1
 have e1 : (l.modify i fun y => (⟨y.id, u⟩ : Git)).length = l.length := by simp
 have e2 : (l.modify i fun y => (⟨y.id, u⟩ : Git)).flatMap itV = (l.flatMap itV).set (i * 2 + 1) (.int .i64 u) := flat_set 2 itV itV_len l i 1 _ x _ hx rfl (by decide)
 have hfl := flat_len 2 itV itV_len l
 have hset := h.1.setAt (j := i * 2 + 1) (by rw [hfl]; omega) (.int .i64 u)
 rw [← Nat.add_assoc] at hset
 exact ⟨⟨by rw [e1, e2]; exact hset, by rw [e1]; exact h.2⟩, (Chg.refl K w).setCell (.inl (h.2 b rfl)) _⟩
theorem DocL.cells {w : World} {K : Nat → Prop} {A : Option Addr} {c i : Nat} {l : List Git} {x : Git} (h : DocL w K A c l) (hx : l[i]? = some x) :
 ∃ b o, A = some ⟨b, o, none⟩ ∧ b < w.heap.size ∧ w.cell? ⟨b, o + i * 2, none⟩ = some (.string (bk x.id)) ∧ w.cell? ⟨b, o + i * 2 + 1, none⟩ = some (.int .i64 x.kd) ∧ w.frozen? ⟨b, o + i * 2 + 1, none⟩ = false := by
 obtain ⟨b, o, rfl, _, hl, hc⟩ := OwnS.flat itV_len (by decide) h.1 hx
 have hil : i < l.length := (List.getElem?_eq_some_iff.1 hx).1
 have hfl := flat_len 2 itV itV_len l
 have hfr := h.1.free (j := i * 2 + 1) (by rw [hfl]; omega)
 rw [← Nat.add_assoc] at hfr
 exact ⟨b, o, rfl, hl, hc 0 (by decide), hc 1 (by decide), hfr.1⟩
end Go.Proofs.YtihanglnjghcfaaGreatDoor
namespace Go.Proofs.YtihanglnjghcfaaGreatDoor
open Go.RowKit Go.Maps
set_option linter.unusedVariables false
set_option linter.unusedSimpArgs false

theorem OwnS.new1 (w : World) (base : Nat) (hb : base ≤ w.heap.size) (a : Value) (t : TypeId) : OwnS (w.alloc (.cells #[a] t)) base t 1 (.slice (some ⟨w.heap.size, 0, none⟩) 1 1) 1 [a] :=
 ⟨rfl, .inr ⟨w.heap.size, 0, 1, #[a], rfl, hb, ⟨_, heap_alloc_new w _, .inl (Nat.le_refl _)⟩, Nat.le_refl _, by unfold maxLen; omega, by simp, by simp⟩⟩
/-- A list of texts in memory. -/
def DocS (w : World) (K : Nat → Prop) (A : Option Addr) (c : Nat) (l : List Gid) : Prop :=
 OwnS w 0 9 1 (.slice A l.length c) l.length (strVs l) ∧ ∀ k, Value.ownBlock (.slice A l.length c) = some k → K k
theorem DocS.nil (w : World) (K : Nat → Prop) : DocS w K none 0 [] := ⟨OwnS.nil _ _ _ _, fun k hk => by simp [Value.ownBlock] at hk⟩
theorem DocS.one (w : World) (d : Gid) : DocS (w.alloc (.cells #[.string (bk d)] 9)) (fun k => w.heap.size ≤ k) (some ⟨w.heap.size, 0, none⟩) 1 [d] :=
 ⟨OwnS.new1 w 0 (Nat.zero_le _) _ _, fun k hk => by injection hk with hk; exact Nat.le_of_eq hk⟩
theorem DocS.keep {w w' : World} {K K' S : Nat → Prop} {A : Option Addr} {c : Nat} {l : List Gid} (h : DocS w K A c l) (hc : Chg S w w') (hS : ∀ k, K k → k < w.heap.size → ¬ S k) (hK : ∀ k, K k → k < w.heap.size → K' k) : DocS w' K' A c l :=
 ⟨h.1.chg hc fun k hk => hS k (h.2 k hk) (h.1.lt k hk).2, fun k hk => hK k (h.2 k hk) (h.1.lt k hk).2⟩
theorem DocS.below {w w' : World} {K : Nat → Prop} {A : Option Addr} {c : Nat} {l : List Gid} (h : DocS w K A c l) (hb : Below w.heap.size w w') : DocS w' K A c l :=
 h.keep (S := fun k => w.heap.size ≤ k) (Chg.of_below hb) (fun k _ h1 h2 => by omega) fun k hk _ => hk
theorem DocS.snoc {w w8 : World} {K : Nat → Prop} {A A8 : Option Addr} {c c8 : Nat} {l : List Gid} {x : Gid} (h : DocS w K A c l) (ho : OwnS w8 0 9 1 (.slice A8 (l.length + 1) c8) (l.length + 1) (strVs l ++ [.string (bk x)])) {N : Nat}
 (hh : (Value.slice A8 (l.length + 1) c8).ownBlock = (Value.slice A l.length c).ownBlock ∨ (Value.slice A8 (l.length + 1) c8).ownBlock = some N) (hK : K N) : DocS w8 K A8 c8 (l ++ [x]) := by
 have e1 : (l ++ [x]).length = l.length + 1 := by simp
 have e2 : strVs (l ++ [x]) = strVs l ++ [.string (bk x)] := by unfold strVs; simp
 refine ⟨by rw [e1, e2]; exact ho, fun k hk => ?_⟩
 rw [e1] at hk
 rcases hh with h1 | h1
 · exact h.2 k (h1.symm.trans hk)
 · rw [h1] at hk; injection hk with hk; rw [← hk]; exact hK
theorem DocS.strs {w : World} {K : Nat → Prop} {A : Option Addr} {c : Nat} {l : List Gid} (h : DocS w K A c l) : StrsAt w A (l.map bk) := h.1.strsAt
theorem DocS.cell {w : World} {K : Nat → Prop} {A : Option Addr} {c i : Nat} {l : List Gid} {x : Gid} (h : DocS w K A c l) (hx : l[i]? = some x) :
 ∃ b o, A = some ⟨b, o, none⟩ ∧ b < w.heap.size ∧ w.cell? ⟨b, o + i, none⟩ = some (.string (bk x)) := by
 obtain ⟨b, o, h1, h2, h3⟩ := h.strs (by rw [List.length_map]; exact Nat.lt_of_le_of_lt (Nat.zero_le i) (List.getElem?_eq_some_iff.1 hx).1)
 exact ⟨b, o, h1, h2, h3 i (bk x) (by rw [List.getElem?_map, hx]; rfl)⟩
section
variable {G : Gid → Option Gob} {most : Int} {a : Gid} {n i : Nat} {l : List Gid}
end
end Go.Proofs.YtihanglnjghcfaaGreatDoor
namespace Go.Proofs.YtihanglnjghcfaaGreatDoor
open Go.RowKit Go.Maps
set_option linter.unusedVariables false
set_option linter.unusedSimpArgs false

theorem cell_chg {S : Nat → Prop} {w w' : World} {b i : Nat} {v : Value} (h : w.cell? ⟨b, i, none⟩ = some v) (hc : Chg S w w') (hn : ¬ S b) : w'.cell? ⟨b, i, none⟩ = some v :=
 (World.cell?_of_block (hc.block b (block_lt h) hn)).trans h
def thOut (G : Gid → Option Kn) (qs : List Gid) : List Gid := qs.filter fun d => (G d).isSome
theorem thOut_len (G : Gid → Option Kn) (qs : List Gid) : (thOut G qs).length ≤ qs.length := List.length_filter_le _ _
theorem thOut_no {G : Gid → Option Kn} {qs : List Gid} {d : Gid} (h : G d = none) : thOut G (qs ++ [d]) = thOut G qs := by
 unfold thOut; rw [List.filter_append]; simp [h]
theorem thOut_yes {G : Gid → Option Kn} {qs : List Gid} {d : Gid} {x : Kn} (h : G d = some x) : thOut G (qs ++ [d]) = thOut G qs ++ [d] := by
 unfold thOut; rw [List.filter_append]; simp [h]
def oneF (v : Value) : Nat → Value := fun _ => v
/-- The memory of the function that There makes: the law's Get below, a box that holds it, a box that holds the list. -/
structure ThSt (F0 : Nat → Prop) (r b1 b2 bg bo : Nat) (R : List Kn) (gone : Gid) (F : Nat → Prop) (qs : List Gid) (w : World) : Prop where
 lt : ∀ k, F k → k < w.heap.size
 sub : ∀ k, F0 k → F k
 rep : RepAt w F0 r R
 f12 : F0 b1 ∧ F0 b2
 k1 : w.cell? ⟨b1, 0, none⟩ = some (.pointer (some ⟨r, 0, none⟩))
 k2 : w.cell? ⟨b2, 0, none⟩ = some (.string (bk gone))
 fg : F bg ∧ ¬ F0 bg
 kg : w.cell? ⟨bg, 0, none⟩ = some (fnV 38 (.pointer (some ⟨b1, 0, none⟩)) (.pointer (some ⟨b2, 0, none⟩)))
 fo : F bo ∧ ¬ F0 bo ∧ bo ≠ bg
 out : ∃ A c, Cel w bo 32 1 (oneF (.slice A (thOut (withoutK R gone) qs).length c)) ∧ DocS w (fun k => F k ∧ ¬ F0 k ∧ k ≠ bg) A c (thOut (withoutK R gone) qs)
theorem ThSt.keep {F0 F S : Nat → Prop} {r b1 b2 bg bo : Nat} {R : List Kn} {gone : Gid} {qs : List Gid} {w w' : World} (h : ThSt F0 r b1 b2 bg bo R gone F qs w) (hc : Chg S w w') (hS : ∀ k, F k → ¬ S k) : ThSt F0 r b1 b2 bg bo R gone F qs w' where
 lt := fun k hk => Nat.lt_of_lt_of_le (h.lt k hk) hc.size
 sub := h.sub
 rep := h.rep.keep hc (fun k hk _ => hS k (h.sub k hk)) (fun k hk _ => hk)
 f12 := h.f12
 k1 := cell_chg h.k1 hc (hS b1 (h.sub _ h.f12.1))
 k2 := cell_chg h.k2 hc (hS b2 (h.sub _ h.f12.2))
 fg := h.fg
 kg := cell_chg h.kg hc (hS bg h.fg.1)
 fo := h.fo
 out := by
  obtain ⟨A, c, h1, h2⟩ := h.out
  exact ⟨A, c, h1.chg hc (hS bo h.fo.1), h2.keep hc (fun k hk _ => hS k hk.1) (fun k hk _ => hk)⟩
def There1Post (F0 : Nat → Prop) (r b1 b2 bg bo : Nat) (R : List Kn) (gone : Gid) (F : Nat → Prop) (qs : List Gid) (d : Gid) (w : World) (e : Ending) (w' : World) : Prop :=
 ∃ F', ThSt F0 r b1 b2 bg bo R gone F' (qs ++ [d]) w' ∧ Chg F w w' ∧ (∀ k, F' k → F k ∨ w.heap.size ≤ k) ∧ TellPost (withoutK R gone d) e w'
set_option maxRecDepth 100000 in
set_option maxHeartbeats 4000000 in
theorem there1_any (F0 F : Nat → Prop) (r b1 b2 bg bo : Nat) (R : List Kn) (gone d : Gid) (qs : List Gid) (w : World) (h : ThSt F0 r b1 b2 bg bo R gone F qs w) (hq : qs.length < 268435456) (hl : R.length ≤ 1073741824) (hz : ∀ x ∈ R, x.b.length ≤ 140737488351300) :
 Calls Tryz.prog 62 #[.string (bk d), .pointer (some ⟨bg, 0, none⟩), .pointer (some ⟨bo, 0, none⟩)] w (There1Post F0 r b1 b2 bg bo R gone F qs d w) := by
 obtain ⟨i0, hi, hz0, hz1, hz2⟩ := info_parts info_str1
 have HG := Lib.hid (get1F_any w F0 r b1 b2 R gone d h.rep hl hz h.k1 h.k2)
 have kg := h.kg
 have HS := Lib.hid h
 have HQ := Lib.hid hq
 have hcf : ∀ W : World, (callFunc 38 #[.string (bk d), .pointer (some ⟨b1, 0, none⟩), .pointer (some ⟨b2, 0, none⟩)]).run Tryz.prog W = .ok (.enter 38 #[.string (bk d), .pointer (some ⟨b1, 0, none⟩), .pointer (some ⟨b2, 0, none⟩)]) W := fun W => enters_of Tryz.func38 (by kernel_rfl) rfl _ _
 have hnil : (binOp .eql 38 (.func (.func 38) #[] #[.pointer (some ⟨b1, 0, none⟩), .pointer (some ⟨b2, 0, none⟩)]) .nilFunc).run Tryz.prog w = .ok (.bool false) w := by kernel_rfl
 unfold fnV at kg
 clear h hq hl hz
 go_enter Tryz.func62, Tryz.ntmps62
 go_wp2_with fail
 refine HG.out.mono ?_
 rintro e w1 ⟨hb1, ht1⟩
 have HB1 := Lib.hid hb1
 have HS1 := Lib.hid (HS.out.keep (Chg.of_below (S := fun k => w.heap.size ≤ k) hb1) (fun k hk => Nat.not_le.2 (HS.out.lt k hk)))
 clear hb1 hnil hcf kg
 cases hw : withoutK R gone d with
 | none =>
  rw [hw] at ht1
  obtain rfl := ht1
  have HW := Lib.hid hw
  clear hw
  go_wp2
  go_ret3
  refine ⟨F, ?_, Chg.of_below HB1.out, fun k hk => .inl hk, by rw [HW.out]; rfl⟩
  have h1 := HS1.out
  exact { lt := h1.lt, sub := h1.sub, rep := h1.rep, f12 := h1.f12, k1 := h1.k1, k2 := h1.k2, fg := h1.fg, kg := h1.kg, fo := h1.fo, out := by rw [thOut_no HW.out]; exact h1.out }
 | some x =>
  rw [hw] at ht1
  obtain ⟨A, c, rfl, hI, hle, hcm, hnz, hfr⟩ := ht1
  obtain ⟨A2, c2, hce, hdo⟩ := HS1.out.out
  have HTL := Lib.hid (And.intro hI (And.intro hle (And.intro hcm (And.intro hnz hfr))))
  have HW := Lib.hid hw
  have HYES : Hid (thOut (withoutK R gone) (qs ++ [d]) = thOut (withoutK R gone) qs ++ [d]) := Lib.hid (thOut_yes hw)
  have HLN : Hid ((thOut (withoutK R gone) qs).length ≤ 268435456) := Lib.hid (by have := thOut_len (withoutK R gone) qs; have := HQ.out; omega)
  generalize thOut (withoutK R gone) qs = o0 at *
  have ko : w1.cell? ⟨bo, 0, none⟩ = some (.slice A2 o0.length c2) := hce.cell 0 (by decide)
  have koA : (w1.alloc (.cells #[.string (bk d)] 9)).cell? ⟨bo, 0, none⟩ = some (.slice A2 o0.length c2) := (World.cell?_of_block (heap_alloc_old w1 _ hce.blk)).trans ko
  have hnb : Value.ownBlock (.slice A2 o0.length c2) ≠ some bo := hdo.1.ne_cel hce (by decide)
  have HNB := Lib.hid hnb
  have HCE := Lib.hid hce
  have HDO := Lib.hid hdo
  have HOA := Lib.hid (hdo.1.alloc (.cells #[.string (bk d)] 9))
  have HSC := Lib.hid (Src.one_new (P := Tryz.prog) (w := w1) (u := .string (bk d)) (t := 9) rfl)
  have hm9 : o0.length + 1 ≤ maxLen := by have := HLN.out; unfold maxLen; omega
  have hb9 : (o0.length + 1) * 16 ≤ 140737488355328 := by have := HLN.out; omega
  clear hI hle hcm hnz hfr hw hce hdo hnb
  go_wp2_with (at_builtin; go_loud (refine wpList_append_S rfl (.tmp 20) (.tmp 22) 32 32 rfl i0 (.string ⟨#[]⟩) 16 (.slice 9) Tryz.underlying32 Tryz.underlying32 (fun _ h => by cases h) hi hz0 hz1 hz2 rfl rfl rfl HOA.out HSC.out hm9 hb9 (Nat.zero_le _) ?_; intro A8 c8 w8; generalize hnn : o0.length + 1 = nn at *; intro ho8 hg8 hw8; have HCE8 := Lib.hid ((HCE.out.alloc (.cells #[.string (bk d)] 9)).grown hg8 HNB.out); have q8 := HCE8.out.cell 0 (by decide); have z8 := HCE8.out.frozen 0; have HO8 := Lib.hid ho8; have HG8 := Lib.hid hg8; have HH8 := Lib.hid hw8; have HNN := Lib.hid hnn; clear ho8 hg8 hw8 hnn))
  go_ret3
  have hsz := HB1.out.size
  have hal : (w1.alloc (.cells #[.string (bk d)] 9)).heap.size = w1.heap.size + 1 := by simp
  have hd0 : DocS (w1.alloc (.cells #[.string (bk d)] 9)) (fun k => (F k ∨ w.heap.size ≤ k) ∧ ¬ F0 k ∧ k ≠ bg) A2 c2 o0 := ⟨HOA.out, fun k hk => by have := HDO.out.2 k hk; exact ⟨.inl this.1, this.2⟩⟩
  have hbg := HS.out.lt bg HS.out.fg.1
  have hD8 : DocS w8 (fun k => (F k ∨ w.heap.size ≤ k) ∧ ¬ F0 k ∧ k ≠ bg) A8 c8 (o0 ++ [d]) :=
   hd0.snoc (N := w1.heap.size + 1) (by rw [HNN.out]; exact HO8.out) (by rw [HNN.out, ← hal]; exact HH8.out) ⟨.inr (by omega), fun h => by have := HS.out.lt _ (HS.out.sub _ h); omega, by omega⟩
  have e1 : (o0 ++ [d]).length = nn := by rw [List.length_append]; exact HNN.out
  have hne8 : Value.ownBlock (.slice A8 (o0 ++ [d]).length c8) ≠ some bo := by rw [e1]; exact HO8.out.ne_cel HCE8.out (by decide)
  have hc9 : Chg (fun k => F k ∧ ¬ F0 k ∧ k ≠ bg) w1 (w8.setCell ⟨bo, 0, none⟩ (.slice A8 nn c8)) :=
   Chg.setCell ((((Chg.refl (fun k => F k ∧ ¬ F0 k ∧ k ≠ bg) w1).alloc _).trans (Chg.of_grown (S := fun k => F k ∧ ¬ F0 k ∧ k ≠ bg) HG8.out (fun k hk => HDO.out.2 k hk)) (fun _ _ h => h))) (.inl ⟨HS.out.fo.1, HS.out.fo.2.1, HS.out.fo.2.2⟩) _
  have h1 := HS1.out
  refine ⟨fun k => F k ∨ (w.heap.size ≤ k ∧ k < (w8.setCell ⟨bo, 0, none⟩ (.slice A8 nn c8)).heap.size), ?_, (Chg.of_below HB1.out).trans hc9 (fun k _ h => h.1), fun k hk => hk.imp id (fun h => h.1), ?_⟩
  · exact {
   lt := fun k hk => by
    rcases hk with h | h
    · have h2 := h1.lt k h
      have h3 := hc9.size
      omega
    · exact h.2
   sub := fun k hk => .inl (h1.sub k hk)
   rep := h1.rep.keep hc9 (fun k hk _ h => h.2.1 hk) (fun k hk _ => hk)
   f12 := h1.f12
   k1 := cell_chg h1.k1 hc9 (fun h => h.2.1 h1.f12.1)
   k2 := cell_chg h1.k2 hc9 (fun h => h.2.1 h1.f12.2)
   fg := ⟨.inl h1.fg.1, h1.fg.2⟩
   kg := cell_chg h1.kg hc9 (fun h => h.2.2 rfl)
   fo := ⟨.inl h1.fo.1, h1.fo.2⟩
   out := by
    rw [HYES.out]
    refine ⟨A8, c8, ?_, ?_⟩
    · rw [e1]
      refine (HCE8.out.set 0 _).congr fun j hj => ?_
      have : j = 0 := by omega
      subst this; rfl
    · exact (show DocS _ _ A8 c8 (o0 ++ [d]) from ⟨hD8.1.setFar hne8 _, hD8.2⟩).keep (Chg.refl (fun _ => False) _) (fun _ _ _ h => h) (fun k hk hl => ⟨hk.1.imp id (fun h => ⟨h, hl⟩), hk.2⟩) }
  · rw [HW.out]
    exact ⟨A, c, rfl, HTL.out.1.chg hc9 (fun b o hA h => by have h2 := HTL.out.2.2.2.2 b o hA; have h3 := HS.out.lt b h.1; omega), HTL.out.2.1, HTL.out.2.2.1, HTL.out.2.2.2.1⟩
theorem getter_there (F0 : Nat → Prop) (r b1 b2 bg bo : Nat) (R : List Kn) (gone : Gid) (hl : R.length ≤ 1073741824) (hz : ∀ x ∈ R, x.b.length ≤ 140737488351300) :
 GetterN 268435456 62 (.pointer (some ⟨bg, 0, none⟩)) (.pointer (some ⟨bo, 0, none⟩)) (withoutK R gone) (ThSt F0 r b1 b2 bg bo R gone) where
 ent := fun W args => enters_of Tryz.func62 (by kernel_rfl) rfl _ _
 low := fun h => h.lt
 keep := fun h hc hS => h.keep hc hS
 call := fun {F qs w} d hq h => there1_any F0 F r b1 b2 bg bo R gone d qs w h hq hl hz
end Go.Proofs.YtihanglnjghcfaaGreatDoor
namespace Go.Proofs.YtihanglnjghcfaaGreatDoor
open Go.RowKit Go.Maps
set_option linter.unusedVariables false
set_option linter.unusedSimpArgs false

theorem addG_ids2 (l : List Git) (k : Glk) : (addG l k).1.map (·.id) = if k.id ∈ l.map (·.id) then l.map (·.id) else l.map (·.id) ++ [k.id] := by
 unfold addG
 cases hat : atG l k.id with
 | none =>
  rw [if_neg (fun h => by have := atG_mem.2 h; rw [hat] at this; cases this)]
  simp
 | some i =>
  rw [if_pos (atG_mem.1 (by rw [hat]; rfl))]
  dsimp only
  split
  · rw [modify_ids]
  · rfl
theorem linksW_easy : ∀ (ks : List Glk) (l : List Git), (linksW true l ks).1.map (·.id) = parG (l.map (·.id)) (ks.map (·.id))
 | [], l => rfl
 | k :: ks, l => by
  have e : linksW true l (k :: ks) = linksW true (addG l k).1 ks := by
   conv => lhs; unfold linksW
   rw [if_neg (by simp)]
  have e2 : parG (l.map (·.id)) ((k :: ks).map (·.id)) = parG (if k.id ∈ l.map (·.id) then l.map (·.id) else l.map (·.id) ++ [k.id]) (ks.map (·.id)) := rfl
  rw [e, linksW_easy ks, addG_ids2, e2]
theorem look_easy {G : Gid → Option Gob} {l : List Git} {i : Nat} {d : Gid} (h : (l.map (·.id))[i]? = some d) : (lookW true G (l.modify i fun y => ⟨y.id, 0⟩) i).1.map (·.id) = thStep G (l.map (·.id)) d := by
 rw [List.getElem?_map] at h
 obtain ⟨x, hx, rfl⟩ := Option.map_eq_some_iff.1 h
 have hm : (l.modify i fun y => (⟨y.id, 0⟩ : Git))[i]? = some ⟨x.id, 0⟩ := by rw [List.getElem?_modify, hx]; simp
 unfold lookW thStep
 rw [hm]
 dsimp only
 cases hg : G x.id with
 | none => dsimp only; rw [modify_ids]
 | some o =>
  dsimp only
  cases hk : o.lk with
  | none =>
   dsimp only
   rw [modify_ids, show idsG o = [] by unfold idsG; rw [hk]]; rfl
  | some ks =>
   dsimp only
   rw [if_neg (by simp), linksW_easy, modify_ids, modify_ids, show idsG o = ks.map (·.id) by unfold idsG; rw [hk]]
/-- The program's walk from place i on ends with such a list. -/
inductive ThRun (G : Gid → Option Gob) : Nat → List Gid → List Gid → Prop
 | done {i : Nat} {L : List Gid} (h : L.length ≤ i) : ThRun G i L L
 | step {i : Nat} {L M : List Gid} {d : Gid} (h : L[i]? = some d) (n : ThRun G (i + 1) (thStep G L d) M) : ThRun G i L M
/-- The document's. -/
inductive ThRunD (G : Gid → Option Gob) : Nat → List Gid → List Gid → Prop
 | done {i : Nat} {L : List Gid} (h : L.length ≤ i) : ThRunD G i L L
 | step {i : Nat} {L M : List Gid} {d : Gid} (h : L[i]? = some d) (n : ThRunD G (i + 1) (thStepD G L d) M) : ThRunD G i L M
theorem ThRunD.one {G : Gid → Option Gob} {i : Nat} {L M M' : List Gid} (h : ThRunD G i L M) (h' : ThRunD G i L M') : M = M' := by
 induction h generalizing M' with
 | done hl =>
  cases h' with
  | done => rfl
  | step hx _ => rw [List.getElem?_eq_none hl] at hx; cases hx
 | step hx _ ih =>
  cases h' with
  | done hl => rw [List.getElem?_eq_none hl] at hx; cases hx
  | step hy n =>
   rw [hx] at hy
   injection hy with hy
   subst hy
   exact ih n
theorem ThRun.nodup {G : Gid → Option Gob} {i : Nat} {L M : List Gid} (h : ThRun G i L M) (hn : L.Nodup) : M.Nodup := by
 induction h with
 | done => exact hn
 | step hx _ ih =>
  refine ih ?_
  unfold thStep
  split
  · exact hn
  · exact parG_nodup _ _ hn
theorem ThRun.filter {G : Gid → Option Gob} {i : Nat} {L M : List Gid} (h : ThRun G i L M) : ThRunD G ((L.take i).filter (thereB G)).length (L.filter (thereB G)) (M.filter (thereB G)) := by
 induction h with
 | done hl => exact .done (by rw [List.take_of_length_le hl]; exact Nat.le_refl _)
 | @step i L M d hx _ ih =>
  obtain ⟨t, ht⟩ : ∃ t, thStep G L d = L ++ t := by
   unfold thStep
   split
   · exact ⟨[], by simp⟩
   · exact parG_pre _ _
  have hil : i < L.length := (List.getElem?_eq_some_iff.1 hx).1
  have htk : (thStep G L d).take (i + 1) = L.take i ++ [d] := by
   rw [ht, List.take_append_of_le_length (by omega), List.take_add_one, hx]; rfl
  rw [htk, List.filter_append] at ih
  cases hd : thereB G d with
  | true =>
   have h1 : [d].filter (thereB G) = [d] := by simp [hd]
   rw [h1, List.length_append, thStep_filter] at ih
   refine .step ?_ ih
   have hL : L = L.take i ++ d :: L.drop (i + 1) := by
    have h2 : L.drop i = d :: L.drop (i + 1) := by rw [List.drop_eq_getElem_cons hil, (List.getElem?_eq_some_iff.1 hx).2]
    rw [← h2, List.take_append_drop]
   have hf : L.filter (thereB G) = (L.take i).filter (thereB G) ++ d :: (L.drop (i + 1)).filter (thereB G) := by
    conv => lhs; rw [hL]
    rw [List.filter_append, List.filter_cons_of_pos (by simp [hd])]
   rw [hf, List.getElem?_append_right (Nat.le_refl _), Nat.sub_self]
   rfl
  | false =>
   have h1 : [d].filter (thereB G) = [] := by simp [hd]
   rw [h1, List.append_nil, thStep_not G L d hd] at ih
   exact ih
theorem rootsP_ids : ∀ (rs : List Gid) (l : List Git), (rootsP l rs).map (·.id) = parG (l.map (·.id)) rs
 | [], l => rfl
 | r :: rs, l => by
  have e : rootsP l (r :: rs) = rootsP (addG l ⟨r, 0⟩).1 rs := rfl
  have e2 : parG (l.map (·.id)) (r :: rs) = parG (if r ∈ l.map (·.id) then l.map (·.id) else l.map (·.id) ++ [r]) rs := rfl
  rw [e, rootsP_ids rs, addG_ids2, e2]
theorem sub_modify {U : List Gid} {l : List Git} (h : SubU U l) (i : Nat) (k : Int) : SubU U (l.modify i fun y => ⟨y.id, k⟩) := fun x hx => by
 have hm : x.id ∈ (l.modify i fun y => (⟨y.id, k⟩ : Git)).map (·.id) := List.mem_map_of_mem hx
 rw [modify_ids] at hm
 obtain ⟨z, hz, he⟩ := List.mem_map.1 hm
 rw [← he]; exact h z hz
theorem one_modify {l : List Git} (h : OneG l) (i : Nat) (k : Int) : OneG (l.modify i fun y => ⟨y.id, k⟩) := by
 unfold OneG at *
 rw [modify_ids]; exact h
theorem setEasy {w : World} {K : Nat → Prop} {g : Nat} {get : Value} {easy : Bool} {l : List Git} (h : WalkAt w K g get easy l) (b : Bool) : WalkAt (w.setCell ⟨g, 3, none⟩ (.bool b)) K g get b l := by
 obtain ⟨hg, A, c, m, n, hce, how, hoK, hmp, hnl, hmK⟩ := h
 refine ⟨hg, A, c, m, n, ?_, how.setFar (how.ne_cel hce (by decide)) _, hoK, hmp.setCell (fun e => hce.ne_map hmp e.symm) _, hnl, hmK⟩
 refine (hce.set 3 _).congr fun j hj => ?_
 have : j = 0 ∨ j = 1 ∨ j = 2 ∨ j = 3 := by omega
 rcases this with rfl | rfl | rfl | rfl <;> rfl
theorem setGet {w : World} {K : Nat → Prop} {g : Nat} {get : Value} {easy : Bool} {l : List Git} (h : WalkAt w K g get easy l) (v : Value) : WalkAt (w.setCell ⟨g, 0, none⟩ v) K g v easy l := by
 obtain ⟨hg, A, c, m, n, hce, how, hoK, hmp, hnl, hmK⟩ := h
 refine ⟨hg, A, c, m, n, ?_, how.setFar (how.ne_cel hce (by decide)) _, hoK, hmp.setCell (fun e => hce.ne_map hmp e.symm) _, hnl, hmK⟩
 refine (hce.set 0 _).congr fun j hj => ?_
 have : j = 0 ∨ j = 1 ∨ j = 2 ∨ j = 3 := by omega
 rcases this with rfl | rfl | rfl | rfl <;> rfl
theorem WalkAt.cells {w : World} {K : Nat → Prop} {g : Nat} {get : Value} {easy : Bool} {l : List Git} (h : WalkAt w K g get easy l) : w.cell? ⟨g, 0, none⟩ = some get ∧ w.cell? ⟨g, 3, none⟩ = some (.bool easy) ∧ w.frozen? ⟨g, 0, none⟩ = false ∧ w.frozen? ⟨g, 3, none⟩ = false ∧ g < w.heap.size := by
 obtain ⟨_, _, _, _, _, hce, _⟩ := h
 exact ⟨hce.cell 0 (by decide), hce.cell 3 (by decide), hce.frozen 0, hce.frozen 3, hce.blk⟩
/-- An item's kind set anew. -/
theorem WalkAt.kind {w : World} {K : Nat → Prop} {g i : Nat} {get : Value} {easy : Bool} {l : List Git} {x : Git} (h : WalkAt w K g get easy l) (hx : l[i]? = some x) (u : Int) :
 ∃ b o c, w.cell? ⟨g, 1, none⟩ = some (.slice (some ⟨b, o, none⟩) l.length c) ∧ w.cell? ⟨b, o + i * 2 + 1, none⟩ = some (.int .i64 x.kd) ∧ w.frozen? ⟨b, o + i * 2 + 1, none⟩ = false ∧
  WalkAt (w.setCell ⟨b, o + i * 2 + 1, none⟩ (.int .i64 u)) K g get easy (l.modify i fun y => ⟨y.id, u⟩) ∧ Chg K w (w.setCell ⟨b, o + i * 2 + 1, none⟩ (.int .i64 u)) := by
 obtain ⟨hg, A, c, m, n, hce, how, hoK, hmp, hnl, hmK⟩ := h
 obtain ⟨b, o, rfl, _, hbl, hcl⟩ := OwnS.flat itV_len (by decide) how hx
 have hil : i < l.length := (List.getElem?_eq_some_iff.1 hx).1
 have hfl := flat_len 2 itV itV_len l
 have hfr := how.free (j := i * 2 + 1) (by rw [hfl]; omega)
 rw [← Nat.add_assoc] at hfr
 exact ⟨b, o, c, hce.cell 1 (by decide), hcl 1 (by decide), hfr.1, setKind hg hce how hoK hmp hnl hmK hx u⟩
set_option maxRecDepth 100000 in
set_option maxHeartbeats 2000000 in
theorem beginN_any (A : Option Addr) (n c : Nat) (rs : List Gid) (w : World) (hR : StrsAt w A (rs.map bk)) (hn : rs.length = n) (hl : n ≤ 268435456) (hs : ∀ r ∈ rs, r.length ≤ 1099511627776) :
 Calls Tryz.prog 35 #[.nilFunc, .slice A n c] w fun e w' => Below w.heap.size w w' ∧ ∃ g, e = .returned (.pointer (some ⟨g, 0, none⟩)) ∧ WalkAt w' (fun k => w.heap.size ≤ k) g (.nilFunc) false (rootsP [] rs) := by
 have HR := Lib.hid hR
 have HS := Lib.hid hs
 have HL := Lib.hid hl
 have HN := Lib.hid hn
 clear hR hs hl hn
 have hmm := @run_makeMap Tryz.prog
 go_enter Tryz.func35, Tryz.ntmps35
 go_upto_region 2 with (fail)
 have hW0 : WalkAt ((w.alloc (.map #[] 0)).alloc (.cells #[.nilFunc, .slice none 0 0, .map (some w.heap.size), .bool false] 84)) (fun k => w.heap.size ≤ k) (w.heap.size + 1) (.nilFunc) false [] := by
  have hsz : (w.alloc (.map #[] 0)).heap.size = w.heap.size + 1 := by simp
  have hm := MapI.new w
  have hml := hm.lt
  have hm2 := hm.same (w' := (w.alloc (.map #[] 0)).alloc (.cells #[.nilFunc, .slice none 0 0, .map (some w.heap.size), .bool false] 84)) (heap_alloc_old _ _ hml)
  have hc := Cel.new (w.alloc (.map #[] 0)) 84 #[.nilFunc, .slice none 0 0, .map (some w.heap.size), .bool false] (walF (.nilFunc) (.slice none 0 0) (.map (some w.heap.size)) (.bool false)) (fun i hi => by
   have : i = 0 ∨ i = 1 ∨ i = 2 ∨ i = 3 := by simp at hi; omega
   rcases this with rfl | rfl | rfl | rfl <;> rfl)
  rw [hsz] at hc
  exact ⟨Nat.le_succ _, none, 0, w.heap.size, 0, hc, OwnS.nil _ _ _ _, fun k hk => by simp [Value.ownBlock] at hk, hm2, Nat.le_refl _, Nat.le_refl _⟩
 have hB0 : Below w.heap.size w ((w.alloc (.map #[] 0)).alloc (.cells #[.nilFunc, .slice none 0 0, .map (some w.heap.size), .bool false] 84)) := ((Below.refl _ _).alloc (Nat.le_refl _) _).alloc (by simp) _
 generalize (w.alloc (.map #[] 0)).alloc (.cells #[.nilFunc, .slice none 0 0, .map (some w.heap.size), .bool false] 84) = w1 at *
 generalize hg : w.heap.size + 1 = g at *
 have HW0 := Lib.hid hW0
 have HB0 := Lib.hid hB0
 clear hW0 hB0 hmm hg
 go_wp2
 go_loopw [14] (fun vn wr => ∃ j : Nat, vn = .int .i64 j ∧ j ≤ n ∧ WalkAt wr (fun k => w.heap.size ≤ k) g (.nilFunc) false (rootsP [] (rs.take j)) ∧ Below w.heap.size w wr) (fun vn _ => n - (intOf vn).toNat)
 case atStart => exact ⟨0, rfl, by omega, HW0.out, HB0.out⟩
 case round =>
  obtain ⟨j, rfl, hj, hw, hb⟩ := hrel
  have HW := Lib.hid hw
  have HB := Lib.hid hb
  clear hw hb
  by_cases hlt : j < n
  · have d1 : decide ((j : Int) < (n : Int)) = true := decide_eq_true (by omega)
    have d1' : decide (j < n) = true := decide_eq_true hlt
    have hjr : j < rs.length := by rw [HN.out]; exact hlt
    obtain ⟨b, o, hA, hbl, hcl⟩ := HR.out (by rw [List.length_map]; omega)
    subst hA
    have hc0 := hcl j (bk rs[j]) (by rw [List.getElem?_map, List.getElem?_eq_getElem hjr]; rfl)
    have hrs := HS.out rs[j] (List.getElem_mem hjr)
    have HTK : Hid (rootsP [] (rs.take (j + 1)) = (addG (rootsP [] (rs.take j)) ⟨rs[j], 0⟩).1) := Lib.hid (by rw [List.take_add_one, List.getElem?_eq_getElem hjr]; exact rootsP_snoc _ _ _)
    have hln := rootsP_len (rs.take j) []
    have HADD := Lib.hid (add_any _ g _ false (rootsP [] (rs.take j)) ⟨rs[j], 0⟩ wr HW.out (fun k hk => by have := HB.out.size; omega) (by have h1 := HL.out; simp only [List.length_take, List.length_nil] at hln; omega) hrs)
    dsimp only at HADD
    generalize rs[j] = r at *
    have f0 := (HB.out.cell (p := ⟨b, o + j, none⟩) hbl).trans hc0
    have hle : ¬ (n : Int) ≤ j := by omega
    have hn0 : (0 : Int) ≤ j := by omega
    have hnl : (j : Int) < n := by omega
    have hw1 : IntKind.i64.wrap ((j : Int) + 1) = (j : Int) + 1 := IntWalk.i64_in _ (by have := HL.out; omega)
    clear hcl hc0 hrs hln hbl hjr
    go_wp2_with fail
    refine HADD.out.mono ?_
    rintro e w2 ⟨rfl, hw2, hc2⟩
    have HW2 := Lib.hid hw2
    have HB2 := Lib.hid (HB.out.trans (hc2.below HB.out.size (fun k hk h => by omega)))
    clear hw2 hc2
    go_wp2
    go_roundw
    case rel => exact ⟨j + 1, rfl, hlt, by rw [HTK.out]; exact HW2.out, HB2.out⟩
    case measure => simp [intOf]; omega
  · have d1 : decide ((j : Int) < (n : Int)) = false := decide_eq_false (by omega)
    have d1' : decide (j < n) = false := decide_eq_false hlt
    have HTK : Hid (rs.take j = rs) := Lib.hid (List.take_of_length_le (by have := HN.out; omega))
    go_wp2
    go_ret
    exact ⟨HB.out, g, rfl, by have := HW.out; rwa [HTK.out] at this⟩
end Go.Proofs.YtihanglnjghcfaaGreatDoor
namespace Go.Proofs.YtihanglnjghcfaaGreatDoor
open Go.RowKit Go.Maps
set_option linter.unusedVariables false
set_option linter.unusedSimpArgs false

theorem own_base {w : World} {B size n c : Nat} {e : TypeId} {A : Option Addr} {xs : List Value} (h : OwnS w 0 e size (.slice A n c) n xs) (hK : ∀ k, Value.ownBlock (.slice A n c) = some k → B ≤ k) : OwnS w B e size (.slice A n c) n xs := by
 refine ⟨h.1, ?_⟩
 rcases h.2 with hh | ⟨g, off, cap, cur, hv, _, h1, h2, h3, h4, h5⟩
 · exact .inl hh
 · exact .inr ⟨g, off, cap, cur, hv, hK g (by rw [hv]; rfl), h1, h2, h3, h4, h5⟩
end Go.Proofs.YtihanglnjghcfaaGreatDoor
