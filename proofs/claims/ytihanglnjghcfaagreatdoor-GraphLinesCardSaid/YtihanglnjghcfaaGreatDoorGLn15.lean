/- What hangs on some IDs as far as it is there: the program's There. -/
import Derived.Test.YtihanglnjghcfaaGreatDoorGLn14
import Derived.Test.YtihanglnjghcfaaGreatDoorGLn2
import Derived.Test.YtihanglnjghcfaaGreatDoorGLn13
import Derived.Ground.SlgfProg
import Derived.Shelf.SlicesE.DeleteFunc
import Derived.Shelf.Spec.SearchS
import Derived.Test.YtihanglnjghcfaaGreatDoorProg
import Derived.Test.YtihanglnjghcfaaGreatDoorGLn11
namespace Go.Proofs.YtihanglnjghcfaaGreatDoor
open Go.RowKit Go.Maps
set_option linter.unusedVariables false
set_option linter.unusedSimpArgs false

/-- What the walk keeps from round to round. -/
structure ThI (F0 : Nat → Prop) (r b1 b2 bg bo : Nat) (R : List Kn) (gone : Gid) (U rs : List Gid) (get : Value) (w : World) (g i : Nat) (l : List Git) (F1 : Nat → Prop) (wr : World) : Prop where
 st : ThSt F0 r b1 b2 bg bo R gone F1 ((l.map (·.id)).take i) wr
 sub : ∀ k, F1 k → F0 k ∨ w.heap.size ≤ k
 chg : Chg F0 w wr
 at' : WalkAt wr (KOf w.heap.size F1) g get true l
 run : ∀ M, ThRun (gobG (withoutK R gone)) i (l.map (·.id)) M → ThRun (gobG (withoutK R gone)) 0 (parG [] rs) M
 one : OneG l
 inU : SubU U l
 le : i ≤ l.length
def TherePost (F0 : Nat → Prop) (r b1 b2 : Nat) (R : List Kn) (gone : Gid) (rs : List Gid) (w : World) (e : Ending) (w' : World) : Prop :=
 GetSt r b1 b2 R gone F0 [] w' ∧ Chg F0 w w' ∧ ∃ M A, ThRun (gobG (withoutK R gone)) 0 (parG [] rs) M ∧ M.length ≤ 268435456 ∧ e = .returned (.slice A (thOut (withoutK R gone) M).length (thOut (withoutK R gone) M).length) ∧
  OwnS w' w.heap.size 9 1 (.slice A (thOut (withoutK R gone) M).length (thOut (withoutK R gone) M).length) (thOut (withoutK R gone) M).length (strVs (sortG (thOut (withoutK R gone) M)))
set_option maxRecDepth 100000 in
set_option maxHeartbeats 8000000 in
theorem there_any (hSo : SortsS) (F0 : Nat → Prop) (r b1 b2 : Nat) (R : List Kn) (gone : Gid) {U : List Gid} (hU : Univ (withoutK R gone) U) (w : World) (hst : GetSt r b1 b2 R gone F0 [] w) (hE : EnvO w) (h1 : ¬ F0 1) (h2 : ¬ F0 2)
 (A : Option Addr) (n c : Nat) (rs : List Gid) (hR : StrsAt w A (rs.map bk)) (hn : rs.length = n) (hl : n ≤ 268435456) (hs : ∀ r ∈ rs, r.length ≤ 1099511627776) (hrU : ∀ r ∈ rs, r ∈ U) (hRl : R.length ≤ 1073741824) (hz : ∀ x ∈ R, x.b.length ≤ 268435456) :
 Calls Tryz.prog 43 #[fnV 38 (.pointer (some ⟨b1, 0, none⟩)) (.pointer (some ⟨b2, 0, none⟩)), .slice A n c] w (TherePost F0 r b1 b2 R gone rs w) := by
 have hb0 : Below w.heap.size w (w.alloc (.cells #[.func (.func 38) #[] #[.pointer (some ⟨b1, 0, none⟩), .pointer (some ⟨b2, 0, none⟩)]] 38)) := (Below.refl _ _).alloc (Nat.le_refl _) _
 have hg0 : (w.alloc (.cells #[.func (.func 38) #[] #[.pointer (some ⟨b1, 0, none⟩), .pointer (some ⟨b2, 0, none⟩)]] 38)).cell? ⟨w.heap.size, 0, none⟩ = some (.func (.func 38) #[] #[.pointer (some ⟨b1, 0, none⟩), .pointer (some ⟨b2, 0, none⟩)]) := by rw [World.cell?_alloc_at _ _ _ _ (by simp)]; rfl
 have hs0 : (w.alloc (.cells #[.func (.func 38) #[] #[.pointer (some ⟨b1, 0, none⟩), .pointer (some ⟨b2, 0, none⟩)]] 38)).heap.size = w.heap.size + 1 := by simp
 have HBE := Lib.hid (beginN_any A n c rs (w.alloc (.cells #[.func (.func 38) #[] #[.pointer (some ⟨b1, 0, none⟩), .pointer (some ⟨b2, 0, none⟩)]] 38)) (hR.below hb0) hn hl hs)
 have HSO := Lib.hid hSo
 have HU := Lib.hid hU
 have HST := Lib.hid hst
 have HE := Lib.hid hE
 have HT := Lib.hid (And.intro hE.lt (And.intro h1 h2))
 have HRU := Lib.hid hrU
 have HGT := Lib.hid (fun (bg bo : Nat) => getter_there F0 r b1 b2 bg bo R gone hRl (fun x hx => by have := hz x hx; omega))
 have HZ := Lib.hid hz
 have HB0 := Lib.hid (And.intro hb0 (And.intro hg0 hs0))
 clear hSo hU hst hE h1 h2 hR hn hl hs hrU hRl hz hb0 hg0 hs0
 unfold fnV
 go_enter Tryz.func43, Tryz.ntmps43
 go_wp2_with fail
 refine HBE.out.mono ?_
 rintro e w2 ⟨hb2, g, rfl, hw2⟩
 generalize w.alloc (.cells #[.func (.func 38) #[] #[.pointer (some ⟨b1, 0, none⟩), .pointer (some ⟨b2, 0, none⟩)]] 38) = w1 at *
 have HB2 := Lib.hid hb2
 have HW2 := Lib.hid hw2
 have hgw : w1.heap.size ≤ g := hw2.1
 have HGW := Lib.hid hgw
 obtain ⟨_, k3, _, z3, hg2⟩ := hw2.cells
 have HG2 := Lib.hid hg2
 clear hb2 hw2 hgw hg2 HBE
 go_upto_region 3 with (fail)
 have hw3 := setEasy HW2.out true
 have hb3 : Below w1.heap.size w1 (w2.setCell ⟨g, 3, none⟩ (.bool true)) := HB2.out.setCell HGW.out _
 have hs3 : (w2.setCell ⟨g, 3, none⟩ (.bool true)).heap.size = w2.heap.size := by simp
 generalize w2.setCell ⟨g, 3, none⟩ (.bool true) = w3 at *
 have hbA : Below w3.heap.size w3 (w3.alloc (.cells #[.slice none 0 0] 32)) := (Below.refl _ _).alloc (Nat.le_refl _) _
 have hcA := Cel.new w3 32 #[.slice none 0 0] (oneF (.slice none 0 0)) (fun j hj => by
  have : j = 0 := by simp at hj; omega
  subst this; rfl)
 have hw4 := hw3.keep (K' := fun k => w1.heap.size ≤ k ∧ k < w3.heap.size) (Chg.of_below (S := fun k => w3.heap.size ≤ k) hbA) (fun k _ h1 h2 => by omega) (fun k hk hl => ⟨hk, hl⟩)
 obtain ⟨k0, _, z0, _, hg4⟩ := hw4.cells
 have HW4 := Lib.hid hw4
 have HB3 := Lib.hid hb3
 have HCA := Lib.hid hcA
 have HBA := Lib.hid hbA
 have HS3 := Lib.hid hs3
 clear hw3 hb3 hs3 hbA hcA hw4 hg4 k3 z3
 go_upto_region 5 with (fail)
 have hw5 := setGet HW4.out (fnV 62 (.pointer (some ⟨w.heap.size, 0, none⟩)) (.pointer (some ⟨w3.heap.size, 0, none⟩)))
 have hc5 := HCA.out.setFar (a := ⟨g, 0, none⟩) (by have := HG2.out; have := HS3.out; show w3.heap.size ≠ g; omega) (fnV 62 (.pointer (some ⟨w.heap.size, 0, none⟩)) (.pointer (some ⟨w3.heap.size, 0, none⟩)))
 have hb5 := (HB3.out.trans (HBA.out.mono HB3.out.size)).setCell (p := ⟨g, 0, none⟩) HGW.out (fnV 62 (.pointer (some ⟨w.heap.size, 0, none⟩)) (.pointer (some ⟨w3.heap.size, 0, none⟩)))
 unfold fnV at hw5 hc5 hb5
 generalize (w3.alloc (.cells #[.slice none 0 0] 32)).setCell ⟨g, 0, none⟩ (.func (.func 62) #[] #[.pointer (some ⟨w.heap.size, 0, none⟩), .pointer (some ⟨w3.heap.size, 0, none⟩)]) = w5 at *
 have hB5 : Below w.heap.size w w5 := HB0.out.1.trans (hb5.mono HB0.out.1.size)
 have HI0 : Hid (ThI F0 r b1 b2 w.heap.size w3.heap.size R gone U rs (.func (.func 62) #[] #[.pointer (some ⟨w.heap.size, 0, none⟩), .pointer (some ⟨w3.heap.size, 0, none⟩)]) w g 0 (rootsP [] rs) (fun k => F0 k ∨ k = w.heap.size ∨ k = w3.heap.size) w5) := Lib.hid (by
  have hs1 := HB0.out.2.2
  have h13 := HB3.out.size
  have hlt := HST.out.1
  have hne : ∀ k, F0 k → ¬ w.heap.size ≤ k := fun k hk => Nat.not_le.2 (hlt k hk)
  have hcB : Chg (fun k => w.heap.size ≤ k) w w5 := Chg.of_below hB5
  have hsz5 := hc5.blk
  exact {
   st := {
    lt := fun k hk => by
     rcases hk with h | h | h
     · have := hlt k h; have := hB5.size; omega
     · omega
     · omega
    sub := fun k hk => .inl hk
    rep := HST.out.2.1.keep hcB (fun k hk _ => hne k hk) (fun k hk _ => hk)
    f12 := ⟨HST.out.2.2.1, HST.out.2.2.2.1⟩
    k1 := cell_chg HST.out.2.2.2.2.1 hcB (hne _ HST.out.2.2.1)
    k2 := cell_chg HST.out.2.2.2.2.2 hcB (hne _ HST.out.2.2.2.1)
    fg := ⟨.inr (.inl rfl), fun h => by have := hlt _ h; omega⟩
    kg := (hb5.cell (p := ⟨w.heap.size, 0, none⟩) (by show w.heap.size < _; omega)).trans HB0.out.2.1
    fo := ⟨.inr (.inr rfl), fun h => by have := hlt _ h; omega, by omega⟩
    out := ⟨none, 0, hc5, DocS.nil _ _⟩ }
   sub := fun k hk => by
    rcases hk with h | h | h
    · exact .inl h
    · exact .inr (by omega)
    · exact .inr (by omega)
   chg := Chg.of_below hB5
   at' := hw5.keep (Chg.refl (fun _ => False) _) (fun _ _ _ h => h) (fun k hk _ => ⟨by have := hk.1; omega, fun h => by
    rcases h with h | h | h
    · have := hlt k h; have := hk.1; omega
    · have := hk.1; omega
    · have := hk.2; omega⟩)
   run := fun M h => by rw [rootsP_ids] at h; exact h
   one := rootsP_one rs [] List.Pairwise.nil
   inU := rootsP_sub rs [] (fun x hx => by simp at hx) HRU.out
   le := Nat.zero_le _ })
 clear hw5 hc5 hb5 hB5 k0 z0
 generalize hbo : w3.heap.size = bo at *
 generalize hbg : w.heap.size = bg at HI0
 have HBG : Hid (bg = w.heap.size) := Lib.hid hbg.symm
 go_wp2
 go_loopw [7] (fun vn wr => ∃ (i : Nat) (l : List Git) (F1 : Nat → Prop), vn = .int .i64 i ∧ ThI F0 r b1 b2 bg bo R gone U rs (.func (.func 62) #[] #[.pointer (some ⟨bg, 0, none⟩), .pointer (some ⟨bo, 0, none⟩)]) w g i l F1 wr) (fun vn _ => U.length - (intOf vn).toNat)
 case atStart => exact ⟨0, _, _, rfl, HI0.out⟩
 case round =>
  clear HI0 HW2 HW4 HB2 HB3 HB0 HCA HBA HS3 HG2 HGW
  obtain ⟨i, l, F1, rfl, hI⟩ := hrel
  have HI := Lib.hid hI
  have HLU := Lib.hid (And.intro (sub_len hI.one hI.inU) HU.out.num)
  clear hI
  generalize wr = w6 at *
  by_cases hlt : i < l.length
  · have d1 : decide ((i : Int) < (l.length : Int)) = true := decide_eq_true (by omega)
    have d1' : decide (i < l.length) = true := decide_eq_true hlt
    have HLT := Lib.hid hlt
    obtain ⟨x, hx⟩ : ∃ x, l[i]? = some x := ⟨_, List.getElem?_eq_getElem hlt⟩
    obtain ⟨b, o, c2, k1, f1, fz, hwk, hck⟩ := HI.out.at'.kind hx 0
    have HX := Lib.hid hx
    have HWK := Lib.hid hwk
    have HCK := Lib.hid hck
    have hle : ¬ (l.length : Int) ≤ i := by omega
    have hn0 : (0 : Int) ≤ i := by omega
    have hnl : (i : Int) < l.length := by omega
    have hw1 : IntKind.i64.wrap ((i : Int) + 1) = (i : Int) + 1 := IntWalk.i64_in _ (by have := HLU.out; omega)
    clear hx hwk hck hlt
    go_upto_region 9 with (fail)
    generalize w6.setCell ⟨b, o + i * 2 + 1, none⟩ (.int .i64 0) = w7 at *
    clear k1 f1 fz
    have HC7 : Hid (Chg F0 w w7) := Lib.hid (HI.out.chg.trans HCK.out (fun k hk h => by have := h.1; omega))
    have hS7 := HI.out.st.keep HCK.out (fun k hk h => h.2 hk)
    have hx7 : (l.modify i fun y => (⟨y.id, 0⟩ : Git))[i]? = some ⟨x.id, 0⟩ := by rw [List.getElem?_modify, HX.out]; simp
    have hxi : (l.map (·.id))[i]? = some x.id := by rw [List.getElem?_map, HX.out]; rfl
    have HIDS := Lib.hid (look_easy (G := gobG (withoutK R gone)) hxi)
    have HXI := Lib.hid hxi
    have HLK := Lib.hid (lookN_any (HGT.out bg bo) F1 ((l.map (·.id)).take i) w7 w.heap.size g i true (l.modify i fun y => ⟨y.id, 0⟩) ⟨x.id, 0⟩
     (by rw [List.length_take]; have h1 := HLU.out; have h2 := HLT.out; omega) hS7 (HE.out.chg HC7.out HT.out.2.1 HT.out.2.2) HT.out.1.1 HT.out.1.2
     (fun h => by rcases HI.out.sub _ h with h | h; exact HT.out.2.1 h; have := HT.out.1.1; omega) (fun h => by rcases HI.out.sub _ h with h | h; exact HT.out.2.2 h; have := HT.out.1.2; omega)
     HC7.out.size HWK.out hx7 (by rw [List.length_modify]; have := HLU.out; omega) (fun o ho => HU.out.sz _ o ho))
    have HON := Lib.hid (lookW_one true (gobG (withoutK R gone)) i (one_modify HI.out.one i 0))
    have HSU := Lib.hid (lookW_sub HU.out true i (sub_modify HI.out.inU i 0))
    rw [show (fun d => (withoutK R gone d).map gobK) = gobG (withoutK R gone) from rfl] at HLK
    unfold fnV at HLK
    unfold LookPost at HLK
    clear hS7 hx7 hxi
    go_wp2_with fail
    refine HLK.out.mono ?_
    generalize lookW true (gobG (withoutK R gone)) (l.modify i fun y => ⟨y.id, 0⟩) i = RR at *
    rintro e w8 ⟨rfl, F2, hs8, hf8, hc8, hw8⟩
    obtain ⟨m, er⟩ := RR
    dsimp only at *
    have HFI : Hid (ThI F0 r b1 b2 bg bo R gone U rs (.func (.func 62) #[] #[.pointer (some ⟨bg, 0, none⟩), .pointer (some ⟨bo, 0, none⟩)]) w g (i + 1) m F2 w8) := Lib.hid (by
     obtain ⟨t, ht⟩ : ∃ t, m.map (·.id) = l.map (·.id) ++ t := by
      rw [HIDS.out]
      unfold thStep
      split
      · exact ⟨[], by simp⟩
      · exact parG_pre _ _
     have hil := HLT.out
     have hml : m.length = l.length + t.length := by have := congrArg List.length ht; simpa using this
     have hqs : (m.map (·.id)).take (i + 1) = (l.map (·.id)).take i ++ [x.id] := by
      rw [ht, List.take_append_of_le_length (by rw [List.length_map]; omega), List.take_add_one, HXI.out]; rfl
     exact {
      st := by rw [hqs]; exact hs8
      sub := fun k hk => by
       rcases hf8 k hk with h | h
       · exact HI.out.sub k h
       · have := HC7.out.size; exact .inr (by omega)
      chg := HC7.out.trans hc8 (fun k hk h => by
       rcases h with h | h
       · rcases HI.out.sub k h with h | h
         · exact h
         · omega
       · have := h.1; omega)
      at' := hw8
      run := fun M h => HI.out.run M (.step HXI.out (by rw [← HIDS.out]; exact h))
      one := HON.out
      inU := HSU.out
      le := by omega })
    clear hs8 hf8 hc8 hw8 HLK
    go_wp2
    go_roundw
    case rel => exact ⟨i + 1, m, F2, rfl, HFI.out⟩
    case measure => have := HLU.out; have := HLT.out; simp [intOf]; omega
  · have d1 : decide ((i : Int) < (l.length : Int)) = false := decide_eq_false (by omega)
    have d1' : decide (i < l.length) = false := decide_eq_false hlt
    have hst := HI.out.st
    rw [List.take_of_length_le (by rw [List.length_map]; omega)] at hst
    have HRUN := Lib.hid (HI.out.run _ (.done (by rw [List.length_map]; omega)))
    have HML : Hid ((l.map (·.id)).length ≤ 268435456) := Lib.hid (by rw [List.length_map]; have := HLU.out; omega)
    obtain ⟨_, A2, c2', _, _, hcew, _⟩ := HI.out.at'
    have k1 : w6.cell? ⟨g, 1, none⟩ = some (.slice A2 l.length c2') := hcew.cell 1 (by decide)
    have HS6 := Lib.hid hst
    generalize l.map (·.id) = M at *
    obtain ⟨A3, c3, hce, hdo⟩ := hst.out
    have ko : w6.cell? ⟨bo, 0, none⟩ = some (.slice A3 (thOut (withoutK R gone) M).length c3) := hce.cell 0 (by decide)
    have hnb : Value.ownBlock (.slice A3 (thOut (withoutK R gone) M).length c3) ≠ some bo := hdo.1.ne_cel hce (by decide)
    have hpl : ∀ k, Value.ownBlock (.slice A3 (thOut (withoutK R gone) M).length c3) = some k → w.heap.size ≤ k := fun k hk => by
     have h := hdo.2 k hk
     rcases HI.out.sub k h.1 with h2 | h2
     · exact absurd h2 h.2.1
     · exact h2
    have HPL := Lib.hid (And.intro hpl hnb)
    have hno : ∀ k, Value.ownBlock (.slice A3 (thOut (withoutK R gone) M).length c3) = some k → ¬ F0 k ∧ k ≠ bg := fun k hk => (hdo.2 k hk).2
    have HNO := Lib.hid hno
    have hol : (thOut (withoutK R gone) M).length ≤ 1073741824 := by have := thOut_len (withoutK R gone) M; have := HML.out; omega
    have HOL := Lib.hid hol
    have HSR := Lib.hid (HSO.out w6 w.heap.size A3 _ c3 _ (own_base hdo.1 hpl) hol)
    have HCE := Lib.hid hce
    have HCP := Lib.hid (And.intro hdo.1.cap hdo.1.capM)
    clear hst hcew hce hdo hnb hpl hno hol hlt
    go_wp2_with fail
    refine HSR.out.mono ?_
    rintro e w7 ⟨rfl, ho7, hc7⟩
    have ko7 : w7.cell? ⟨bo, 0, none⟩ = some (.slice A3 (thOut (withoutK R gone) M).length c3) := (HCE.out.chg hc7 (fun h => HPL.out.2 h)).cell 0 (by decide)
    have HO7 := Lib.hid ho7
    have HC7 := Lib.hid hc7
    have HCL := Lib.hid (clipS_any A3 (thOut (withoutK R gone) M).length c3 w7 HCP.out.1 HCP.out.2)
    clear ho7 hc7 k1 ko
    go_wp2_with fail
    refine HCL.out.mono ?_
    rintro e w8 ⟨rfl, hww⟩
    have hww2 := hww
    subst hww2
    go_wp2
    go_ret
    have hs := HS6.out
    have hnc : ∀ k, F0 k → ¬ Value.ownBlock (.slice A3 (thOut (withoutK R gone) M).length c3) = some k := fun k hk h => (HNO.out k h).1 hk
    refine ⟨⟨fun k hk => ?_, hs.rep.keep HC7.out (fun k hk _ => hnc k hk) (fun k hk _ => hk), hs.f12.1, hs.f12.2, cell_chg hs.k1 HC7.out (hnc _ hs.f12.1), cell_chg hs.k2 HC7.out (hnc _ hs.f12.2)⟩, HI.out.chg.trans HC7.out (fun k hk h => ?_), M, A3, HRUN.out, HML.out, rfl, HO7.out.clipN⟩
    · have h1 := hs.lt k (hs.sub k hk)
      have h2 := HC7.out.size
      omega
    · have := HPL.out.1 k h
      omega
end Go.Proofs.YtihanglnjghcfaaGreatDoor
namespace Go.Proofs.YtihanglnjghcfaaGreatDoor
open Go.RowKit Go.Maps
set_option linter.unusedVariables false
set_option linter.unusedSimpArgs false

theorem goG_one {G : Gid → Option Gob} {most : Int} : ∀ {n i : Nat} {l m : List Git}, goG G most n i l = .ok m → OneG l → OneG m
 | 0, i, l, m, h, h1 => by unfold goG at h; injection h with h; rw [← h]; exact h1
 | n + 1, i, l, m, h, h1 => by
  unfold goG at h
  split at h
  · split at h
    · cases h
    · split at h
      · cases h
      · rename_i hl
        exact goG_one h (lookG_one h1 hl)
  · injection h with h; rw [← h]; exact h1
theorem closR_one {G : Gid → Option Kn} {U : List Gid} {rs : List Gid} {most : Int} {m : List Git} (h : closR G U rs most = .ok m) : OneG m := goG_one h (rootsP_one rs [] List.Pairwise.nil)
theorem before_lt : ∀ a b : List UInt8, bytesBefore a b = true ↔ a < b
 | [], [] => by simp [bytesBefore]
 | _ :: _, [] => by simp [bytesBefore]
 | [], _ :: _ => by simp [bytesBefore]
 | a :: x, b :: y => by
  rw [List.cons_lt_cons_iff, ← before_lt x y]
  simp [bytesBefore]
theorem sortG_rise {L : List Gid} (h : L.Nodup) : Rise (sortG L) := by
 have hs : (sortG L).Pairwise fun x y => decide (x ≤ y) = true := List.pairwise_mergeSort (fun a b c h1 h2 => by simp only [decide_eq_true_eq] at *; exact List.le_trans h1 h2) (fun a b => by simp only [Bool.or_eq_true, decide_eq_true_eq]; exact List.le_total a b) L
 have hn : (sortG L).Nodup := (List.mergeSort_perm _ _).nodup_iff.2 h
 unfold Rise
 refine (hs.and hn).imp fun {a b} hab => ?_
 rw [before_lt]
 have h1 : a ≤ b := by simpa using hab.1
 exact Classical.byContradiction fun hn => hab.2 (List.le_antisymm h1 (List.not_lt.1 hn))
theorem without_mem {R : List Kn} {gone d : Gid} {o : Kn} (h : withoutK R gone d = some o) : o ∈ R := by
 unfold withoutK at h
 split at h
 · cases h
 · exact getK_mem h
end Go.Proofs.YtihanglnjghcfaaGreatDoor
namespace Go.Proofs
open Go.Shelf
def Tryz.laysSlH10_f44_ren : Go.Shelf.Ren := ⟨fun | 10 => 44 | 6 => 63 | n => n, fun | 22 => 32 | 23 => 9 | 25 => 109 | 3 => 3 | 4 => 4 | 0 => 0 | n => n, fun | n => n⟩
theorem Tryz.laysSlH10_f44 : Go.Proofs.SlLaysH.n10 Tryz.prog Tryz.laysSlH10_f44_ren := {
 mixed := by kernel_rfl
 f6 := ⟨Tryz.f63.name, by decide, Tryz.func63.trans (congrArg some (by kernel_rfl))⟩
 f10 := ⟨Tryz.f44.name, by decide, Tryz.func44.trans (congrArg some (by kernel_rfl))⟩
 t0 := Tryz.underlying0
 a0 := Tryz.isAgg0
 z0 := Tryz.sizeOf0
 v0 := Tryz.zeroValue0
 t3 := Tryz.underlying3
 a3 := Tryz.isAgg3
 z3 := Tryz.sizeOf3
 v3 := Tryz.zeroValue3
 t4 := Tryz.underlying4
 a4 := Tryz.isAgg4
 z4 := Tryz.sizeOf4
 v4 := Tryz.zeroValue4
 t22 := Tryz.underlying32
 a22 := Tryz.isAgg32
 z22 := Tryz.sizeOf32
 v22 := Tryz.zeroValue32
 a23 := Tryz.isAgg9
 z23 := Tryz.sizeOf9
 t25 := Tryz.underlying109
 a25 := Tryz.isAgg109
 z25 := Tryz.sizeOf109
 v25 := Tryz.zeroValue109 }
open Go.RowKit Go.Lib Go.Sort in
theorem Tryz.slices_DeleteFunc {α : Type} [Inhabited α] (enc : α → Value) (hO : OneCell enc) (p : α → Bool) (g : Nat) (lb : Array Value) (eg : ∀ args w, (callFunc g args).run Tryz.prog w = .ok (.enter g args) w) (zr : α) (v23 : ∀ w, (zeroValue 9).run Tryz.prog w = .ok (enc zr) w) (blk off cap : Nat) (d : Array α) (w : World) (hp : PredAt Tryz.prog g lb enc p w) (hpo : PredOver Tryz.prog g lb enc p blk off d.size w) (hH : Holds enc w blk off d) (hsz : d.size ≤ 9223372036854775807) (hcap : d.size ≤ cap) :
 Calls Tryz.prog 44 #[.slice (some ⟨blk, off, none⟩) d.size cap, .func (.func g) #[] lb] w fun e w' => e = .returned (.slice (some ⟨blk, off, none⟩) (d.toList.filter fun x => !p x).length cap) ∧ ∃ q, w' = putRow enc (Sort.ahead w q) blk off ((d.toList.filter fun x => !p x) ++ List.replicate (d.size - (d.toList.filter fun x => !p x).length) zr).toArray := AnyE.slices_DeleteFunc Tryz.laysSlH10_f44 enc hO p g lb eg zr v23 blk off cap d w hp hpo hH hsz hcap
def Tryz.laysBs_ren : Go.Shelf.Ren := ⟨fun | 26 => 46 | 33 => 64 | 34 => 65 | 38 => 87 | n => n, fun | 24 => 32 | 40 => 77 | n => n, fun | n => n⟩
theorem Tryz.laysBs : Go.Proofs.Lays2.n26 Tryz.prog Tryz.laysBs_ren := {
 mixed := by kernel_rfl
 f26 := Tryz.func46.trans (congrArg some (by kernel_rfl))
 f33 := Tryz.func64.trans (congrArg some (by kernel_rfl))
 f34 := Tryz.func65.trans (congrArg some (by kernel_rfl))
 f38 := Tryz.func87.trans (congrArg some (by kernel_rfl))
 t0 := Tryz.underlying0
 a0 := Tryz.isAgg0
 z0 := Tryz.sizeOf0
 v0 := Tryz.zeroValue0
 t3 := Tryz.underlying3
 a3 := Tryz.isAgg3
 z3 := Tryz.sizeOf3
 v3 := Tryz.zeroValue3
 t4 := Tryz.underlying4
 a4 := Tryz.isAgg4
 z4 := Tryz.sizeOf4
 v4 := Tryz.zeroValue4
 t9 := Tryz.underlying9
 a9 := Tryz.isAgg9
 z9 := Tryz.sizeOf9
 v9 := Tryz.zeroValue9
 t24 := Tryz.underlying32
 a24 := Tryz.isAgg32
 z24 := Tryz.sizeOf32
 v24 := Tryz.zeroValue32
 t40 := Tryz.underlying77
 a40 := Tryz.isAgg77
 z40 := Tryz.sizeOf77
 v40 := Tryz.zeroValue77 }
end Go.Proofs
namespace Go.Proofs.YtihanglnjghcfaaGreatDoor
open Go.RowKit Go.Maps Go.Sort
set_option linter.unusedVariables false
set_option linter.unusedSimpArgs false

def bsX (hv : List Gid) (d : Gid) : Nat → ByteArray := fun t => match hv[t]? with | some x => bk x | none => bk d
theorem bs_in {hv : List Gid} (hr : Rise hv) (d : Gid) {n : Nat} (hn : hv.length = n) :
 (Lib.bsGo (fun t => Op.bytesLess (bsX hv d t).toList (bk d).toList) n 0 n < n ∧ bsX hv d (Lib.bsGo (fun t => Op.bytesLess (bsX hv d t).toList (bk d).toList) n 0 n) = bk d) ↔ d ∈ hv := by
 have hk : hv.findIdx (fun x => !bytesBefore x d) ≤ n := by rw [← hn]; exact List.findIdx_le_length
 have hless : ∀ t x, hv[t]? = some x → Op.bytesLess (bsX hv d t).toList (bk d).toList = bytesBefore x d := fun t x h => by unfold bsX; rw [h]; exact less_bk x d
 have hir : bytesBefore d d = false := by
  cases h : bytesBefore d d with
  | false => rfl
  | true => exact absurd ((before_lt d d).1 h) (List.lt_irrefl d)
 have h1 : ∀ t, t < hv.findIdx (fun x => !bytesBefore x d) → Op.bytesLess (bsX hv d t).toList (bk d).toList = true := fun t ht => by
  have htl : t < hv.length := by omega
  rw [hless t hv[t] (List.getElem?_eq_getElem htl)]
  have := List.not_of_lt_findIdx ht
  simpa using this
 have h2 : ∀ t, hv.findIdx (fun x => !bytesBefore x d) ≤ t → Op.bytesLess (bsX hv d t).toList (bk d).toList = false := fun t ht => by
  rcases Nat.lt_or_ge t hv.length with htl | htl
  · rw [hless t hv[t] (List.getElem?_eq_getElem htl)]
    have hkl : hv.findIdx (fun x => !bytesBefore x d) < hv.length := by omega
    have hp : bytesBefore hv[hv.findIdx (fun x => !bytesBefore x d)] d = false := by
     have := List.findIdx_getElem (w := hkl)
     simpa using this
    cases hb : bytesBefore hv[t] d with
    | false => rfl
    | true =>
     exfalso
     rcases Nat.lt_or_ge (hv.findIdx (fun x => !bytesBefore x d)) t with h | h
     · have h3 := List.pairwise_iff_getElem.1 hr _ t hkl htl h
       have h4 := (before_lt _ _).2 (List.lt_trans ((before_lt _ _).1 h3) ((before_lt _ _).1 hb))
       rw [hp] at h4; cases h4
     · have e : hv.findIdx (fun x => !bytesBefore x d) = t := by omega
       have h5 : hv[hv.findIdx (fun x => !bytesBefore x d)] = hv[t] := by congr 1
       rw [h5, hb] at hp; cases hp
  · have : bsX hv d t = bk d := by unfold bsX; rw [List.getElem?_eq_none htl]
    rw [this, less_bk, hir]
 rw [Lib.bsGo_spec _ _ h1 h2 n 0 n (by omega) (Nat.zero_le _) hk]
 constructor
 · rintro ⟨ha, hb⟩
   have hkl : hv.findIdx (fun x => !bytesBefore x d) < hv.length := by omega
   unfold bsX at hb
   rw [List.getElem?_eq_getElem hkl] at hb
   rw [← bk_inj.1 hb]
   exact List.getElem_mem hkl
 · intro hd
   obtain ⟨j, hj, e⟩ := List.mem_iff_getElem.1 hd
   have hkj : hv.findIdx (fun x => !bytesBefore x d) ≤ j := by
    refine Nat.le_of_not_lt fun h => ?_
    have := List.not_of_lt_findIdx h
    rw [e] at this
    simp [hir] at this
   have hkl : hv.findIdx (fun x => !bytesBefore x d) < hv.length := by omega
   have hp : bytesBefore hv[hv.findIdx (fun x => !bytesBefore x d)] d = false := by
    have := List.findIdx_getElem (w := hkl)
    simpa using this
   have e2 : hv.findIdx (fun x => !bytesBefore x d) = j := by
    rcases Nat.lt_or_ge (hv.findIdx (fun x => !bytesBefore x d)) j with h | h
    · have h3 := List.pairwise_iff_getElem.1 hr _ j hkl hj h
      rw [e, hp] at h3; cases h3
    · omega
   refine ⟨by omega, ?_⟩
   unfold bsX
   rw [e2, List.getElem?_eq_getElem hj, e]
set_option maxRecDepth 100000 in
/-- slices.BinarySearch of texts. -/
theorem bsearch_any (A : Option Addr) (n c : Nat) (hv : List Gid) (d : Gid) (w : World) (hr : Rise hv) (hS : StrsAt w A (hv.map bk)) (hn : hv.length = n) (hb : n ≤ 268435456) :
 Calls Tryz.prog 46 #[.slice A n c, .string (bk d)] w fun e w' => ∃ i : Nat, e = .returned (.tuple #[.int .i64 (i : Int), .bool (decide (d ∈ hv))]) ∧ ∃ q, w' = w.drewN q := by
 by_cases h0 : n = 0
 · subst h0
   have he : hv = [] := List.length_eq_zero_iff.1 hn
   refine (Any2.slices_BinarySearch_string_empty Tryz.laysBs A c (bk d) w).mono ?_
   rintro e w' ⟨rfl, rfl⟩
   exact ⟨0, by subst he; rfl, 0, by rfl⟩
 · obtain ⟨b, o, rfl, _, hc⟩ := hS (by rw [List.length_map]; omega)
   refine (Any2.slices_BinarySearch_string Tryz.laysBs b o n c (bsX hv d) (bk d) w (by omega) (fun j hj => ?_)).mono ?_
   · have hjl : j < hv.length := by omega
     rw [hc j (bk hv[j]) (by rw [List.getElem?_map, List.getElem?_eq_getElem hjl]; rfl)]
     unfold bsX
     rw [List.getElem?_eq_getElem hjl]
   · rintro e w' ⟨rfl, hq⟩
     have hd : decide (Lib.bsGo (fun t => Op.bytesLess (bsX hv d t).toList (bk d).toList) n 0 n < n ∧ bsX hv d (Lib.bsGo (fun t => Op.bytesLess (bsX hv d t).toList (bk d).toList) n 0 n) = bk d) = decide (d ∈ hv) := by
      rw [decide_eq_decide]; exact bs_in hr d hn
     exact ⟨Lib.bsGo (fun t => Op.bytesLess (bsX hv d t).toList (bk d).toList) n 0 n, by rw [← hd], hq⟩
set_option maxRecDepth 100000 in
set_option maxHeartbeats 2000000 in
/-- Cut's function: whether a text is there. -/
theorem cut1_any (bh : Nat) (A : Option Addr) (n c : Nat) (hv : List Gid) (d : Gid) (w : World) (hc : w.cell? ⟨bh, 0, none⟩ = some (.slice A n c)) (hr : Rise hv) (hS : StrsAt w A (hv.map bk)) (hn : hv.length = n) (hb : n ≤ 268435456) :
 Calls Tryz.prog 45 #[.string (bk d), .pointer (some ⟨bh, 0, none⟩)] w fun e w' => e = .returned (.bool (decide (d ∈ hv))) ∧ ∃ q, w' = w.drewN q := by
 have HB := Lib.hid (bsearch_any A n c hv d w hr hS hn hb)
 clear hr hS hn hb
 generalize decide (d ∈ hv) = bb at *
 go_enter Tryz.func45, Tryz.ntmps45
 go_wp2_with fail
 refine HB.out.mono ?_
 rintro e w1 ⟨i, rfl, q, rfl⟩
 go_wp2
 go_ret
 exact ⟨rfl, q, rfl⟩
theorem sortWorld_block {w : World} {blk off m : Nat} {dk : Array Gid} {os : Array Obj} {k : Nat} (hk : k < w.heap.size) (hn : k ≠ blk) : (sortWorld encStr w blk off m dk os).heap[k]? = w.heap[k]? := by
 unfold sortWorld grow
 rw [Array.getElem?_append_left (by simp [putRow, mapBlock]; exact hk)]
 simp [putRow, mapBlock, Array.getElem?_modify, Ne.symm hn]
theorem StrsAt.keepB {w w' : World} {A : Option Addr} {P : List ByteArray} (h : StrsAt w A P) (hs : w.heap.size ≤ w'.heap.size) (hb : ∀ b o, A = some ⟨b, o, none⟩ → 0 < P.length → w'.heap[b]? = w.heap[b]?) : StrsAt w' A P := fun hl => by
 obtain ⟨b, o, hA, hlt, h2⟩ := h hl
 exact ⟨b, o, hA, Nat.lt_of_lt_of_le hlt hs, fun i s hi => (World.cell?_of_block (hb b o hA hl)).trans (h2 i s hi)⟩
theorem StrsAt.fore {w : World} {A : Option Addr} {P Q : List ByteArray} (h : StrsAt w A (P ++ Q)) : StrsAt w A P := fun hl => by
 obtain ⟨b, o, hA, hlt, h2⟩ := h (by rw [List.length_append]; omega)
 exact ⟨b, o, hA, hlt, fun i s hi => h2 i s (by rw [List.getElem?_append_left (List.getElem?_eq_some_iff.1 hi).1]; exact hi)⟩
end Go.Proofs.YtihanglnjghcfaaGreatDoor
namespace Go.Proofs.YtihanglnjghcfaaGreatDoor
open Go.RowKit Go.Maps Go.Sort
set_option linter.unusedVariables false
set_option linter.unusedSimpArgs false

def dropG (hv P : List Gid) : List Gid := P.filter fun d => !decide (d ∈ hv)
def DelPost (A : Option Addr) (n : Nat) (L : List Gid) (w : World) (e : Ending) (w' : World) : Prop :=
 e = .returned (.slice A L.length n) ∧ StrsAt w' A (L.map bk) ∧ L.length ≤ n ∧ Chg (fun k => Value.ownBlock (.slice A n n) = some k) w w'
set_option maxRecDepth 100000 in
set_option maxHeartbeats 2000000 in
theorem del_any (B : Nat) (A : Option Addr) (n : Nat) (P : List Gid) (w : World) (bh : Nat) (Ah : Option Addr) (m ch : Nat) (hv : List Gid) (ho : OwnS w B 9 1 (.slice A n n) n (strVs P)) (hb : n ≤ 268435456)
 (hc : w.cell? ⟨bh, 0, none⟩ = some (.slice Ah m ch)) (hr : Rise hv) (hS : StrsAt w Ah (hv.map bk)) (hm : hv.length = m) (hmb : m ≤ 268435456)
 (hsep : ∀ k, Value.ownBlock (.slice A n n) = some k → bh ≠ k ∧ ∀ b o, Ah = some ⟨b, o, none⟩ → b ≠ k) :
 Calls Tryz.prog 44 #[.slice A n n, .func (.func 45) #[] #[.pointer (some ⟨bh, 0, none⟩)]] w (DelPost A n (dropG hv P) w) := by
 have hl := ho.strs
 by_cases h0 : n = 0
 · have hP : P = [] := List.length_eq_zero_iff.1 (by omega)
   subst hP
   subst h0
   have HI := Lib.hid (AnyE.slices_IndexFunc_empty (P := Tryz.prog) (ρ := Tryz.laysSlH10_f44_ren) { Tryz.laysSlH10_f44 with } A 0 (.func (.func 45) #[] #[.pointer (some ⟨bh, 0, none⟩)]) w)
   clear hl ho hb hc hr hS hm hmb hsep
   go_enter Tryz.func44, Tryz.ntmps44
   go_wp2_with fail
   refine HI.out.mono ?_
   rintro e w1 ⟨rfl, hww⟩
   have hww2 := hww.symm
   subst hww2
   go_wp2
   go_ret
   exact ⟨rfl, StrsAt.nil, Nat.le_refl _, Chg.refl _ _⟩
 · subst hl
   obtain ⟨blk, off, c', hv', hbb, hlt, hcl⟩ := ho.cells (by simp [strVs]; omega)
   injection hv' with hA _ hcc
   subst hA
   obtain ⟨hs1, hs2⟩ := hsep blk rfl
   have hbh := block_lt hc
   have hH : Holds encStr w blk off P.toArray := fun j hj => by
    have hj2 : j < P.length := by simpa using hj
    refine ⟨?_, (ho.free (j := j) (by simp [strVs]; exact hj2)).1⟩
    rw [hcl j (by simp [strVs]; exact hj2)]
    unfold strVs
    rw [List.getElem?_map, List.getElem?_eq_getElem hj2, Option.map_some]
    have : (P.toArray)[j]! = P[j] := by rw [getElem!_pos P.toArray j (by simpa using hj2)]; simp
    rw [this]
    rfl
   have hp : PredAt Tryz.prog 45 #[.pointer (some ⟨bh, 0, none⟩)] encStr (fun d => decide (d ∈ hv)) w := fun W x hb9 =>
    cut1_any bh Ah m ch hv x W ((hb9.cell (p := ⟨bh, 0, none⟩) hbh).trans hc) hr (hS.below hb9) hm hmb
   have hpo : PredOver Tryz.prog 45 #[.pointer (some ⟨bh, 0, none⟩)] encStr (fun d => decide (d ∈ hv)) blk off P.toArray.size w := fun n9 os dk x hdk =>
    cut1_any bh Ah m ch hv x (sortWorld encStr w blk off n9 dk os) ((World.cell?_of_block (sortWorld_block hbh hs1)).trans hc) hr (hS.keepB (by simp [sortWorld, grow, putRow, mapBlock, Sort.ahead, World.drewN]) (fun b o hA hl => by
     obtain ⟨b', o', hA', hlt', _⟩ := hS hl
     rw [hA] at hA'
     injection hA' with hA'
     injection hA' with e1 e2
     exact sortWorld_block (by omega) (hs2 b o hA))) hm hmb
   have hD := Tryz.slices_DeleteFunc encStr (fun _ => rfl) (fun d => decide (d ∈ hv)) 45 #[.pointer (some ⟨bh, 0, none⟩)] (fun args W => enters_of Tryz.func45 (by kernel_rfl) rfl _ _) [] (fun W => Tryz.zeroValue9 W) blk off P.length P.toArray w hp hpo hH (by simp; omega) (by simp)
   refine hD.mono ?_
   rintro e w' ⟨rfl, q, rfl⟩
   have hlen : ((dropG hv P) ++ List.replicate (P.length - (dropG hv P).length) ([] : Gid)).length = P.length := by
    have : (dropG hv P).length ≤ P.length := List.length_filter_le _ _
    simp; omega
   have how := (putRow_owns (w := Sort.ahead w q) (ho.heap fun _ _ => rfl) hlen).strsAt
   rw [List.map_append] at how
   refine ⟨rfl, ?_, List.length_filter_le _ _, rfl, rfl, rfl, by simp [putRow, mapBlock, Sort.ahead, World.drewN], fun k hk hn => ?_⟩
   · have h2 := how.fore
     simpa [dropG] using h2
   · have hne : blk ≠ k := fun e => hn (by subst e; rfl)
     simp [putRow, mapBlock, Array.getElem?_modify, hne, Sort.ahead, World.drewN]
end Go.Proofs.YtihanglnjghcfaaGreatDoor
