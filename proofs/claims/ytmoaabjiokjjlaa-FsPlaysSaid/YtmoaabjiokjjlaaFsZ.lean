/- The walk of FsApart. -/
import Derived.Test.YtmoaabjiokjjlaaFsY
namespace Go.Proofs.Ytmoaabjiokjjlaa
open Go.RowKit Go.Maps
set_option linter.unusedVariables false
set_option linter.unusedSimpArgs false

theorem copy_in {F : Nat → Prop} {p N : Nat} {W : World} {S : Fs} (h : FsIn F p W S) (hI : Inv N 16777216 S) (hN : N ≤ 1000000) : Calls Try.prog 25 #[.pointer (some ⟨p, 0, none⟩)] W (CopyPost S W) := by
  obtain ⟨q, rfl, h⟩ := h
  exact copy_any W F q S N h hI hN
/-- A row of names read. -/
def NmsAt (w : World) (A : Option Addr) (l : List Nm) : Prop := 0 < l.length → ∃ b o, A = some ⟨b, o, none⟩ ∧ b < w.heap.size ∧ ∀ (i : Nat) (s : Nm), l[i]? = some s → w.cell? ⟨b, o + i, none⟩ = some (.string (bkN s))
theorem NmsAt.below {w w' : World} {A : Option Addr} {l : List Nm} (h : NmsAt w A l) (hb : Below w.heap.size w w') : NmsAt w' A l := fun hl => by
  obtain ⟨b, o, h1, h2, h3⟩ := h hl
  exact ⟨b, o, h1, Nat.lt_of_lt_of_le h2 hb.size, fun i s hs => (hb.cell (p := ⟨b, o + i, none⟩) h2).trans (h3 i s hs)⟩
theorem OwnS.nmsAt {w : World} {B n c : Nat} {A : Option Addr} {l : List Nm} (h : OwnS w B 9 1 (.slice A n c) n (nmVs l)) : NmsAt w A l := fun hl => by
  obtain ⟨g, off, c', hv, hb, hg, hc⟩ := h.cells (by rw [nmVs_len]; exact hl)
  injection hv with hA _ _
  refine ⟨g, off, hA, hg, fun i s hs => ?_⟩
  have hi := (List.getElem?_eq_some_iff.1 hs).1
  rw [hc i (by rw [nmVs_len]; exact hi)]
  unfold nmVs
  rw [List.getElem?_map, hs]
  rfl
set_option maxRecDepth 100000 in
set_option maxHeartbeats 2000000 in
/-- texts: two lists that are the same. -/
theorem texts_any (A B : Option Addr) (n c d : Nat) (l : List Nm) (w : World) (hA : NmsAt w A l) (hB : NmsAt w B l) (hn : l.length = n) (hs : n ≤ 1099511627776) :
    Calls Try.prog 26 #[.slice A n c, .slice B n d] w fun e w' => e = .returned (.bool true) ∧ Below w.heap.size w w' := by
  have HA := Lib.hid hA
  have HB := Lib.hid hB
  have HN := Lib.hid hn
  clear hA hB hn
  have hnn : (n == n) = true := by rw [beq_iff_eq]
  go_enter Try.func26, Try.ntmps26
  go_wp2
  go_loopw [5] (fun vi wr => ∃ k : Nat, vi = .int .i64 k ∧ k ≤ n ∧ Below w.heap.size w wr) (fun vi _ => n - (intOf vi).toNat)
  case atStart => exact ⟨0, rfl, Nat.zero_le _, Below.refl _ _⟩
  case round =>
    obtain ⟨k, rfl, hk, hb⟩ := hrel
    by_cases hlt : k < n
    · obtain ⟨p, hp⟩ : ∃ p, l[k]? = some p := ⟨_, List.getElem?_eq_getElem (by rw [HN.out]; exact hlt)⟩
      obtain ⟨ga, oa, rfl, hga, ca⟩ := (HA.out.below hb) (by rw [HN.out]; omega)
      obtain ⟨gb, ob, rfl, hgb, cb⟩ := (HB.out.below hb) (by rw [HN.out]; omega)
      have r0 := ca k p hp
      have r1 := cb k p hp
      have d2 : decide ((k : Int) < (n : Int)) = true := decide_eq_true (by omega)
      have d2' : decide (k < n) = true := decide_eq_true hlt
      have HBB := Lib.hid hb
      clear ca cb hga hgb hb hp
      go_upto_region 6 with (fail)
      refine wp_region_still_lit (by kernel_rfl) (by kernel_rfl) ?_
      repeat still_step
      refine wpStill_nil ?_
      have HBD := Lib.hid (HBB.out.drew)
      go_wp2
      go_roundw
      case rel => exact ⟨k + 1, rfl, by omega, HBD.out⟩
      case measure => simp [intOf]; omega
    · obtain rfl : n = k := by omega
      have d2 : decide ((n : Int) < (n : Int)) = false := decide_eq_false (by omega)
      have d2' : decide (n < n) = false := decide_eq_false (by omega)
      go_wp2
      go_ret
      exact ⟨rfl, hb⟩
set_option maxRecDepth 100000 in
set_option maxHeartbeats 8000000 in
theorem fsApart_walk (As : Option Addr) (n cs : Nat) (Bs : Option Addr) (m cb : Nat) (w : World) (hO : OpsIn w As n) (hn : n ≤ 9223372036854775807) (hP : OpsIn w Bs m) (hm : m ≤ 9223372036854775807) :
    Calls Try.prog 7 #[.slice As n cs, .slice Bs m cb] w fun e w' => e = .returned (.bool true) ∧ Below w.heap.size w w' := by
  have HN := Lib.hid (new_in w 5000 (by omega))
  have HOP := Lib.hid hO
  have HPP := Lib.hid hP
  have HNL := Lib.hid hn
  have HML := Lib.hid hm
  clear hO hP hn hm
  unfold ptrV at HN
  go_enter Try.func7, Try.ntmps7
  go_wp2_with fail
  refine HN.out.mono ?_
  rintro e w1 ⟨p, rfl, h1, hb1⟩
  have HR1 := Lib.hid (run_any w w1 (fun k => w.heap.size ≤ k) p (newF 5000) 0 As n cs h1 (Inv.new (by omega)) (Nok.new _) (by omega) (fun k hk => by have := hb1.size; omega) (fun k hk h => by omega) hb1 HOP.out HNL.out)
  have HB1 := Lib.hid hb1
  unfold RunPost ptrV at HR1
  clear h1 hb1 HN
  go_wp2_with fail
  refine HR1.out.mono ?_
  rintro e w2 ⟨rfl, S, h2, hi2, hk2, hc2⟩
  have HA2 := Lib.hid h2
  have HI := Lib.hid hi2
  have HK := Lib.hid hk2
  have HB2 : Hid (Below w.heap.size w w2) := Lib.hid (HB1.out.trans (hc2.below HB1.out.size (fun k hk h => by omega)))
  have HC2 := Lib.hid (copy_in h2 hi2 (by omega))
  unfold CopyPost at HC2
  clear h2 hi2 hk2 hc2 HR1
  go_wp2_with fail
  refine HC2.out.mono ?_
  rintro e w3 ⟨pc, rfl, h3, hb3⟩
  have HA3 := Lib.hid h3
  have HL3 := Lib.hid hb3
  have HC3 := Lib.hid (copy_in (HA2.out.below hb3) HI.out (by omega))
  unfold CopyPost at HC3
  clear h3 hb3 HC2
  go_wp2_with fail
  refine HC3.out.mono ?_
  rintro e w4 ⟨pw, rfl, h4, hb4⟩
  have HL4 := Lib.hid hb4
  have HB4 : Hid (Below w.heap.size w w4) := Lib.hid ((HB2.out.trans (HL3.out.mono HB2.out.size)).trans (hb4.mono (Nat.le_trans HB2.out.size HL3.out.size)))
  -- the three, each with blocks of its own
  have HF4 : Hid (FsIn (fun k => w.heap.size ≤ k ∧ k < w2.heap.size) p w4 S) := Lib.hid ((HA2.out.bound.below HL3.out).below hb4)
  have HW4 : Hid (FsIn (fun k => w3.heap.size ≤ k ∧ k < w4.heap.size) pw w4 S) := Lib.hid h4.bound
  have HCC : Hid (FsIn (fun k => (w2.heap.size ≤ k ∧ k < w3.heap.size) ∨ w4.heap.size ≤ k) pc w4 S) := Lib.hid ((HA3.out.bound.below hb4).mono fun k hk => .inl hk)
  have HZ : Hid (w.heap.size ≤ w2.heap.size ∧ w2.heap.size ≤ w3.heap.size ∧ w3.heap.size ≤ w4.heap.size) := Lib.hid ⟨HB2.out.size, HL3.out.size, hb4.size⟩
  have HR2 := Lib.hid (run_any w w4 (fun k => (w2.heap.size ≤ k ∧ k < w3.heap.size) ∨ w4.heap.size ≤ k) pc S (0 + 25) Bs m cb HCC.out HI.out HK.out (by omega) (fun k hk => .inr hk) (fun k hk h => by have := HZ.out; omega) HB4.out HPP.out HML.out)
  unfold RunPost ptrV at HR2
  clear h4 hb4 HC3 HA2 HA3 HB1 HB2 HL3 HL4 HCC
  go_wp2_with fail
  refine HR2.out.mono ?_
  rintro e w5 ⟨rfl, S5, _, _, _, hc5⟩
  have HF5 : Hid (FsIn (fun k => w.heap.size ≤ k ∧ k < w2.heap.size) p w5 S) := Lib.hid (HF4.out.chg hc5 (fun k hk _ h => by have := HZ.out; omega))
  have HW5 : Hid (FsIn (fun k => w3.heap.size ≤ k ∧ k < w4.heap.size) pw w5 S) := Lib.hid (HW4.out.chg hc5 (fun k hk _ h => by have := HZ.out; omega))
  have HB5 : Hid (Below w.heap.size w w5) := Lib.hid (HB4.out.trans (hc5.below HB4.out.size (fun k hk h => by have := HZ.out; omega)))
  clear hc5 HR2 HF4 HW4 HB4 HZ
  have HLI := Lib.hid (fun (W : World) (F : Nat → Prop) (p : Nat) (h : FsIn F p W S) => list_in h HI.out (by omega) ⟨#[]⟩)
  unfold ListPost ptrV at HLI
  change Hid (∀ (W : World) (F : Nat → Prop) (p : Nat), FsIn F p W S → Calls _ _ _ _ fun e W' => Below _ _ W' ∧ ∃ A, e = .returned (.slice A (listF S []).length (listF S []).length) ∧ OwnS W' _ _ 1 (.slice A (listF S []).length (listF S []).length) (listF S []).length (nmVs (listF S []))) at HLI
  have HOF : Hid (∀ s ∈ listF S [], ofF S s = 0 ∧ s.length ≤ 200) := Lib.hid (fun s hs => by
    have h0 := list_of HK.out HI.out hs
    refine ⟨h0, ?_⟩
    have hok : okN s = true := by
      unfold ofF at h0
      split at h0
      · next h => exact absurd h0 h
      · next h => exact named_ok (by simpa using h) s (by simp)
    unfold okN at hok
    simp at hok
    omega)
  have HLB : Hid ((listF S []).length ≤ 1000000) := Lib.hid (by
    unfold listF
    split
    · simp
    · refine Nat.le_trans (List.length_filter_le _ _) ?_
      rw [List.length_map]
      have := HI.out.lenNow
      omega)
  generalize listF S [] = LL at *
  generalize hll : LL.length = ll at *
  have HLL := Lib.hid hll
  clear hll
  go_wp2_with fail
  refine (HLI.out w5 _ p HF5.out).mono ?_
  rintro e w6 ⟨hb6, A6, rfl, ho6⟩
  have HF6 := Lib.hid (HF5.out.below hb6)
  have HW6 := Lib.hid (HW5.out.below hb6)
  have HB6 := Lib.hid (HB5.out.trans (hb6.mono HB5.out.size))
  have HM6 := Lib.hid ho6.nmsAt
  clear hb6 ho6 HF5 HW5 HB5
  go_wp2_with fail
  refine (HLI.out w6 _ pw HW6.out).mono ?_
  rintro e w7 ⟨hb7, A7, rfl, ho7⟩
  have HF7 := Lib.hid (HF6.out.below hb7)
  have HW7 := Lib.hid (HW6.out.below hb7)
  have HB7 := Lib.hid (HB6.out.trans (hb7.mono HB6.out.size))
  have HM7 := Lib.hid (HM6.out.below hb7)
  have HT := Lib.hid (texts_any A6 A7 ll ll ll LL w7 HM7.out ho7.nmsAt HLL.out (by have := HLB.out; omega))
  clear hb7 ho7 HF6 HW6 HB6 HM6 HLI
  go_wp2_with fail
  refine HT.out.mono ?_
  rintro e w8 ⟨rfl, hb8⟩
  have HF8 := Lib.hid (HF7.out.below hb8)
  have HW8 := Lib.hid (HW7.out.below hb8)
  have HB8 := Lib.hid (HB7.out.trans (hb8.mono HB7.out.size))
  have HM8 := Lib.hid (HM7.out.below hb8)
  clear hb8 HT HF7 HW7 HB7 HM7
  go_wp2
  go_loopw [11] (fun vi wr => ∃ (i : Nat), vi = .int .i64 i ∧ i ≤ ll ∧ Below w8.heap.size w8 wr) (fun vi _ => ll - (intOf vi).toNat)
  case atStart => exact ⟨0, rfl, Nat.zero_le _, Below.refl _ _⟩
  case round =>
    obtain ⟨i, rfl, hi, hbr⟩ := hrel
    have HBR := Lib.hid hbr
    have hlb := HLB.out
    clear hbr
    by_cases hil : i < ll
    · have di : decide ((i : Int) < (ll : Int)) = true := decide_eq_true (by omega)
      have di' : decide (i < ll) = true := decide_eq_true hil
      obtain ⟨s, hs⟩ : ∃ s, LL[i]? = some s := ⟨_, List.getElem?_eq_getElem (by rw [HLL.out]; exact hil)⟩
      obtain ⟨hof, hsl⟩ := HOF.out s (List.mem_of_getElem? hs)
      obtain ⟨gL, oL, rfl, hgl, hcell⟩ := HM8.out.below HBR.out (by rw [HLL.out]; omega)
      have rs := hcell i s hs
      have HRD := Lib.hid (fun (W : World) (F : Nat → Prop) (p : Nat) (h : FsIn F p W S) => read_in h HI.out (bkN s) (by rw [bkN_size]; omega))
      unfold ReadPost ptrV at HRD
      rw [bkN_list, hof] at HRD
      generalize readL S s = R at *
      have HGL := Lib.hid hgl
      generalize hrn : R.length = rn at *
      have HRN := Lib.hid hrn
      generalize hbs : bkN s = bs at *
      clear hcell hs hof hsl hgl hrn hbs
      go_wp2_with fail
      refine (HRD.out wr _ p (HF8.out.below HBR.out)).mono ?_
      rintro e w9 ⟨hb9, A9, rfl, ho9⟩
      have HB9 := Lib.hid (HBR.out.trans (hb9.mono HBR.out.size))
      have rs9 : w9.cell? ⟨gL, oL + i, none⟩ = some (.string bs) := (hb9.cell (p := ⟨gL, oL + i, none⟩) HGL.out).trans rs
      have HI9 := Lib.hid ho9.ints
      clear hb9 ho9 rs
      go_wp2_with fail
      refine (HRD.out w9 _ pw (HW8.out.below HB9.out)).mono ?_
      rintro e w10 ⟨hb10, A10, rfl, ho10⟩
      have HB10 := Lib.hid (HB9.out.trans (hb10.mono HB9.out.size))
      have cv1 := run_bstr w10 A9 rn rn R (HI9.out.below hb10) HRN.out
      have cv2 := run_bstr w10 A10 rn rn R ho10.ints HRN.out
      generalize strOfNums R = RS at *
      clear hb10 ho10 rs9
      go_wp2
      go_roundw
      case rel => exact ⟨i + 1, rfl, by omega, HB10.out⟩
      case measure => simp [intOf]; omega
    · obtain rfl : i = ll := by omega
      have di : decide ((i : Int) < (i : Int)) = false := decide_eq_false (by omega)
      have di' : decide (i < i) = false := decide_eq_false (by omega)
      have HU := Lib.hid (fun (W : World) (F : Nat → Prop) (p : Nat) (h : FsIn F p W S) => used_in h HI.out (by omega))
      unfold ptrV at HU
      have huu : ((usedF S : Int) == (usedF S : Int)) = true := by rw [beq_iff_eq]
      generalize usedF S = U at *
      go_wp2_with fail
      refine (HU.out wr _ p (HF8.out.below HBR.out)).mono ?_
      rintro e w9 ⟨rfl, hb9⟩
      have HB9 := Lib.hid (HBR.out.trans (hb9.mono HBR.out.size))
      clear hb9
      go_wp2_with fail
      refine (HU.out w9 _ pw (HW8.out.below HB9.out)).mono ?_
      rintro e w10 ⟨rfl, hb10⟩
      have HB10 := Lib.hid (HB9.out.trans (hb10.mono HB9.out.size))
      clear hb10
      go_wp2_with fail
      refine (awake1_any w10).mono ?_
      rintro e w11 ⟨rfl, hb11⟩
      have HB11 := Lib.hid (HB10.out.trans (hb11.mono HB10.out.size))
      clear hb11
      go_wp2
      go_ret
      exact ⟨rfl, HB8.out.trans (HB11.out.mono HB8.out.size)⟩
end Go.Proofs.Ytmoaabjiokjjlaa
