/- idx.Find walked: the search in sorted entries. -/
import Derived.Test.YtndjebddgnmpfaaIdxM
namespace Go.Proofs.Ytndjebddgnmpfaa
open Go.RowKit
set_option linter.unusedVariables false
set_option linter.unusedSimpArgs false

def cmpX (x : Ent) (t : ByteArray) : Int := cmpS (strOfNums x.id) t
set_option maxRecDepth 100000 in
theorem find1_any (x : Ent) (t : ByteArray) (w : World) :
    Calls Try.prog 31 #[.agg #[.int .i64 0, .slice none 0 0, .string (strOfNums x.id), .int .i64 x.at_, .int .u32 x.crc], .string t] w fun e w' => e = .returned (.int .i64 (cmpX x t)) ∧ Below w.heap.size w w' := by
  unfold cmpX
  obtain ⟨xi, xt, xr⟩ := x
  simp only
  generalize strOfNums xi = xs
  go_enter Try.func31, Try.ntmps31
  go_wp2_with fail
  refine (compare_any xs t _).mono ?_
  rintro e w' ⟨rfl, rfl⟩
  go_wp2
  go_ret
  exact ⟨rfl, (Below.refl _ _).alloc (Nat.le_refl _) _⟩
def SearchPost (L : List Ent) (t : ByteArray) (w : World) (e : Ending) (w' : World) : Prop :=
  ∃ (i : Nat) (ok : Bool), e = .returned (.tuple #[.int .i64 i, .bool ok]) ∧ Below w.heap.size w w' ∧ i ≤ L.length ∧ (∀ p x, p < i → L[p]? = some x → cmpX x t < 0) ∧ (∀ p x, i ≤ p → L[p]? = some x → 0 ≤ cmpX x t) ∧ (ok = true ↔ ∃ x, L[i]? = some x ∧ cmpX x t = 0)
set_option maxRecDepth 100000 in
set_option maxHeartbeats 4000000 in
theorem search_any (A : Option Addr) (N c : Nat) (L : List Ent) (t : ByteArray) (w : World) (hO : ObsAt w A L) (hN : L.length = N) (hs : N ≤ 4096) (hm : ∀ (p q : Nat) (x y : Ent), p ≤ q → L[p]? = some x → L[q]? = some y → cmpX y t < 0 → cmpX x t < 0) :
    Calls Try.prog 30 #[.slice A N c, .string t, .func (.func 31) #[] #[]] w (SearchPost L t w) := by
  have HO := Lib.hid hO
  have HN := Lib.hid hN
  have HM := Lib.hid hm
  clear hO hN hm
  go_enter Try.func30, Try.ntmps30
  go_wp2
  go_loopw [9, 10] (fun vi vj wr => ∃ i j : Nat, vi = .int .i64 i ∧ vj = .int .i64 j ∧ i ≤ j ∧ j ≤ N ∧ (∀ p x, p < i → L[p]? = some x → cmpX x t < 0) ∧ (∀ p x, j ≤ p → L[p]? = some x → 0 ≤ cmpX x t) ∧ Below w.heap.size w wr) (fun vi vj _ => (intOf vj).toNat - (intOf vi).toNat)
  case atStart => exact ⟨0, N, rfl, rfl, Nat.zero_le _, Nat.le_refl _, (fun p x hp => by omega), (fun p x hp hx => by have := (List.getElem?_eq_some_iff.1 hx).1; rw [HN.out] at this; omega), Below.refl _ _⟩
  case round =>
    obtain ⟨i, j, rfl, rfl, hij, hjN, hlo, hhi, hB⟩ := hrel
    have HLO := Lib.hid hlo
    have HHI := Lib.hid hhi
    have HB := Lib.hid hB
    clear hlo hhi hB
    by_cases hlt : i < j
    · have d1 : decide ((i : Int) < (j : Int)) = true := decide_eq_true (by omega)
      obtain ⟨m, hmm⟩ : ∃ m : Nat, m = i + j := ⟨_, rfl⟩
      obtain ⟨h, hh⟩ : ∃ h : Nat, h = m / 2 := ⟨_, rfl⟩
      have s1 : IntKind.i64.wrap ((i : Int) + (j : Int)) = (m : Int) := by rw [IntWalk.i64_in _ (by omega)]; omega
      have s2 : IntKind.u64.wrap (m : Int) = (m : Int) := IntWalk.u64_in _ (by omega)
      have s3 : (m : Int) / 2 = (h : Int) := by omega
      have s4 : IntKind.i64.wrap (h : Int) = (h : Int) := IntWalk.i64_in _ (by omega)
      have s5 : IntKind.i64.wrap ((h : Int) + 1) = ((h + 1 : Nat) : Int) := by rw [IntWalk.i64_in _ (by omega)]; omega
      have hhN : h < N := by omega
      have hh2 : (h : Int) < (N : Int) := by omega
      have hi2 : i ≤ h ∧ h < j := by omega
      have HI2 := Lib.hid hi2
      clear hmm hh hi2
      obtain ⟨x, hx⟩ : ∃ x, L[h]? = some x := ⟨_, List.getElem?_eq_getElem (by rw [HN.out]; exact hhN)⟩
      obtain ⟨g, o, rfl, hg, hcell⟩ := HO.out (by rw [HN.out]; omega)
      have cc := fun (k : Nat) (hk : k < 5) => (HB.out.cell (p := ⟨g, o + h * 5 + k, none⟩) hg).trans (hcell h x hx k hk)
      have c0 : wr.cell? ⟨g, o + h * 5, none⟩ = some (.int .i64 0) := cc 0 (by decide)
      have c1 : wr.cell? ⟨g, o + h * 5 + 1, none⟩ = some (.slice none 0 0) := cc 1 (by decide)
      have c2 : wr.cell? ⟨g, o + h * 5 + 2, none⟩ = some (.string (strOfNums x.id)) := cc 2 (by decide)
      have c3 : wr.cell? ⟨g, o + h * 5 + 3, none⟩ = some (.int .i64 x.at_) := cc 3 (by decide)
      have c4 : wr.cell? ⟨g, o + h * 5 + 4, none⟩ = some (.int .u32 x.crc) := cc 4 (by decide)
      have HX := Lib.hid hx
      have HF := Lib.hid (find1_any x t wr)
      have HCX : Hid (cmpX x t = cmpX x t) := Lib.hid rfl
      clear cc hcell hx hg
      by_cases hneg : cmpX x t < 0
      · have d2 : decide (cmpX x t < 0) = true := decide_eq_true hneg
        have HL2 : Hid (∀ p y, p < h + 1 → L[p]? = some y → cmpX y t < 0) := Lib.hid (fun p y hp hy => HM.out p h y x (by omega) hy HX.out hneg)
        clear hneg
        go_wp2_with (go_at_call 31; refine HF.out.mono ?_; rintro e w5 ⟨rfl, hb5⟩)
        go_roundw
        case rel => exact ⟨h + 1, j, by go_num, rfl, by have := HI2.out; omega, hjN, HL2.out, HHI.out, HB.out.trans (hb5.mono HB.out.size)⟩
        case measure => have := HI2.out; simp [intOf]; omega
      · have d2 : decide (cmpX x t < 0) = false := decide_eq_false hneg
        have HL2 : Hid (∀ p y, h ≤ p → L[p]? = some y → 0 ≤ cmpX y t) := Lib.hid (fun p y hp hy => by
          by_cases hn : cmpX y t < 0
          · exact absurd (HM.out h p x y hp HX.out hy hn) hneg
          · omega)
        clear hneg
        go_wp2_with (go_at_call 31; refine HF.out.mono ?_; rintro e w5 ⟨rfl, hb5⟩)
        go_roundw
        case rel => exact ⟨i, h, rfl, rfl, HI2.out.1, by omega, HLO.out, HL2.out, HB.out.trans (hb5.mono HB.out.size)⟩
        case measure => have := HI2.out; simp [intOf]; omega
    · obtain rfl : i = j := by omega
      have d1 : decide ((i : Int) < (i : Int)) = false := decide_eq_false (by omega)
      by_cases hin : i < N
      · have d2 : decide ((i : Int) < (N : Int)) = true := decide_eq_true (by omega)
        have d2' : decide (i < N) = true := decide_eq_true hin
        have hi2 : (i : Int) < (N : Int) := by omega
        obtain ⟨x, hx⟩ : ∃ x, L[i]? = some x := ⟨_, List.getElem?_eq_getElem (by rw [HN.out]; exact hin)⟩
        obtain ⟨g, o, rfl, hg, hcell⟩ := HO.out (by rw [HN.out]; omega)
        have cc := fun (k : Nat) (hk : k < 5) => (HB.out.cell (p := ⟨g, o + i * 5 + k, none⟩) hg).trans (hcell i x hx k hk)
        have c0 : wr.cell? ⟨g, o + i * 5, none⟩ = some (.int .i64 0) := cc 0 (by decide)
        have c1 : wr.cell? ⟨g, o + i * 5 + 1, none⟩ = some (.slice none 0 0) := cc 1 (by decide)
        have c2 : wr.cell? ⟨g, o + i * 5 + 2, none⟩ = some (.string (strOfNums x.id)) := cc 2 (by decide)
        have c3 : wr.cell? ⟨g, o + i * 5 + 3, none⟩ = some (.int .i64 x.at_) := cc 3 (by decide)
        have c4 : wr.cell? ⟨g, o + i * 5 + 4, none⟩ = some (.int .u32 x.crc) := cc 4 (by decide)
        have HX := Lib.hid hx
        have HF := Lib.hid (find1_any x t wr)
        clear cc hcell hx hg
        by_cases hz : cmpX x t = 0
        · have d3 : (cmpX x t == 0) = true := by rw [beq_iff_eq]; exact hz
          have HZ := Lib.hid hz
          clear hz
          go_wp2_with (go_at_call 31; refine HF.out.mono ?_; rintro e w5 ⟨rfl, hb5⟩)
          go_ret2
          exact ⟨i, true, rfl, HB.out.trans (hb5.mono HB.out.size), by rw [HN.out]; omega, HLO.out, HHI.out, ⟨fun _ => ⟨x, HX.out, HZ.out⟩, fun _ => rfl⟩⟩
        · have d3 : (cmpX x t == 0) = false := by rw [beq_eq_false_iff_ne]; exact hz
          have HZ := Lib.hid hz
          clear hz
          go_wp2_with (go_at_call 31; refine HF.out.mono ?_; rintro e w5 ⟨rfl, hb5⟩)
          go_ret2
          exact ⟨i, false, rfl, HB.out.trans (hb5.mono HB.out.size), by rw [HN.out]; omega, HLO.out, HHI.out, ⟨fun h => (by cases h), fun ⟨y, hy, hy2⟩ => by rw [HX.out] at hy; injection hy with hy; subst hy; exact absurd hy2 HZ.out⟩⟩
      · have d2 : decide ((i : Int) < (N : Int)) = false := decide_eq_false (by omega)
        have d2' : decide (i < N) = false := decide_eq_false hin
        go_wp2
        go_ret2
        exact ⟨i, false, rfl, HB.out, by rw [HN.out]; omega, HLO.out, HHI.out, ⟨fun h => (by cases h), fun ⟨y, hy, _⟩ => by have := (List.getElem?_eq_some_iff.1 hy).1; rw [HN.out] at this; omega⟩⟩
theorem entsL_id {b : List Int} (i : Nat) (x : Ent) (hx : (entsL b)[i]? = some x) : x.id = hexL (idL b i) := by
  have hi := (List.getElem?_eq_some_iff.1 hx).1
  simp only [entsL, List.length_map, List.length_range] at hi
  rw [entsL, List.getElem?_map, List.getElem?_range hi] at hx
  injection hx with hx
  rw [← hx]; rfl
/-- Entries of an index stand in their order. -/
theorem entsL_lt {b : List Int} (hb : Bytes b) (hl : 1072 ≤ b.length) (h : errV b = 0) (p q : Nat) (x y : Ent) (hpq : p < q) (hx : (entsL b)[p]? = some x) (hy : (entsL b)[q]? = some y) : ltL x.id y.id = true := by
  have hacc : accB b = true := by
    cases ha : accB b
    · unfold errV at h
      rw [if_neg (by omega), if_pos ha] at h
      cases h
    · rfl
  simp only [accB, Bool.and_eq_true] at hacc
  obtain ⟨_, hok, hwh⟩ := hacc
  have hwl : b.length = 1072 + 28 * cntN b + 8 * farN b (cntN b) (cntN b) := of_decide_eq_true hwh
  have hord : ∀ j, j + 1 < cntN b → ltL (idL b j) (idL b (j + 1)) = true := fun j hj => by
    have := List.all_eq_true.1 hok (j + 1) (List.mem_range.2 hj)
    simp only [Bool.and_eq_true, Bool.not_eq_true', badO, Bool.or_eq_false_iff] at this
    have h1 := this.1.1.1
    have hd : decide (0 < j + 1) = true := decide_eq_true (by omega)
    rw [hd, Bool.true_and, Nat.add_sub_cancel] at h1
    simpa using h1
  have hq : q < cntN b := by have := (List.getElem?_eq_some_iff.1 hy).1; simpa [entsL] using this
  have hup : ∀ d, p + d < cntN b → 0 < d → ltL (idL b p) (idL b (p + d)) = true := by
    intro d
    induction d with
    | zero => intro _ h; omega
    | succ d ih =>
      intro h1 _
      by_cases hd : d = 0
      · subst hd; exact hord p h1
      · exact ltL_trans (ih (by omega) (by omega)) (hord (p + d) h1)
  have h1 := hup (q - p) (by omega) (by omega)
  rw [show p + (q - p) = q by omega] at h1
  have hil : ∀ i, i < cntN b → (idL b i).length = 20 := fun i hi => by unfold idL; rw [List.length_take, List.length_drop]; omega
  rw [entsL_id p x hx, entsL_id q y hy, hex_less _ _ (by rw [hil p (by omega), hil q hq]) (idL_ok hb p) (idL_ok hb q)]
  exact h1
theorem cmpX_lt {b : List Int} (hb : Bytes b) (i : Nat) (x : Ent) (t : ByteArray) (hx : (entsL b)[i]? = some x) : decide (cmpX x t < 0) = ltL x.id (bytesOf t) := by
  unfold cmpX
  rw [cmpS_lt, entsL_id i x hx, bytesOf_str _ (hexL_ok (idL_ok hb i))]
theorem cmpX_eq (x : Ent) (t : ByteArray) : cmpX x t = 0 ↔ strOfNums x.id = t := cmpS_eq _ _
theorem entsL_up {b : List Int} (hb : Bytes b) (hl : 1072 ≤ b.length) (h : errV b = 0) (t : ByteArray) (p q : Nat) (x y : Ent) (hpq : p ≤ q) (hx : (entsL b)[p]? = some x) (hy : (entsL b)[q]? = some y) (hn : cmpX y t < 0) : cmpX x t < 0 := by
  by_cases he : p = q
  · subst he
    rw [hx] at hy
    injection hy with hy
    rw [hy]; exact hn
  · have h2 := entsL_lt hb hl h p q x y (by omega) hx hy
    have h3 := cmpX_lt hb q y t hy
    rw [decide_eq_true hn] at h3
    refine of_decide_eq_true (?_ : decide _ = true)
    rw [cmpX_lt hb p x t hx]
    exact ltL_trans h2 h3.symm
def FindPost (b : List Int) (t : ByteArray) (w : World) (e : Ending) (w' : World) : Prop :=
  ∃ (at_ : Int) (ok : Bool), e = .returned (.tuple #[.int .i64 at_, .bool ok]) ∧ Below w.heap.size w w' ∧ (ok = true → errV b = 0 ∧ ∃ x ∈ entsL b, strOfNums x.id = t ∧ at_ = x.at_) ∧ (ok = false → at_ = 0 ∧ (errV b = 0 → ∀ x ∈ entsL b, strOfNums x.id ≠ t))
theorem FindPost.of_search {b : List Int} {t : ByteArray} {i : Nat} (hb : Bytes b) (hl : 1072 ≤ b.length) (h : errV b = 0) (h1 : ∀ p x, p < i → (entsL b)[p]? = some x → cmpX x t < 0) (h2 : ∀ p x, i ≤ p → (entsL b)[p]? = some x → 0 ≤ cmpX x t) (h3 : ¬ ∃ x, (entsL b)[i]? = some x ∧ cmpX x t = 0) : ∀ x ∈ entsL b, strOfNums x.id ≠ t := by
  intro x hx he
  obtain ⟨p, hp, hxe⟩ := List.getElem_of_mem hx
  have hx' : (entsL b)[p]? = some x := by rw [List.getElem?_eq_getElem hp, hxe]
  have hz := (cmpX_eq x t).2 he
  rcases Nat.lt_trichotomy p i with hpi | hpi | hpi
  · have := h1 p x hpi hx'; omega
  · subst hpi; exact h3 ⟨x, hx', hz⟩
  · obtain ⟨y, hy⟩ : ∃ y, (entsL b)[i]? = some y := ⟨_, List.getElem?_eq_getElem (by omega)⟩
    have h4 := entsL_lt hb hl h i p y x hpi hy hx'
    have h5 := h2 i y (Nat.le_refl _) hy
    have h6 := cmpX_lt hb i y t hy
    rw [← he, bytesOf_str _ (by rw [entsL_id p x hx']; exact hexL_ok (idL_ok hb p)), h4, he] at h6
    have := of_decide_eq_true h6
    omega
theorem cntN_le {b : List Int} (hl : 1072 ≤ b.length) (h : errV b = 0) : cntN b ≤ 4096 := by
  have hacc : accB b = true := by
    cases ha : accB b
    · unfold errV at h
      rw [if_neg (by omega), if_pos ha] at h
      cases h
    · rfl
  simp only [accB, headB, Bool.and_eq_true, decide_eq_true_eq] at hacc
  have := hacc.1.2.2.1
  unfold cntN
  omega
set_option maxRecDepth 100000 in
set_option maxHeartbeats 4000000 in
theorem iFind_any (blk off N c : Nat) (b : List Int) (t : ByteArray) (w : World) (hI : Ints .u8 w (some ⟨blk, off, none⟩) b) (hN : b.length = N) (hb : Bytes b) (hl : 1072 ≤ N) (hc : N ≤ c) (hcm : c ≤ 9223372036854775807) (hsz : N ≤ 140737488351300) :
    Calls Try.prog 10 #[.slice (some ⟨blk, off, none⟩) N c, .string t] w (FindPost b t w) := by
  have HP := Lib.hid (iParse_any blk off N c b w hI hN hb hl hc hcm hsz)
  have HL : Hid (1072 ≤ b.length) := Lib.hid (by rw [hN]; exact hl)
  have HB := Lib.hid hb
  clear hI hN hb
  go_enter Try.func10, Try.ntmps10
  go_wp2_with fail
  refine HP.out.mono ?_
  rintro e w1 ⟨v, rfl, hv1, hv2, hb1⟩
  have HB1 := Lib.hid hb1
  clear hb1 HP
  generalize (if errV b = 0 then strOfNums (packV b) else (⟨#[]⟩ : ByteArray)) = PK
  by_cases hz : errV b = 0
  · obtain ⟨A, cc, rfl, hO⟩ := hv1 hz
    have hle := cntN_le HL.out hz
    have HS := Lib.hid (search_any A (cntN b) cc (entsL b) t w1 hO (by simp [entsL]) hle (entsL_up HB.out HL.out hz t))
    have HO := Lib.hid hO
    have HZ := Lib.hid hz
    rw [hz]
    clear hv1 hv2 hO hz
    have hlen : (entsL b).length = cntN b := by simp [entsL]
    go_wp2_with fail
    refine HS.out.mono ?_
    rintro e w2 ⟨i, ok, rfl, hb2, hi, h1, h2, h3⟩
    rw [hlen] at hi
    have HB2 := Lib.hid hb2
    have H1 := Lib.hid h1
    have H2 := Lib.hid h2
    have H3 := Lib.hid h3
    clear hb2 h1 h2 h3 HS
    cases ok
    · go_wp2
      go_ret2
      exact ⟨0, false, rfl, HB1.out.trans (HB2.out.mono HB1.out.size), (fun h => by cases h), fun _ => ⟨rfl, fun hz => FindPost.of_search HB.out HL.out hz H1.out H2.out (fun h => by have := H3.out.2 h; cases this)⟩⟩
    · obtain ⟨x, hx, hcx⟩ := H3.out.1 rfl
      have hin := (List.getElem?_eq_some_iff.1 hx).1
      rw [hlen] at hin
      obtain ⟨g, o, rfl, hg, hcell⟩ := HO.out (by rw [hlen]; omega)
      have c3 : w2.cell? ⟨g, o + i * 5 + 3, none⟩ = some (.int .i64 x.at_) := (HB2.out.cell (p := ⟨g, o + i * 5 + 3, none⟩) hg).trans (hcell i x hx 3 (by decide))
      have hin2 : (i : Int) < (cntN b : Int) := by omega
      have HX := Lib.hid (List.mem_of_getElem? hx)
      have HCX := Lib.hid hcx
      clear hcell hg hx hcx hi hlen H1 H2 H3
      go_wp2
      go_ret2
      exact ⟨x.at_, true, rfl, HB1.out.trans (HB2.out.mono HB1.out.size), (fun _ => ⟨HZ.out, x, HX.out, (cmpX_eq x t).1 HCX.out, rfl⟩), fun h => by cases h⟩
  · obtain rfl := hv2 hz
    have hne : (errV b == 0) = false := by rw [beq_eq_false_iff_ne]; exact hz
    have HZ := Lib.hid hz
    clear hv1 hv2
    obtain ⟨ev, hev⟩ : ∃ ev, errV b = ev := ⟨_, rfl⟩
    rw [hev] at hne ⊢
    clear hz hev
    go_wp2
    go_ret2
    exact ⟨0, false, rfl, HB1.out, (fun h => by cases h), fun _ => ⟨rfl, fun h => absurd h HZ.out⟩⟩
end Go.Proofs.Ytndjebddgnmpfaa
