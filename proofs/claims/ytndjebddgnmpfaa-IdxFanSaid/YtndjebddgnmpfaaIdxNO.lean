/- idx.Find walked: the search in sorted entries. -/
import Derived.Test.YtndjebddgnmpfaaIdxM
namespace Go.Proofs.Ytndjebddgnmpfaa
open Go.RowKit
set_option linter.unusedVariables false
set_option linter.unusedSimpArgs false

def cmpX (x : Ent) (t : ByteArray) : Int := cmpS (strOfNums x.id) t
set_option maxRecDepth 100000 in
theorem find1_any (x : Ent) (t : ByteArray) (w : World) :
    Calls Try.prog 31 #[.agg #[.int .i64 0, .slice none 0 0, .string (strOfNums x.id), .int .i64 x.at_, .int .u32 x.crc], .string t] w fun e w' => e = .returned (.int .i64 (cmpX x t)) ∧ Below w.heap.size w w' := by
  unfold cmpX
  obtain ⟨xi, xt, xr⟩ := x
  simp only
  generalize strOfNums xi = xs
  go_enter Try.func31, Try.ntmps31
  go_wp2_with fail
  refine (compare_any xs t _).mono ?_
  rintro e w' ⟨rfl, rfl⟩
  go_wp2
  go_ret
  exact ⟨rfl, (Below.refl _ _).alloc (Nat.le_refl _) _⟩
def SearchPost (L : List Ent) (t : ByteArray) (w : World) (e : Ending) (w' : World) : Prop :=
  ∃ (i : Nat) (ok : Bool), e = .returned (.tuple #[.int .i64 i, .bool ok]) ∧ Below w.heap.size w w' ∧ i ≤ L.length ∧ (∀ p x, p < i → L[p]? = some x → cmpX x t < 0) ∧ (∀ p x, i ≤ p → L[p]? = some x → 0 ≤ cmpX x t) ∧ (ok = true ↔ ∃ x, L[i]? = some x ∧ cmpX x t = 0)
set_option maxRecDepth 100000 in
set_option maxHeartbeats 4000000 in
theorem search_any (A : Option Addr) (N c : Nat) (L : List Ent) (t : ByteArray) (w : World) (hO : ObsAt w A L) (hN : L.length = N) (hs : N ≤ 4096) (hm : ∀ (p q : Nat) (x y : Ent), p ≤ q → L[p]? = some x → L[q]? = some y → cmpX y t < 0 → cmpX x t < 0) :
    Calls Try.prog 30 #[.slice A N c, .string t, .func (.func 31) #[] #[]] w (SearchPost L t w) := by
  have HO := Lib.hid hO
  have HN := Lib.hid hN
  have HM := Lib.hid hm
  clear hO hN hm
  go_enter Try.func30, Try.ntmps30
  go_wp2
  go_loopw [9, 10] (fun vi vj wr => ∃ i j : Nat, vi = .int .i64 i ∧ vj = .int .i64 j ∧ i ≤ j ∧ j ≤ N ∧ (∀ p x, p < i → L[p]? = some x → cmpX x t < 0) ∧ (∀ p x, j ≤ p → L[p]? = some x → 0 ≤ cmpX x t) ∧ Below w.heap.size w wr) (fun vi vj _ => (intOf vj).toNat - (intOf vi).toNat)
  case atStart => exact ⟨0, N, rfl, rfl, Nat.zero_le _, Nat.le_refl _, (fun p x hp => by omega), (fun p x hp hx => by have := (List.getElem?_eq_some_iff.1 hx).1; rw [HN.out] at this; omega), Below.refl _ _⟩
  case round =>
    obtain ⟨i, j, rfl, rfl, hij, hjN, hlo, hhi, hB⟩ := hrel
    have HLO := Lib.hid hlo
    have HHI := Lib.hid hhi
    have HB := Lib.hid hB
    clear hlo hhi hB
    by_cases hlt : i < j
    · have d1 : decide ((i : Int) < (j : Int)) = true := decide_eq_true (by omega)
      obtain ⟨m, hmm⟩ : ∃ m : Nat, m = i + j := ⟨_, rfl⟩
      obtain ⟨h, hh⟩ : ∃ h : Nat, h = m / 2 := ⟨_, rfl⟩
      have s1 : IntKind.i64.wrap ((i : Int) + (j : Int)) = (m : Int) := by rw [IntWalk.i64_in _ (by omega)]; omega
      have s2 : IntKind.u64.wrap (m : Int) = (m : Int) := IntWalk.u64_in _ (by omega)
      have s3 : (m : Int) / 2 = (h : Int) := by omega
      have s4 : IntKind.i64.wrap (h : Int) = (h : Int) := IntWalk.i64_in _ (by omega)
      have s5 : IntKind.i64.wrap ((h : Int) + 1) = ((h + 1 : Nat) : Int) := by rw [IntWalk.i64_in _ (by omega)]; omega
      have hhN : h < N := by omega
      have hh2 : (h : Int) < (N : Int) := by omega
      have hi2 : i ≤ h ∧ h < j := by omega
      have HI2 := Lib.hid hi2
      clear hmm hh hi2
      obtain ⟨x, hx⟩ : ∃ x, L[h]? = some x := ⟨_, List.getElem?_eq_getElem (by rw [HN.out]; exact hhN)⟩
      obtain ⟨g, o, rfl, hg, hcell⟩ := HO.out (by rw [HN.out]; omega)
      have cc := fun (k : Nat) (hk : k < 5) => (HB.out.cell (p := ⟨g, o + h * 5 + k, none⟩) hg).trans (hcell h x hx k hk)
      have c0 : wr.cell? ⟨g, o + h * 5, none⟩ = some (.int .i64 0) := cc 0 (by decide)
      have c1 : wr.cell? ⟨g, o + h * 5 + 1, none⟩ = some (.slice none 0 0) := cc 1 (by decide)
      have c2 : wr.cell? ⟨g, o + h * 5 + 2, none⟩ = some (.string (strOfNums x.id)) := cc 2 (by decide)
      have c3 : wr.cell? ⟨g, o + h * 5 + 3, none⟩ = some (.int .i64 x.at_) := cc 3 (by decide)
      have c4 : wr.cell? ⟨g, o + h * 5 + 4, none⟩ = some (.int .u32 x.crc) := cc 4 (by decide)
      have HX := Lib.hid hx
      have HF := Lib.hid (find1_any x t wr)
      have HCX : Hid (cmpX x t = cmpX x t) := Lib.hid rfl
      clear cc hcell hx hg
      by_cases hneg : cmpX x t < 0
      · have d2 : decide (cmpX x t < 0) = true := decide_eq_true hneg
        have HL2 : Hid (∀ p y, p < h + 1 → L[p]? = some y → cmpX y t < 0) := Lib.hid (fun p y hp hy => HM.out p h y x (by omega) hy HX.out hneg)
        clear hneg
        go_wp2_with (go_at_call 31; refine HF.out.mono ?_; rintro e w5 ⟨rfl, hb5⟩)
        go_roundw
        case rel => exact ⟨h + 1, j, by go_num, rfl, by have := HI2.out; omega, hjN, HL2.out, HHI.out, HB.out.trans (hb5.mono HB.out.size)⟩
        case measure => have := HI2.out; simp [intOf]; omega
      · have d2 : decide (cmpX x t < 0) = false := decide_eq_false hneg
        have HL2 : Hid (∀ p y, h ≤ p → L[p]? = some y → 0 ≤ cmpX y t) := Lib.hid (fun p y hp hy => by
          by_cases hn : cmpX y t < 0
          · exact absurd (HM.out h p x y hp HX.out hy hn) hneg
          · omega)
        clear hneg
        go_wp2_with (go_at_call 31; refine HF.out.mono ?_; rintro e w5 ⟨rfl, hb5⟩)
        go_roundw
        case rel => exact ⟨i, h, rfl, rfl, HI2.out.1, by omega, HLO.out, HL2.out, HB.out.trans (hb5.mono HB.out.size)⟩
        case measure => have := HI2.out; simp [intOf]; omega
    · obtain rfl : i = j := by omega
      have d1 : decide ((i : Int) < (i : Int)) = false := decide_eq_false (by omega)
      by_cases hin : i < N
      · have d2 : decide ((i : Int) < (N : Int)) = true := decide_eq_true (by omega)
        have d2' : decide (i < N) = true := decide_eq_true hin
        have hi2 : (i : Int) < (N : Int) := by omega
        obtain ⟨x, hx⟩ : ∃ x, L[i]? = some x := ⟨_, List.getElem?_eq_getElem (by rw [HN.out]; exact hin)⟩
        obtain ⟨g, o, rfl, hg, hcell⟩ := HO.out (by rw [HN.out]; omega)
        have cc := fun (k : Nat) (hk : k < 5) => (HB.out.cell (p := ⟨g, o + i * 5 + k, none⟩) hg).trans (hcell i x hx k hk)
        have c0 : wr.cell? ⟨g, o + i * 5, none⟩ = some (.int .i64 0) := cc 0 (by decide)
        have c1 : wr.cell? ⟨g, o + i * 5 + 1, none⟩ = some (.slice none 0 0) := cc 1 (by decide)
        have c2 : wr.cell? ⟨g, o + i * 5 + 2, none⟩ = some (.string (strOfNums x.id)) := cc 2 (by decide)
        have c3 : wr.cell? ⟨g, o + i * 5 + 3, none⟩ = some (.int .i64 x.at_) := cc 3 (by decide)
        have c4 : wr.cell? ⟨g, o + i * 5 + 4, none⟩ = some (.int .u32 x.crc) := cc 4 (by decide)
        have HX := Lib.hid hx
        have HF := Lib.hid (find1_any x t wr)
        clear cc hcell hx hg
        by_cases hz : cmpX x t = 0
        · have d3 : (cmpX x t == 0) = true := by rw [beq_iff_eq]; exact hz
          have HZ := Lib.hid hz
          clear hz
          go_wp2_with (go_at_call 31; refine HF.out.mono ?_; rintro e w5 ⟨rfl, hb5⟩)
          go_ret2
          exact ⟨i, true, rfl, HB.out.trans (hb5.mono HB.out.size), by rw [HN.out]; omega, HLO.out, HHI.out, ⟨fun _ => ⟨x, HX.out, HZ.out⟩, fun _ => rfl⟩⟩
        · have d3 : (cmpX x t == 0) = false := by rw [beq_eq_false_iff_ne]; exact hz
          have HZ := Lib.hid hz
          clear hz
          go_wp2_with (go_at_call 31; refine HF.out.mono ?_; rintro e w5 ⟨rfl, hb5⟩)
          go_ret2
          exact ⟨i, false, rfl, HB.out.trans (hb5.mono HB.out.size), by rw [HN.out]; omega, HLO.out, HHI.out, ⟨fun h => (by cases h), fun ⟨y, hy, hy2⟩ => by rw [HX.out] at hy; injection hy with hy; subst hy; exact absurd hy2 HZ.out⟩⟩
      · have d2 : decide ((i : Int) < (N : Int)) = false := decide_eq_false (by omega)
        have d2' : decide (i < N) = false := decide_eq_false hin
        go_wp2
        go_ret2
        exact ⟨i, false, rfl, HB.out, by rw [HN.out]; omega, HLO.out, HHI.out, ⟨fun h => (by cases h), fun ⟨y, hy, _⟩ => by have := (List.getElem?_eq_some_iff.1 hy).1; rw [HN.out] at this; omega⟩⟩
theorem entsL_id {b : List Int} (i : Nat) (x : Ent) (hx : (entsL b)[i]? = some x) : x.id = hexL (idL b i) := by
  have hi := (List.getElem?_eq_some_iff.1 hx).1
  simp only [entsL, List.length_map, List.length_range] at hi
  rw [entsL, List.getElem?_map, List.getElem?_range hi] at hx
  injection hx with hx
  rw [← hx]; rfl
/-- Entries of an index stand in their order. -/
theorem entsL_lt {b : List Int} (hb : Bytes b) (hl : 1072 ≤ b.length) (h : errV b = 0) (p q : Nat) (x y : Ent) (hpq : p < q) (hx : (entsL b)[p]? = some x) (hy : (entsL b)[q]? = some y) : ltL x.id y.id = true := by
  have hacc : accB b = true := by
    cases ha : accB b
    · unfold errV at h
      rw [if_neg (by omega), if_pos ha] at h
      cases h
    · rfl
  simp only [accB, Bool.and_eq_true] at hacc
  obtain ⟨_, hok, hwh⟩ := hacc
  have hwl : b.length = 1072 + 28 * cntN b + 8 * farN b (cntN b) (cntN b) := of_decide_eq_true hwh
  have hord : ∀ j, j + 1 < cntN b → ltL (idL b j) (idL b (j + 1)) = true := fun j hj => by
    have := List.all_eq_true.1 hok (j + 1) (List.mem_range.2 hj)
    simp only [Bool.and_eq_true, Bool.not_eq_true', badO, Bool.or_eq_false_iff] at this
    have h1 := this.1.1.1
    have hd : decide (0 < j + 1) = true := decide_eq_true (by omega)
    rw [hd, Bool.true_and, Nat.add_sub_cancel] at h1
    simpa using h1
  have hq : q < cntN b := by have := (List.getElem?_eq_some_iff.1 hy).1; simpa [entsL] using this
  have hup : ∀ d, p + d < cntN b → 0 < d → ltL (idL b p) (idL b (p + d)) = true := by
    intro d
    induction d with
    | zero => intro _ h; omega
    | succ d ih =>
      intro h1 _
      by_cases hd : d = 0
      · subst hd; exact hord p h1
      · exact ltL_trans (ih (by omega) (by omega)) (hord (p + d) h1)
  have h1 := hup (q - p) (by omega) (by omega)
  rw [show p + (q - p) = q by omega] at h1
  have hil : ∀ i, i < cntN b → (idL b i).length = 20 := fun i hi => by unfold idL; rw [List.length_take, List.length_drop]; omega
  rw [entsL_id p x hx, entsL_id q y hy, hex_less _ _ (by rw [hil p (by omega), hil q hq]) (idL_ok hb p) (idL_ok hb q)]
  exact h1
theorem cmpX_lt {b : List Int} (hb : Bytes b) (i : Nat) (x : Ent) (t : ByteArray) (hx : (entsL b)[i]? = some x) : decide (cmpX x t < 0) = ltL x.id (bytesOf t) := by
  unfold cmpX
  rw [cmpS_lt, entsL_id i x hx, bytesOf_str _ (hexL_ok (idL_ok hb i))]
theorem cmpX_eq (x : Ent) (t : ByteArray) : cmpX x t = 0 ↔ strOfNums x.id = t := cmpS_eq _ _
theorem entsL_up {b : List Int} (hb : Bytes b) (hl : 1072 ≤ b.length) (h : errV b = 0) (t : ByteArray) (p q : Nat) (x y : Ent) (hpq : p ≤ q) (hx : (entsL b)[p]? = some x) (hy : (entsL b)[q]? = some y) (hn : cmpX y t < 0) : cmpX x t < 0 := by
  by_cases he : p = q
  · subst he
    rw [hx] at hy
    injection hy with hy
    rw [hy]; exact hn
  · have h2 := entsL_lt hb hl h p q x y (by omega) hx hy
    have h3 := cmpX_lt hb q y t hy
    rw [decide_eq_true hn] at h3
    refine of_decide_eq_true (?_ : decide _ = true)
    rw [cmpX_lt hb p x t hx]
    exact ltL_trans h2 h3.symm
def FindPost (b : List Int) (t : ByteArray) (w : World) (e : Ending) (w' : World) : Prop :=
  ∃ (at_ : Int) (ok : Bool), e = .returned (.tuple #[.int .i64 at_, .bool ok]) ∧ Below w.heap.size w w' ∧ (ok = true → errV b = 0 ∧ ∃ x ∈ entsL b, strOfNums x.id = t ∧ at_ = x.at_) ∧ (ok = false → at_ = 0 ∧ (errV b = 0 → ∀ x ∈ entsL b, strOfNums x.id ≠ t))
theorem FindPost.of_search {b : List Int} {t : ByteArray} {i : Nat} (hb : Bytes b) (hl : 1072 ≤ b.length) (h : errV b = 0) (h1 : ∀ p x, p < i → (entsL b)[p]? = some x → cmpX x t < 0) (h2 : ∀ p x, i ≤ p → (entsL b)[p]? = some x → 0 ≤ cmpX x t) (h3 : ¬ ∃ x, (entsL b)[i]? = some x ∧ cmpX x t = 0) : ∀ x ∈ entsL b, strOfNums x.id ≠ t := by
  intro x hx he
  obtain ⟨p, hp, hxe⟩ := List.getElem_of_mem hx
  have hx' : (entsL b)[p]? = some x := by rw [List.getElem?_eq_getElem hp, hxe]
  have hz := (cmpX_eq x t).2 he
  rcases Nat.lt_trichotomy p i with hpi | hpi | hpi
  · have := h1 p x hpi hx'; omega
  · subst hpi; exact h3 ⟨x, hx', hz⟩
  · obtain ⟨y, hy⟩ : ∃ y, (entsL b)[i]? = some y := ⟨_, List.getElem?_eq_getElem (by omega)⟩
    have h4 := entsL_lt hb hl h i p y x hpi hy hx'
    have h5 := h2 i y (Nat.le_refl _) hy
    have h6 := cmpX_lt hb i y t hy
    rw [← he, bytesOf_str _ (by rw [entsL_id p x hx']; exact hexL_ok (idL_ok hb p)), h4, he] at h6
    have := of_decide_eq_true h6
    omega
theorem cntN_le {b : List Int} (hl : 1072 ≤ b.length) (h : errV b = 0) : cntN b ≤ 4096 := by
  have hacc : accB b = true := by
    cases ha : accB b
    · unfold errV at h
      rw [if_neg (by omega), if_pos ha] at h
      cases h
    · rfl
  simp only [accB, headB, Bool.and_eq_true, decide_eq_true_eq] at hacc
  have := hacc.1.2.2.1
  unfold cntN
  omega
set_option maxRecDepth 100000 in
set_option maxHeartbeats 4000000 in
theorem iFind_any (blk off N c : Nat) (b : List Int) (t : ByteArray) (w : World) (hI : Ints .u8 w (some ⟨blk, off, none⟩) b) (hN : b.length = N) (hb : Bytes b) (hl : 1072 ≤ N) (hc : N ≤ c) (hcm : c ≤ 9223372036854775807) (hsz : N ≤ 140737488351300) :
    Calls Try.prog 10 #[.slice (some ⟨blk, off, none⟩) N c, .string t] w (FindPost b t w) := by
  have HP := Lib.hid (iParse_any blk off N c b w hI hN hb hl hc hcm hsz)
  have HL : Hid (1072 ≤ b.length) := Lib.hid (by rw [hN]; exact hl)
  have HB := Lib.hid hb
  clear hI hN hb
  go_enter Try.func10, Try.ntmps10
  go_wp2_with fail
  refine HP.out.mono ?_
  rintro e w1 ⟨v, rfl, hv1, hv2, hb1⟩
  have HB1 := Lib.hid hb1
  clear hb1 HP
  generalize (if errV b = 0 then strOfNums (packV b) else (⟨#[]⟩ : ByteArray)) = PK
  by_cases hz : errV b = 0
  · obtain ⟨A, cc, rfl, hO⟩ := hv1 hz
    have hle := cntN_le HL.out hz
    have HS := Lib.hid (search_any A (cntN b) cc (entsL b) t w1 hO (by simp [entsL]) hle (entsL_up HB.out HL.out hz t))
    have HO := Lib.hid hO
    have HZ := Lib.hid hz
    rw [hz]
    clear hv1 hv2 hO hz
    have hlen : (entsL b).length = cntN b := by simp [entsL]
    go_wp2_with fail
    refine HS.out.mono ?_
    rintro e w2 ⟨i, ok, rfl, hb2, hi, h1, h2, h3⟩
    rw [hlen] at hi
    have HB2 := Lib.hid hb2
    have H1 := Lib.hid h1
    have H2 := Lib.hid h2
    have H3 := Lib.hid h3
    clear hb2 h1 h2 h3 HS
    cases ok
    · go_wp2
      go_ret2
      exact ⟨0, false, rfl, HB1.out.trans (HB2.out.mono HB1.out.size), (fun h => by cases h), fun _ => ⟨rfl, fun hz => FindPost.of_search HB.out HL.out hz H1.out H2.out (fun h => by have := H3.out.2 h; cases this)⟩⟩
    · obtain ⟨x, hx, hcx⟩ := H3.out.1 rfl
      have hin := (List.getElem?_eq_some_iff.1 hx).1
      rw [hlen] at hin
      obtain ⟨g, o, rfl, hg, hcell⟩ := HO.out (by rw [hlen]; omega)
      have c3 : w2.cell? ⟨g, o + i * 5 + 3, none⟩ = some (.int .i64 x.at_) := (HB2.out.cell (p := ⟨g, o + i * 5 + 3, none⟩) hg).trans (hcell i x hx 3 (by decide))
      have hin2 : (i : Int) < (cntN b : Int) := by omega
      have HX := Lib.hid (List.mem_of_getElem? hx)
      have HCX := Lib.hid hcx
      clear hcell hg hx hcx hi hlen H1 H2 H3
      go_wp2
      go_ret2
      exact ⟨x.at_, true, rfl, HB1.out.trans (HB2.out.mono HB1.out.size), (fun _ => ⟨HZ.out, x, HX.out, (cmpX_eq x t).1 HCX.out, rfl⟩), fun h => by cases h⟩
  · obtain rfl := hv2 hz
    have hne : (errV b == 0) = false := by rw [beq_eq_false_iff_ne]; exact hz
    have HZ := Lib.hid hz
    clear hv1 hv2
    obtain ⟨ev, hev⟩ : ∃ ev, errV b = ev := ⟨_, rfl⟩
    rw [hev] at hne ⊢
    clear hz hev
    go_wp2
    go_ret2
    exact ⟨0, false, rfl, HB1.out, (fun h => by cases h), fun _ => ⟨rfl, fun h => absurd h HZ.out⟩⟩
end Go.Proofs.Ytndjebddgnmpfaa
namespace Go.Proofs.Ytndjebddgnmpfaa
open Go.RowKit
set_option linter.unusedVariables false
set_option linter.unusedSimpArgs false

theorem hexL_at2 (xs : List Int) : ∀ (j : Nat), j < xs.length → (hexL xs).getD (2 * j) 0 = hexd (xs.getD j 0 / 16) ∧ (hexL xs).getD (2 * j + 1) 0 = hexd (xs.getD j 0 % 16) := by
  induction xs with
  | nil => intro j hj; simp at hj
  | cons y ys ih =>
    intro j hj
    cases j with
    | zero => exact ⟨rfl, rfl⟩
    | succ j =>
      have := ih j (by simpa using hj)
      rw [show 2 * (j + 1) = 2 * j + 1 + 1 by omega, show 2 * j + 1 + 1 + 1 = (2 * j + 1) + 1 + 1 by omega]
      exact this
theorem hexd_dig (c : Int) (h : (dig c).isSome = true) : hexd ((dig c).getD 0) = c := by
  unfold dig at h ⊢
  by_cases h1 : 48 ≤ c ∧ c ≤ 57
  · rw [if_pos h1]; simp only [Option.getD_some]; unfold hexd; rw [if_pos (by omega)]; omega
  · rw [if_neg h1] at h ⊢
    by_cases h2 : 97 ≤ c ∧ c ≤ 102
    · rw [if_pos h2]; simp only [Option.getD_some]; unfold hexd; rw [if_neg (by omega)]; omega
    · rw [if_neg h2] at h; cases h
/-- A text of digits is told by its bytes. -/
theorem hex_unV (l : List Int) (h : unOk l = true) : hexL (unV l) = l := by
  have h' := h
  simp only [unOk, Bool.and_eq_true, beq_iff_eq, List.all_eq_true, List.mem_range] at h'
  obtain ⟨hev, hp⟩ := h'
  unfold unV
  rw [if_pos h]
  have hl : (hexL (unTo l (l.length / 2))).length = l.length := by rw [hexL_len, unTo_len]; omega
  have key : ∀ j, j < l.length → (hexL (unTo l (l.length / 2))).getD j 0 = l.getD j 0 := fun j hj => by
    have hk : j / 2 < l.length / 2 := by omega
    have hkl : j / 2 < (unTo l (l.length / 2)).length := by rw [unTo_len]; exact hk
    obtain ⟨h1, h2⟩ := hexL_at2 (unTo l (l.length / 2)) (j / 2) hkl
    have hpj := hp (j / 2) hk
    simp only [pairOk, Bool.and_eq_true] at hpj
    have e : (unTo l (l.length / 2)).getD (j / 2) 0 = pairV l (j / 2) := by
      rw [List.getD_eq_getElem?_getD, List.getElem?_eq_getElem hkl]
      simp [unTo]
    rw [e] at h1 h2
    have d1 := dig_ok (l.getD (2 * (j / 2)) 0)
    have d2 := dig_ok (l.getD (2 * (j / 2) + 1) 0)
    have e1 : pairV l (j / 2) / 16 = (dig (l.getD (2 * (j / 2)) 0)).getD 0 := by unfold pairV; omega
    have e2 : pairV l (j / 2) % 16 = (dig (l.getD (2 * (j / 2) + 1) 0)).getD 0 := by unfold pairV; omega
    rw [e1, hexd_dig _ hpj.1] at h1
    rw [e2, hexd_dig _ hpj.2] at h2
    by_cases hj2 : j % 2 = 0
    · rw [show 2 * (j / 2) = j by omega] at h1; exact h1
    · rw [show 2 * (j / 2) + 1 = j by omega] at h2; exact h2
  apply List.ext_getElem hl
  intro j h1 h2
  have := key j h2
  rw [List.getD_eq_getElem?_getD, List.getElem?_eq_getElem h1, List.getD_eq_getElem?_getD, List.getElem?_eq_getElem h2] at this
  simpa using this

/-- A stretch. -/
def chunk (b : List Int) (p m : Nat) : List Int := (b.drop p).take m
theorem chunk_mid (X Y Z : List Int) (p q m : Nat) (hp : p = X.length + q) (hq : q + m ≤ Y.length) : chunk (X ++ Y ++ Z) p m = chunk Y q m := by
  unfold chunk
  subst hp
  rw [List.append_assoc, List.drop_append, List.drop_of_length_le (by omega), List.nil_append, Nat.add_sub_cancel_left, List.drop_append_of_le_length (by omega), List.take_append_of_le_length (by rw [List.length_drop]; omega)]
theorem chunk_all (X Y Z : List Int) (p m : Nat) (hp : p = X.length) (hm : m = Y.length) : chunk (X ++ Y ++ Z) p m = Y := by
  rw [chunk_mid X Y Z p 0 m (by omega) (by omega)]
  unfold chunk
  rw [List.drop_zero, hm, List.take_length]
theorem flat_split {α : Type} (f : α → List Int) (S : List α) (i : Nat) (x : α) (hx : S[i]? = some x) : S.flatMap f = (S.take i).flatMap f ++ f x ++ (S.drop (i + 1)).flatMap f := by
  have h := (List.getElem?_eq_some_iff.1 hx)
  obtain ⟨hi, hx⟩ := h
  conv => lhs; rw [← List.take_append_drop i S, List.drop_eq_getElem_cons hi, hx]
  rw [List.flatMap_append, List.flatMap_cons, List.append_assoc]
theorem flat_len {α : Type} (f : α → List Int) (m : Nat) : ∀ S : List α, (∀ x ∈ S, (f x).length = m) → (S.flatMap f).length = m * S.length
  | [], _ => rfl
  | x :: S, h => by
    rw [List.flatMap_cons, List.length_append, h x (.head _), flat_len f m S (fun y hy => h y (.tail _ hy)), List.length_cons, Nat.mul_succ]; omega
theorem chunk_flat {α : Type} (f : α → List Int) (m : Nat) (S : List α) (h : ∀ x ∈ S, (f x).length = m) (i : Nat) (x : α) (hx : S[i]? = some x) : chunk (S.flatMap f) (m * i) m = f x := by
  have hi := (List.getElem?_eq_some_iff.1 hx).1
  rw [flat_split f S i x hx]
  refine chunk_all _ _ _ _ _ ?_ (h x (List.mem_of_getElem? hx)).symm
  rw [flat_len f m _ (fun y hy => h y (List.mem_of_mem_take hy)), List.length_take]
  congr 1
  omega
theorem n4_chunk {b : List Int} {p : Nat} {v : Int} (h : chunk b p 4 = beI v) (h0 : 0 ≤ v) (h1 : v < 4294967296) : n4 b p = v := by
  rw [← n4_drop]
  have key : ∀ j, j < 4 → (b.drop p).getD j 0 = (beI v).getD j 0 := fun j hj => by
    rw [← h]
    unfold chunk
    rw [List.getD_eq_getElem?_getD, List.getD_eq_getElem?_getD, List.getElem?_take, if_pos hj]
  unfold n4
  rw [key 0 (by decide), key 1 (by decide), key 2 (by decide), key 3 (by decide)]
  simp only [beI, List.getD_cons_zero, List.getD_cons_succ]
  omega
theorem chunk_fan (S : List El) (i : Nat) (hi : i < 256) : chunk (fanL S 256) (4 * i) 4 = beI ((cntLt S ((i : Int) + 1) : Nat) : Int) := by
  have := chunk_flat (fun c : Nat => beI ((cntLt S ((c : Int) + 1) : Nat) : Int)) 4 (List.range 256) (fun _ _ => rfl) i i (by rw [List.getElem?_range hi])
  exact this
theorem placesL_split : ∀ (S : List El) (k i : Nat) (x : El), S[i]? = some x → ∃ Z, placesL k S = placesL k (S.take i) ++ placeV x (k + nfar (S.take i)) ++ Z
  | [], _, _, _, h => by simp at h
  | y :: S, k, 0, x, h => by
    simp at h
    subst h
    exact ⟨_, by simp [placesL, nfar]; rfl⟩
  | y :: S, k, i + 1, x, h => by
    obtain ⟨Z, hZ⟩ := placesL_split S (if isFar y = true then k + 1 else k) i x (by simpa using h)
    refine ⟨Z, ?_⟩
    rw [placesL, hZ, List.take_succ_cons, placesL]
    have e : (if isFar y = true then k + 1 else k) + nfar (S.take i) = k + nfar (y :: S.take i) := by
      unfold nfar
      cases hy : isFar y <;> simp [hy]
      omega
    rw [e]
    simp [List.append_assoc]
theorem placeV_len (x : El) (k : Nat) : (placeV x k).length = 4 := by unfold placeV; split <;> rfl
theorem chunk_places (S : List El) (i : Nat) (x : El) (hx : S[i]? = some x) : chunk (placesL 0 S) (4 * i) 4 = placeV x (nfar (S.take i)) := by
  obtain ⟨Z, hZ⟩ := placesL_split S 0 i x hx
  have hi := (List.getElem?_eq_some_iff.1 hx).1
  rw [hZ, Nat.zero_add]
  exact chunk_all _ _ _ _ _ (by rw [placesL_len, List.length_take]; omega) (placeV_len _ _).symm
theorem chunk_far (S : List El) (i : Nat) (x : El) (hx : S[i]? = some x) (hf : isFar x = true) : chunk (farL S) (8 * nfar (S.take i)) 8 = beI (x.at_ / 4294967296) ++ beI x.at_ := by
  have hv : farV x = beI (x.at_ / 4294967296) ++ beI x.at_ := by
    unfold farV isFar at *
    rw [if_neg (by have := of_decide_eq_true hf; omega)]
  rw [← hv]
  unfold farL
  rw [flat_split farV S i x hx]
  exact chunk_all _ _ _ _ _ (farL_len _).symm (by rw [hv]; rfl)

/-- What a text that is built says. -/
structure Reads (S : List El) (P : List Int) (b : List Int) : Prop where
  len : b.length = 1072 + 28 * S.length + 8 * nfar S
  ok : Bytes b
  magic : b.take 8 = magicL
  fans : ∀ i, i < 256 → fan b i = (cntLt S ((i : Int) + 1) : Nat)
  id : ∀ i x, S[i]? = some x → idL b i = uid x
  crc : ∀ i x, S[i]? = some x → crcA b S.length i = x.crc
  at_ : ∀ i x, S[i]? = some x → atV b S.length i = if x.at_ < 2147483648 then x.at_ else 2147483648 + (nfar (S.take i) : Int)
  big : ∀ i x, S[i]? = some x → isFar x = true → bigV b S.length (nfar (S.take i)) = x.at_
  pack : packV b = hexL P
  sum : sumB b = true
/-- What Build asks of each. -/
def OkS (S : List El) : Prop := S.length ≤ 4096 ∧ (∀ x ∈ S, okO x = true ∧ 0 ≤ x.crc ∧ x.crc < 4294967296)
theorem beI_low (x : Int) (h0 : 0 ≤ x) : beI x = beI (x % 4294967296) := by
  unfold beI
  congr 1
  · omega
  · congr 1
    · omega
    · congr 1
      · omega
      · congr 1
        omega
theorem reads_build {S : List El} {P : List Int} (hS : OkS S) (hP : P.length = 20) (hPb : Bytes P) : Reads S P (buildL S P) := by
  obtain ⟨hn, hx⟩ := hS
  have hu : ∀ x ∈ S, (uid x).length = 20 := fun x h => (okO_uid (hx x h).1).2.1
  have hbl := bodyL_len S P hu
  have hbo := bodyL_ok S P hPb
  have hsl := shaAll_len (bodyL S P)
  have hnl := namesL_len S hu
  have hcl := crcsL_len S
  have hpl := placesL_len S 0
  have hfl := farL_len S
  have hgl := fanL_len S 256
  have hml : beginL.length = 8 := rfl
  have hnf := nfar_le S
  have hb : buildL S P = beginL ++ fanL S 256 ++ namesL S ++ crcsL S ++ placesL 0 S ++ farL S ++ P ++ shaAll (bodyL S P) := rfl
  have hlen : (buildL S P).length = 1072 + 28 * S.length + 8 * nfar S := by
    unfold buildL
    rw [List.length_append, hbl, hsl]; omega
  have c1 : ∀ q m, q + m ≤ 1024 → chunk (buildL S P) (8 + q) m = chunk (fanL S 256) q m := fun q m h => by
    rw [hb, show beginL ++ fanL S 256 ++ namesL S ++ crcsL S ++ placesL 0 S ++ farL S ++ P ++ shaAll (bodyL S P) = beginL ++ fanL S 256 ++ (namesL S ++ crcsL S ++ placesL 0 S ++ farL S ++ P ++ shaAll (bodyL S P)) by simp [List.append_assoc]]
    exact chunk_mid _ _ _ _ q m (by rw [hml]) (by omega)
  have c2 : ∀ q m, q + m ≤ 20 * S.length → chunk (buildL S P) (1032 + q) m = chunk (namesL S) q m := fun q m h => by
    rw [hb, show beginL ++ fanL S 256 ++ namesL S ++ crcsL S ++ placesL 0 S ++ farL S ++ P ++ shaAll (bodyL S P) = (beginL ++ fanL S 256) ++ namesL S ++ (crcsL S ++ placesL 0 S ++ farL S ++ P ++ shaAll (bodyL S P)) by simp [List.append_assoc]]
    exact chunk_mid _ _ _ _ q m (by rw [List.length_append, hml, hgl]) (by omega)
  have c3 : ∀ q m, q + m ≤ 4 * S.length → chunk (buildL S P) (1032 + 20 * S.length + q) m = chunk (crcsL S) q m := fun q m h => by
    rw [hb, show beginL ++ fanL S 256 ++ namesL S ++ crcsL S ++ placesL 0 S ++ farL S ++ P ++ shaAll (bodyL S P) = (beginL ++ fanL S 256 ++ namesL S) ++ crcsL S ++ (placesL 0 S ++ farL S ++ P ++ shaAll (bodyL S P)) by simp [List.append_assoc]]
    exact chunk_mid _ _ _ _ q m (by simp only [List.length_append, hml, hgl, hnl]) (by omega)
  have c4 : ∀ q m, q + m ≤ 4 * S.length → chunk (buildL S P) (1032 + 24 * S.length + q) m = chunk (placesL 0 S) q m := fun q m h => by
    rw [hb, show beginL ++ fanL S 256 ++ namesL S ++ crcsL S ++ placesL 0 S ++ farL S ++ P ++ shaAll (bodyL S P) = (beginL ++ fanL S 256 ++ namesL S ++ crcsL S) ++ placesL 0 S ++ (farL S ++ P ++ shaAll (bodyL S P)) by simp [List.append_assoc]]
    exact chunk_mid _ _ _ _ q m (by simp only [List.length_append, hml, hgl, hnl, hcl]; omega) (by omega)
  have c5 : ∀ q m, q + m ≤ 8 * nfar S → chunk (buildL S P) (1032 + 28 * S.length + q) m = chunk (farL S) q m := fun q m h => by
    rw [hb, show beginL ++ fanL S 256 ++ namesL S ++ crcsL S ++ placesL 0 S ++ farL S ++ P ++ shaAll (bodyL S P) = (beginL ++ fanL S 256 ++ namesL S ++ crcsL S ++ placesL 0 S) ++ farL S ++ (P ++ shaAll (bodyL S P)) by simp [List.append_assoc]]
    exact chunk_mid _ _ _ _ q m (by simp only [List.length_append, hml, hgl, hnl, hcl, hpl]; omega) (by omega)
  have hat : ∀ i x, S[i]? = some x → atV (buildL S P) S.length i = if x.at_ < 2147483648 then x.at_ else 2147483648 + (nfar (S.take i) : Int) := fun i x h => by
    have hi := (List.getElem?_eq_some_iff.1 h).1
    have ho := okO_uid (hx x (List.mem_of_getElem? h)).1
    have hni := nfar_le (S.take i)
    rw [List.length_take] at hni
    have e := c4 (4 * i) 4 (by omega)
    rw [chunk_places S i x h] at e
    unfold placeV at e
    unfold atV
    by_cases hf : x.at_ < 2147483648
    · rw [if_pos hf] at e ⊢
      exact n4_chunk e ho.2.2.1 (by omega)
    · rw [if_neg hf] at e ⊢
      exact n4_chunk e (by omega) (by omega)
  refine ⟨hlen, ?_, ?_, ?_, ?_, ?_, hat, ?_, ?_, ?_⟩
  · intro x h
    rcases List.mem_append.1 h with h | h
    · exact hbo x h
    · exact shaAll_bytes _ x h
  · rw [hb, show beginL ++ fanL S 256 ++ namesL S ++ crcsL S ++ placesL 0 S ++ farL S ++ P ++ shaAll (bodyL S P) = beginL ++ (fanL S 256 ++ namesL S ++ crcsL S ++ placesL 0 S ++ farL S ++ P ++ shaAll (bodyL S P)) by simp [List.append_assoc]]
    rw [List.take_append_of_le_length (by rw [hml]; exact Nat.le_refl _)]
    rfl
  · intro i hi
    have e := c1 (4 * i) 4 (by omega)
    rw [chunk_fan S i hi] at e
    have := cntLt_le S ((i : Int) + 1)
    exact n4_chunk e (by omega) (by omega)
  · intro i x h
    have hi := (List.getElem?_eq_some_iff.1 h).1
    have e := c2 (20 * i) 20 (by omega)
    have e2 : chunk (namesL S) (20 * i) 20 = uid x := chunk_flat uid 20 S hu i x h
    rw [e2] at e
    exact e
  · intro i x h
    have hi := (List.getElem?_eq_some_iff.1 h).1
    have ho := (hx x (List.mem_of_getElem? h)).2
    have e := c3 (4 * i) 4 (by omega)
    have e2 : chunk (crcsL S) (4 * i) 4 = beI x.crc := chunk_flat (fun x : El => beI x.crc) 4 S (fun _ _ => rfl) i x h
    rw [e2] at e
    exact n4_chunk e ho.1 ho.2
  · intro i x h hf
    have hi := (List.getElem?_eq_some_iff.1 h).1
    have ho := okO_uid (hx x (List.mem_of_getElem? h)).1
    have hle : nfar (S.take i) + 1 ≤ nfar S := by
      have h1 : nfar (S.take (i + 1)) ≤ nfar S := by
        unfold nfar
        exact ((List.take_sublist (i + 1) S).filter _).length_le
      rw [List.take_add_one, h] at h1
      have h2 := nfar_snoc (S.take i) x
      rw [if_pos hf] at h2
      have h3 : S.take i ++ (some x).toList = S.take i ++ [x] := rfl
      rw [h3, h2] at h1
      exact h1
    have hq : x.at_ / 4294967296 < 4294967296 := by omega
    have e := c5 (8 * nfar (S.take i)) 8 (by omega)
    rw [chunk_far S i x h hf] at e
    have a1 : chunk (buildL S P) (1032 + 28 * S.length + 8 * nfar (S.take i)) 4 = beI (x.at_ / 4294967296) := by
      have := congrArg (List.take 4) e
      unfold chunk at this ⊢
      rw [List.take_take] at this
      simpa [beI] using this
    have a2 : chunk (buildL S P) (1032 + 28 * S.length + 8 * nfar (S.take i) + 4) 4 = beI x.at_ := by
      have := congrArg (List.drop 4) e
      unfold chunk at this ⊢
      rw [List.drop_take, List.drop_drop] at this
      simpa [beI] using this
    rw [beI_low _ ho.2.2.1] at a2
    unfold bigV
    rw [n4_chunk a1 (by omega) (by omega), n4_chunk a2 (by omega) (by omega)]
    omega
  · unfold packV
    rw [hlen, show 1072 + 28 * S.length + 8 * nfar S - 40 = 1032 + 28 * S.length + 8 * nfar S by omega]
    have e : chunk (buildL S P) (1032 + 28 * S.length + 8 * nfar S) 20 = P := by
      rw [hb]
      exact chunk_all _ _ _ _ _ (by simp only [List.length_append, hml, hgl, hnl, hcl, hpl, hfl]; omega) hP.symm
    unfold chunk at e
    rw [e]
  · unfold sumB
    rw [hlen, show 1072 + 28 * S.length + 8 * nfar S - 20 = (bodyL S P).length by rw [hbl]; omega]
    unfold buildL
    rw [List.take_left, List.drop_left]
    exact decide_eq_true rfl
/-- An object as an entry. -/
def entOf (x : El) : Ent := ⟨bytesOf x.id, x.at_, x.crc⟩
theorem GoodS.lt {S : List El} (hG : GoodS S) (hs : Srt.Sorted ltE S) (i : Nat) (x y : El) (hx : S[i]? = some x) (hy : S[i + 1]? = some y) : ltE x y = true := by
  have hi := (List.getElem?_eq_some_iff.1 hy).1
  have hb := hG (i + 1) hi
  rw [badAt_some hy, sameAt_succ hy hx] at hb
  simp only [Bool.or_eq_false_iff, decide_eq_false_iff_not] at hb
  have hle : ltE y x = false := by
    obtain ⟨h1, h2⟩ := List.getElem?_eq_some_iff.1 hx
    obtain ⟨h3, h4⟩ := List.getElem?_eq_some_iff.1 hy
    have := List.pairwise_iff_getElem.1 hs i (i + 1) h1 h3 (by omega)
    rw [h2, h4] at this
    exact this
  have ht := ltL_tot (bytesOf y.id) (bytesOf x.id)
  unfold ltE at hle ⊢
  rw [hle] at ht
  simp only [Bool.not_false, Bool.true_eq, Bool.or_eq_true, decide_eq_true_eq] at ht
  rcases ht with ht | ht
  · exact ht
  · refine absurd ?_ hb.1
    rw [← strOfNums_bytes x.id, ht, strOfNums_bytes]
theorem GoodS.ltAll {S : List El} (hG : GoodS S) (hs : Srt.Sorted ltE S) (i : Nat) (x : El) (hx : S[i]? = some x) : ∀ (d : Nat) (y : El), S[i + d + 1]? = some y → ltE x y = true := by
  intro d
  induction d with
  | zero => intro y hy; exact hG.lt hs i x y hx hy
  | succ d ih =>
    intro y hy
    have hi := (List.getElem?_eq_some_iff.1 hy).1
    obtain ⟨z, hz⟩ : ∃ z, S[i + d + 1]? = some z := ⟨_, List.getElem?_eq_getElem (by omega)⟩
    exact swoE.tr _ _ _ (ih z hz) (hG.lt hs (i + d + 1) z y hz hy)
theorem okO_hex {x : El} (h : okO x = true) : hexL (uid x) = bytesOf x.id := hex_unV _ (okO_uid h).1
theorem lt_uid {x y : El} (hx : okO x = true) (hy : okO y = true) : ltL (uid x) (uid y) = ltE x y := by
  unfold ltE
  rw [← okO_hex hx, ← okO_hex hy, hex_less _ _ (by rw [(okO_uid hx).2.1, (okO_uid hy).2.1]) (uid_ok x) (uid_ok y)]
theorem hd_le {u v : List Int} (h : ltL u v = true) (hu : 0 < u.length) : u.getD 0 0 ≤ v.getD 0 0 := by
  cases u with
  | nil => simp at hu
  | cons a r =>
    cases v with
    | nil => simp [ltL] at h
    | cons c s =>
      simp only [ltL, Bool.or_eq_true, Bool.and_eq_true, decide_eq_true_eq] at h
      simp only [List.getD_cons_zero]
      omega
theorem cntLt_append (S T : List El) (c : Int) : cntLt (S ++ T) c = cntLt S c + cntLt T c := by
  unfold cntLt
  rw [List.filter_append, List.length_append]
theorem cntLt_all {S : List El} {c : Int} (h : ∀ x ∈ S, hd0 x < c) : cntLt S c = S.length := by
  unfold cntLt
  rw [List.filter_eq_self.2 (fun x hx => decide_eq_true (h x hx))]
theorem cntLt_none {S : List El} {c : Int} (h : ∀ x ∈ S, c ≤ hd0 x) : cntLt S c = 0 := by
  unfold cntLt
  rw [List.length_eq_zero_iff, List.filter_eq_nil_iff]
  intro x hx
  have := h x hx
  simp only [decide_eq_true_eq]
  omega
theorem cntLt_mono (S : List El) {c d : Int} (h : c ≤ d) : cntLt S c ≤ cntLt S d := by
  unfold cntLt
  induction S with
  | nil => exact Nat.le_refl _
  | cons x S ih =>
    simp only [List.filter_cons, decide_eq_true_eq]
    by_cases h1 : hd0 x < c
    · rw [if_pos h1, if_pos (by omega)]
      simp only [List.length_cons]; omega
    · rw [if_neg h1]
      split
      · simp only [List.length_cons]; omega
      · exact ih
section
variable {S : List El} {P b : List Int}
theorem Reads.cnt (h : Reads S P b) (hu : ∀ x ∈ S, (uid x).length = 20) : cntN b = S.length := by
  unfold cntN
  rw [h.fans 255 (by decide), cntLt_all (fun x hx => by have := hd0_ok (hu x hx); omega)]
  rfl
theorem Reads.far (h : Reads S P b) : ∀ i, i ≤ S.length → farN b S.length i = nfar (S.take i)
  | 0, _ => by rw [farN, List.take_zero]; rfl
  | i + 1, hi => by
    obtain ⟨x, hx⟩ : ∃ x, S[i]? = some x := ⟨_, List.getElem?_eq_getElem (by omega)⟩
    rw [farN, Reads.far h i (by omega), h.at_ i x hx, List.take_add_one, hx]
    show _ = nfar (S.take i ++ [x])
    rw [nfar_snoc]
    congr 1
    unfold isFar
    by_cases hf : x.at_ < 2147483648
    · rw [if_pos hf, if_neg (by omega), if_neg (by rw [decide_eq_true_eq]; omega)]
    · rw [if_neg hf, if_pos (by omega), if_pos (by rw [decide_eq_true_eq]; omega)]
theorem Reads.loc (h : Reads S P b) (i : Nat) (x : El) (hx : S[i]? = some x) : locV b S.length i = x.at_ := by
  have hi := (List.getElem?_eq_some_iff.1 hx).1
  unfold locV
  rw [h.at_ i x hx, h.far i (by omega)]
  by_cases hf : x.at_ < 2147483648
  · rw [if_pos hf, if_neg (by omega)]
  · rw [if_neg hf, if_pos (by omega)]
    exact h.big i x hx (decide_eq_true (by omega))
theorem Reads.hd (h : Reads S P b) (i : Nat) (x : El) (hx : S[i]? = some x) (hu : (uid x).length = 20) : ((id0 b i : Nat) : Int) = hd0 x := by
  have e := h.id i x hx
  have hb := hd0_ok hu
  have e2 : b.getD (1032 + 20 * i) 0 = hd0 x := by
    unfold hd0
    rw [← e]
    unfold idL
    rw [List.getD_eq_getElem?_getD, List.getD_eq_getElem?_getD, List.getElem?_take, if_pos (by decide), List.getElem?_drop]
    rfl
  unfold id0
  rw [e2]
  omega
theorem Reads.whole (h : Reads S P b) (hG : GoodS S) (hn : S.length ≤ 4096) (hs : Srt.Sorted ltE S) : errV b = 0 ∧ cntN b = S.length ∧ entsL b = S.map entOf := by
  have hok : ∀ x ∈ S, okO x = true := fun x hx => hG.all hx
  have hu : ∀ x ∈ S, (uid x).length = 20 := fun x hx => (okO_uid (hok x hx)).2.1
  have hc := h.cnt hu
  have hel : entsL b = S.map entOf := by
    unfold entsL
    rw [hc]
    apply List.ext_getElem
    · simp
    · intro i h1 h2
      have hi : i < S.length := by simpa using h2
      have hx : S[i]? = some S[i] := List.getElem?_eq_getElem hi
      simp only [List.getElem_map, List.getElem_range]
      unfold entV entOf
      rw [h.id i _ hx, h.loc i _ hx, h.crc i _ hx, okO_hex (hok _ (List.getElem_mem hi))]
  refine ⟨?_, hc, hel⟩
  have hlen := h.len
  have hhd : ∀ (i j : Nat) (x y : El), i ≤ j → S[i]? = some x → S[j]? = some y → hd0 x ≤ hd0 y := fun i j x y hij hx hy => by
    by_cases he : i = j
    · subst he
      rw [hx] at hy
      injection hy with hy
      rw [hy]; exact Int.le_refl _
    · have h1 := hG.ltAll hs i x hx (j - i - 1) y (by rw [show i + (j - i - 1) + 1 = j by omega]; exact hy)
      rw [← lt_uid (hok x (List.mem_of_getElem? hx)) (hok y (List.mem_of_getElem? hy))] at h1
      exact hd_le h1 (by rw [hu x (List.mem_of_getElem? hx)]; decide)
  have hbadO : ∀ i, i < S.length → badO b i = false := fun i hi => by
    have hx : S[i]? = some S[i] := List.getElem?_eq_getElem hi
    have hm := List.getElem_mem hi
    have hd := h.hd i _ hx (hu _ hm)
    have hb := hd0_ok (hu _ hm)
    have e1 : (decide (0 < i) && !ltL (idL b (i - 1)) (idL b i)) = false := by
      by_cases h0 : 0 < i
      · obtain ⟨j, rfl⟩ : ∃ j, i = j + 1 := ⟨i - 1, by omega⟩
        have hy : S[j]? = some S[j] := List.getElem?_eq_getElem (by omega)
        rw [Nat.add_sub_cancel, h.id _ _ hx, h.id _ _ hy, lt_uid (hok _ (List.getElem_mem _)) (hok _ hm), hG.lt hs j _ _ hy hx]
        simp
      · rw [decide_eq_false h0]; rfl
    have e2 : decide (fan b (id0 b i) ≤ (i : Int)) = false := by
      apply decide_eq_false
      have hlt : id0 b i < 256 := by omega
      rw [h.fans _ hlt, hd]
      have h1 : cntLt S (hd0 S[i] + 1) = cntLt (S.take (i + 1)) (hd0 S[i] + 1) + cntLt (S.drop (i + 1)) (hd0 S[i] + 1) := by rw [← cntLt_append, List.take_append_drop]
      have h2 : cntLt (S.take (i + 1)) (hd0 S[i] + 1) = (S.take (i + 1)).length := cntLt_all (fun y hy => by
        obtain ⟨j, hj, rfl⟩ := List.getElem_of_mem hy
        rw [List.length_take] at hj
        have := hhd j i S[j] S[i] (by omega) (List.getElem?_eq_getElem (by omega)) hx
        rw [List.getElem_take]
        omega)
      rw [List.length_take] at h2
      omega
    have e3 : (decide (0 < id0 b i) && decide ((i : Int) < fan b (id0 b i - 1))) = false := by
      by_cases h0 : 0 < id0 b i
      · have hlt : id0 b i - 1 < 256 := by omega
        rw [h.fans _ hlt, show ((id0 b i - 1 : Nat) : Int) + 1 = hd0 S[i] by omega]
        have h1 : cntLt S (hd0 S[i]) = cntLt (S.take i) (hd0 S[i]) + cntLt (S.drop i) (hd0 S[i]) := by rw [← cntLt_append, List.take_append_drop]
        have h2 : cntLt (S.drop i) (hd0 S[i]) = 0 := cntLt_none (fun y hy => by
          obtain ⟨j, hj, rfl⟩ := List.getElem_of_mem hy
          rw [List.length_drop] at hj
          rw [List.getElem_drop]
          exact hhd i (i + j) S[i] S[i + j] (by omega) hx (List.getElem?_eq_getElem (by omega)))
        have h3 := cntLt_le (S.take i) (hd0 S[i])
        rw [List.length_take] at h3
        rw [decide_eq_false (by omega : ¬ (i : Int) < _)]
        simp
      · rw [decide_eq_false h0]; rfl
    unfold badO
    rw [e1, e2, e3]
    rfl
  have hbadF : ∀ i, i < S.length → badF b S.length i = false := fun i hi => by
    have hx : S[i]? = some S[i] := List.getElem?_eq_getElem hi
    have ho := okO_uid (hok _ (List.getElem_mem hi))
    unfold badF
    rw [h.at_ i _ hx, h.far i (by omega)]
    by_cases hf : S[i].at_ < 2147483648
    · rw [if_pos hf, decide_eq_false (by omega : ¬ (2147483648 : Int) ≤ S[i].at_)]; rfl
    · rw [if_neg hf, h.big i _ hx (decide_eq_true (by omega)), decide_eq_false (by omega : ¬ (S[i].at_ < 2147483648)), decide_eq_false (by omega : ¬ (4611686018427387904 < S[i].at_))]
      simp
  have hokT : okToB b S.length S.length = true := List.all_eq_true.2 (fun i hi => by
    have hi := List.mem_range.1 hi
    rw [hbadO i hi, hbadF i hi]; rfl)
  have hfb : fansB b = true := (fansB_iff b).2 (fun i hi => by
    rw [h.fans i (by omega), h.fans (i + 1) (by omega)]
    have := cntLt_mono S (c := (i : Int) + 1) (d := ((i + 1 : Nat) : Int) + 1) (by omega)
    omega)
  have hw : wholeB b = true := decide_eq_true (by rw [hc, h.far _ (Nat.le_refl _), List.take_length]; omega)
  have hf255 : fan b 255 ≤ 4096 := by
    rw [h.fans 255 (by decide)]
    have := cntLt_le S (((255 : Nat) : Int) + 1)
    omega
  have hacc : accB b = true := by
    unfold accB headB
    rw [hc, hokT, hw, hfb, decide_eq_true h.magic, decide_eq_true hf255, decide_eq_true (by omega : 1072 + 28 * S.length ≤ b.length)]
    rfl
  unfold errV
  rw [if_neg (by omega), hacc, h.sum]
  simp
end
end Go.Proofs.Ytndjebddgnmpfaa
