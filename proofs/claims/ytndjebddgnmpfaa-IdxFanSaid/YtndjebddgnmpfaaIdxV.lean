/- IdxBack: plain laws, and the walk. -/
import Derived.Test.YtndjebddgnmpfaaIdxQ
namespace Go.Proofs.Ytndjebddgnmpfaa
open Go.RowKit
set_option linter.unusedVariables false
set_option linter.unusedSimpArgs false

/-- An object without kind and body, as it is read. -/
def bare (x : El) : El := ⟨0, none, 0, 0, x.id, x.at_, x.crc⟩
theorem bare_list {α : Type} (f : El → α) (h : ∀ x, f (bare x) = f x) (S : List El) : (S.map bare).map f = S.map f := by
  rw [List.map_map]; exact List.map_congr_left fun x _ => h x
theorem bare_flat (f : El → List Int) (h : ∀ x, f (bare x) = f x) (S : List El) : (S.map bare).flatMap f = S.flatMap f := by
  induction S with
  | nil => rfl
  | cons x S ih => rw [List.map_cons, List.flatMap_cons, List.flatMap_cons, h, ih]
theorem bare_filter (f : El → Bool) (h : ∀ x, f (bare x) = f x) (S : List El) : ((S.map bare).filter f).length = (S.filter f).length := by
  induction S with
  | nil => rfl
  | cons x S ih =>
    rw [List.map_cons, List.filter_cons, List.filter_cons, h]
    split
    · rw [List.length_cons, List.length_cons, ih]
    · exact ih
theorem bare_places : ∀ (S : List El) (k : Nat), placesL k (S.map bare) = placesL k S
  | [], _ => rfl
  | x :: S, k => by
    rw [List.map_cons, placesL, placesL, bare_places S]
    rfl
theorem bare_build (S : List El) (P : List Int) : buildL (S.map bare) P = buildL S P := by
  have hf : fanL (S.map bare) 256 = fanL S 256 := by
    unfold fanL
    congr 1
    funext c
    have := bare_filter (fun x => decide (hd0 x < (c : Int) + 1)) (fun _ => rfl) S
    unfold cntLt
    rw [this]
  have hb : bodyL (S.map bare) P = bodyL S P := by
    unfold bodyL namesL crcsL farL
    rw [hf, bare_flat uid (fun _ => rfl), bare_flat (fun x => beI x.crc) (fun _ => rfl), bare_places, bare_flat farV (fun _ => rfl)]
  unfold buildL
  rw [hb]
theorem isort_of_sorted {α : Type} {lt : α → α → Bool} (l : List α) : Srt.Sorted lt l → Srt.isort lt l = l := by
  refine Srt.snoc_induct (P := fun l => Srt.Sorted lt l → Srt.isort lt l = l) (fun _ => rfl) (fun l x ih h => ?_) l
  rw [Srt.isort_snoc, ih h.left]
  have h2 : ∀ y ∈ l, lt x y = false := fun y hy => (List.pairwise_append.1 h).2.2 y hy x (List.mem_singleton.2 rfl)
  have := Srt.ins_at (lt := lt) x l [] h2 (fun y t h => by cases h)
  simpa using this
theorem bare_sorted {S : List El} (h : Srt.Sorted ltE S) : Srt.Sorted ltE (S.map bare) := List.pairwise_map.2 (h.imp fun h => h)
theorem bare_good {S : List El} (h : GoodS S) : GoodS (S.map bare) := fun i hi => by
  rw [List.length_map] at hi
  have := h i hi
  have hx : S[i]? = some S[i] := List.getElem?_eq_getElem hi
  rw [badAt_some hx] at this
  have hx2 : (S.map bare)[i]? = some (bare S[i]) := by rw [List.getElem?_map, hx]; rfl
  rw [badAt_some hx2]
  have hs : sameAt (S.map bare) i = sameAt S i := by
    unfold sameAt
    rw [List.getElem?_map, List.getElem?_map]
    cases S[i - 1]? <;> cases S[i]? <;> rfl
  rw [hs]
  exact this
theorem bare_ok {S : List El} {p : ByteArray} (hn : S.length ≤ 4096) (hp : hashB (bytesOf p) = true) (hs : Srt.Sorted ltE S) (hg : GoodS S) : BuildOk (S.map bare) p ∧ Srt.isort ltE (S.map bare) = S.map bare := by
  have h := isort_of_sorted (S.map bare) (bare_sorted hs)
  exact ⟨⟨by rw [List.length_map]; exact hn, hp, by rw [h]; exact bare_good hg⟩, h⟩
theorem ObE.of_obs {w : World} {A : Option Addr} {S : List El} (h : ObsAt w A (S.map entOf)) : ObE w A (S.map bare) := fun hl => by
  rw [List.length_map] at hl
  obtain ⟨g, o, h1, h2, h3⟩ := h (by rw [List.length_map]; exact hl)
  refine ⟨g, o, h1, h2, fun i c x hx hc => ?_⟩
  have hi := (List.getElem?_eq_some_iff.1 hx).1
  rw [List.length_map] at hi
  rw [List.getElem?_map, List.getElem?_eq_getElem hi] at hx
  injection hx with hx
  have := h3 i (entOf S[i]) (by rw [List.getElem?_map, List.getElem?_eq_getElem hi]; rfl) c hc
  rw [this, ← hx]
  rcases c with _ | _ | _ | _ | _ | c
  · rfl
  · rfl
  · show some (Value.string (strOfNums (bytesOf S[i].id))) = some (Value.string S[i].id)
    rw [strOfNums_bytes]
  · rfl
  · rfl
  · omega
/-- Of the sorted, those of one ID are one. -/
theorem GoodS.one {S : List El} (hG : GoodS S) (hs : Srt.Sorted ltE S) {x y : El} (hx : x ∈ S) (hy : y ∈ S) (he : x.id = y.id) : x = y := by
  obtain ⟨i, hi, rfl⟩ := List.getElem_of_mem hx
  obtain ⟨j, hj, rfl⟩ := List.getElem_of_mem hy
  have hxi : S[i]? = some S[i] := List.getElem?_eq_getElem hi
  have hyj : S[j]? = some S[j] := List.getElem?_eq_getElem hj
  rcases Nat.lt_trichotomy i j with h | h | h
  · have := hG.ltAll hs i _ hxi (j - i - 1) S[j] (by rw [show i + (j - i - 1) + 1 = j by omega]; exact hyj)
    unfold ltE at this
    rw [he, ltL_irr] at this
    cases this
  · subst h; rfl
  · have := hG.ltAll hs j _ hyj (i - j - 1) S[i] (by rw [show j + (i - j - 1) + 1 = i by omega]; exact hxi)
    unfold ltE at this
    rw [he, ltL_irr] at this
    cases this
/-- What Find tells of an index that was built. -/
theorem FindPost.built {S : List El} {b : List Int} {t : ByteArray} {w w' : World} {e : Ending} (h : FindPost b t w e w') (hG : GoodS S) (hs : Srt.Sorted ltE S) (hz : errV b = 0) (he : entsL b = S.map entOf) :
    ∃ (at_ : Int), e = .returned (.tuple #[.int .i64 at_, .bool (S.any fun x => decide (x.id = t))]) ∧ Below w.heap.size w w' ∧ ∀ x ∈ S, x.id = t → at_ = x.at_ := by
  obtain ⟨at_, ok, rfl, hb, h1, h2⟩ := h
  cases ok
  · obtain ⟨_, h3⟩ := h2 rfl
    have h4 := h3 hz
    have hn : ∀ x ∈ S, x.id ≠ t := fun x hx hxt => by
      have := h4 (entOf x) (by rw [he]; exact List.mem_map_of_mem hx)
      unfold entOf at this
      simp only at this
      rw [strOfNums_bytes] at this
      exact this hxt
    have ha : (S.any fun x => decide (x.id = t)) = false := by
      rw [List.any_eq_false]
      intro x hx
      simp only [decide_eq_true_eq]
      exact hn x hx
    exact ⟨at_, by rw [ha], hb, fun x hx hxt => absurd hxt (hn x hx)⟩
  · obtain ⟨_, y, hy, hyt, hya⟩ := h1 rfl
    rw [he] at hy
    obtain ⟨z, hzS, rfl⟩ := List.mem_map.1 hy
    unfold entOf at hyt hya
    simp only at hyt hya
    rw [strOfNums_bytes] at hyt
    have ha : (S.any fun x => decide (x.id = t)) = true := List.any_eq_true.2 ⟨z, hzS, decide_eq_true hyt⟩
    exact ⟨at_, by rw [ha], hb, fun x hx hxt => by rw [hya, hG.one hs hzS hx (hyt.trans hxt.symm)]⟩
theorem any_perm {S L : List El} (h : ∀ x, x ∈ S ↔ x ∈ L) (f : El → Bool) : S.any f = L.any f := by
  rw [Bool.eq_iff_iff, List.any_eq_true, List.any_eq_true]
  exact ⟨fun ⟨x, h1, h2⟩ => ⟨x, (h x).1 h1, h2⟩, fun ⟨x, h1, h2⟩ => ⟨x, (h x).2 h1, h2⟩⟩
def hasB (L : List El) (t : ByteArray) (i : Nat) : Bool := (L.take i).any fun x => decide (x.id = t)
theorem hasB_succ {L : List El} {t : ByteArray} {i : Nat} {x : El} (hx : L[i]? = some x) : hasB L t (i + 1) = (hasB L t i || decide (x.id = t)) := by
  unfold hasB
  rw [List.take_add_one, hx, List.any_append]
  simp
theorem str_beq (a b : ByteArray) : (a.toList == b.toList) = decide (a = b) := by
  rw [Bool.eq_iff_iff, beq_iff_eq, decide_eq_true_eq, ByteArray.toList_eq, ByteArray.toList_eq]
  exact ⟨fun h => ByteArray.ext (Array.toList_inj.1 h), fun h => by rw [h]⟩
theorem ObE.at_ {w : World} {A : Option Addr} {L : List El} (h : ObE w A L) {i : Nat} {x : El} (hx : L[i]? = some x) : ∃ g o, A = some ⟨g, o, none⟩ ∧ g < w.heap.size ∧ w.cell? ⟨g, o + i * 5 + 2, none⟩ = some (.string x.id) ∧ w.cell? ⟨g, o + i * 5 + 3, none⟩ = some (.int .i64 x.at_) := by
  obtain ⟨g, o, h1, h2, h3⟩ := h (by have := (List.getElem?_eq_some_iff.1 hx).1; omega)
  exact ⟨g, o, h1, h2, h3 i 2 x hx (by decide), h3 i 3 x hx (by decide)⟩
set_option maxRecDepth 100000 in
set_option maxHeartbeats 8000000 in
theorem idxBack_walk (A0 : Option Addr) (N c0 : Nat) (L : List El) (p t : ByteArray) (W : World) (hO : ObE W A0 L) (hN : L.length = N) (hA : A0 = none → N = 0 ∧ c0 = 0) (hsz : N ≤ 2199023255552) (hcr : ∀ x ∈ L, 0 ≤ x.crc ∧ x.crc < 4294967296) (hid : ∀ x ∈ L, x.id.size ≤ 140737488355328) (hp : p.size ≤ 140737488355328) (ht : t.size ≤ 140737488355328) :
    Calls Try.prog 6 #[.slice A0 N c0, .string p, .string t] W fun e w' => e = .returned (.bool true) ∧ Below W.heap.size W w' := by
  have HAW := Lib.hid (fun w => awake12_any w)
  by_cases hbig : 100 < N
  · have d1 : decide ((100 : Int) < (N : Int)) = true := decide_eq_true (by omega)
    have d1' : decide (100 < N) = true := decide_eq_true hbig
    clear hO hN hA hsz hcr hid hp
    go_enter Try.func6, Try.ntmps6
    go_wp2_with fail
    refine (HAW.out W).mono ?_
    rintro e w1 ⟨rfl, hb1⟩
    go_wp2
    go_ret
    exact ⟨rfl, hb1⟩
  · have d1 : decide ((100 : Int) < (N : Int)) = false := decide_eq_false (by omega)
    have d1' : decide (100 < N) = false := decide_eq_false hbig
    have HB1 := Lib.hid (iBuild_any A0 N c0 L p W hO hN (fun h => (hA h).1) hsz hcr hid hp)
    have HO := Lib.hid hO
    have HN := Lib.hid hN
    have HCR := Lib.hid hcr
    have HID := Lib.hid hid
    have HP := Lib.hid hp
    clear hO hN hA hsz hcr hid hp
    go_enter Try.func6, Try.ntmps6
    go_wp2_with fail
    refine HB1.out.mono ?_
    rintro e w1 ⟨hl1, hno, hyes⟩
    have HL1 := Lib.hid hl1
    clear hl1 HB1 d1 d1'
    by_cases hok : BuildOk L p
    case neg =>
      obtain rfl := hno hok
      clear hno hyes
      go_wp2_with fail
      refine (HAW.out _).mono ?_
      rintro e w2 ⟨rfl, hb2⟩
      have HB2 := Lib.hid hb2
      clear hb2
      go_wp2
      go_ret
      exact ⟨rfl, HL1.out.trans (HB2.out.mono HL1.out.size)⟩
    case pos =>
      obtain ⟨A1, rfl, hI1⟩ := hyes hok
      clear hno hyes
      have HSM : Hid (∀ x, x ∈ Srt.isort ltE L ↔ x ∈ L) := Lib.hid (fun x => Srt.mem_isort)
      have HSS := Lib.hid (Srt.isort_sorted swoE L)
      have HSL : Hid ((Srt.isort ltE L).length = N) := Lib.hid (by rw [Srt.isort_length, HN.out])
      have HG := Lib.hid hok.2.2
      have hph := hok.2.1
      have HPH := Lib.hid hph
      have hP20 : (unV (bytesOf p)).length = 20 := by
        simp only [hashB, Bool.and_eq_true, decide_eq_true_eq] at hph
        exact hph.2
      have hPun : unOk (bytesOf p) = true := by
        simp only [hashB, Bool.and_eq_true, decide_eq_true_eq] at hph
        exact hph.1
      have HPX : Hid (strOfNums (hexL (unV (bytesOf p))) = p) := Lib.hid (by rw [hex_unV _ hPun, strOfNums_bytes])
      have hN4 : N ≤ 4096 := by omega
      generalize Srt.isort ltE L = S at *
      have hRd := reads_build (S := S) (P := unV (bytesOf p)) ⟨by rw [HSL.out]; exact hN4, fun x hx => ⟨HG.out.all hx, HCR.out x ((HSM.out x).1 hx)⟩⟩ hP20 (unV_ok _)
      have hWh := hRd.whole HG.out (by rw [HSL.out]; exact hN4) HSS.out
      obtain ⟨hz, hcn, hen⟩ := hWh
      have hbo := bare_ok (p := p) (by rw [HSL.out]; exact hN4) hph HSS.out HG.out
      have hbb := bare_build S (unV (bytesOf p))
      have hpk := hRd.pack
      have hbl := hRd.len
      have hby := hRd.ok
      have hnf := nfar_le S
      rw [HSL.out] at hbl hcn hnf
      have HBB : Hid (∀ e w w', BuildPost (S.map bare) p w e w' → ∃ A, e = .returned (.tuple #[.slice A (buildL S (unV (bytesOf p))).length (buildL S (unV (bytesOf p))).length, .int .i64 0]) ∧ Ints .u8 w' A (buildL S (unV (bytesOf p))) ∧ Below w.heap.size w w') := Lib.hid (fun e w w' h => by
        obtain ⟨h1, _, h3⟩ := h
        obtain ⟨A, he, hI⟩ := h3 hbo.1
        rw [hbo.2, hbb] at he hI
        exact ⟨A, he, hI, h1⟩)
      generalize buildL S (unV (bytesOf p)) = b at *
      obtain ⟨M, hM⟩ : ∃ M, b.length = M := ⟨_, rfl⟩
      rw [hM] at hbl HBB ⊢
      obtain ⟨bk, o, rfl, _, _⟩ := hI1 (by omega)
      have HI := Lib.hid hI1
      have HM := Lib.hid hM
      have HBY := Lib.hid hby
      have hM1 : 1072 ≤ M := by omega
      have hM2 : M ≤ 200000 := by omega
      have HPA := Lib.hid (fun w' (h : Below w1.heap.size w1 w') => iParse_any bk o M M b w' (HI.out.below h) HM.out HBY.out hM1 (Nat.le_refl _) (by omega) (by omega))
      have HFI := Lib.hid (fun w' t (h : Below w1.heap.size w1 w') => iFind_any bk o M M b t w' (HI.out.below h) HM.out HBY.out hM1 (Nat.le_refl _) (by omega) (by omega))
      have HZ := Lib.hid hz
      have HEN := Lib.hid hen
      have HCN := Lib.hid hcn
      have HPK := Lib.hid hpk
      clear hI1 hM hbl hby hz hen hcn hpk hbo hbb hRd hP20 hPun hph hnf hok
      go_wp2_with fail
      refine (HPA.out w1 (Below.refl _ _)).mono ?_
      rintro e w2 ⟨v, rfl, hv1, _, hb2⟩
      obtain ⟨A2, c2, rfl, hO2⟩ := hv1 HZ.out
      rw [HCN.out, HZ.out, if_pos rfl, HPK.out, HPX.out]
      rw [HEN.out] at hO2
      have HO2 := Lib.hid (ObE.of_obs hO2)
      have HAN : Hid (A2 = none → N = 0) := Lib.hid (fun h => by
        by_cases h0 : N = 0
        · exact h0
        · obtain ⟨g, o, h1, _⟩ := HO2.out (by rw [List.length_map, HSL.out]; omega)
          rw [h] at h1; cases h1)
      have HB2 := Lib.hid hb2
      have e1 : (p.toList != p.toList) = false := by simp
      have e2 : (p.toList == p.toList) = true := by simp
      clear hv1 hO2 hb2 HPA HPK HCN
      have HOK2 : Hid ((S.map bare).length = N) := Lib.hid (by rw [List.length_map, HSL.out])
      have HWL : Hid (Below W.heap.size W w2) := Lib.hid (HL1.out.trans (HB2.out.mono HL1.out.size))
      go_wp2
      go_loopw [13, 12] (fun vi vh wr => ∃ i : Nat, vi = .int .i64 i ∧ vh = .bool (hasB L t i) ∧ i ≤ N ∧ Below w2.heap.size w2 wr) (fun vi _ _ => N - (intOf vi).toNat)
      case atStart => exact ⟨0, rfl, rfl, Nat.zero_le _, Below.refl _ _⟩
      case round =>
        obtain ⟨i, rfl, rfl, hiN, hB⟩ := hrel
        by_cases hlt : i < N
        · have d1 : decide ((i : Int) < (N : Int)) = true := decide_eq_true (by omega)
          have d1' : decide (i < N) = true := decide_eq_true hlt
          have hi0 : (0 : Int) ≤ (i : Int) := by omega
          have hi2 : (i : Int) < (N : Int) := by omega
          obtain ⟨x, hx⟩ : ∃ x, L[i]? = some x := ⟨_, List.getElem?_eq_getElem (by rw [HN.out]; exact hlt)⟩
          obtain ⟨y, hy⟩ : ∃ y, S[i]? = some y := ⟨_, List.getElem?_eq_getElem (by rw [HSL.out]; exact hlt)⟩
          have hxm := List.mem_of_getElem? hx
          have hym := List.mem_of_getElem? hy
          have hy2 : (S.map bare)[i]? = some (bare y) := by rw [List.getElem?_map, hy]; rfl
          obtain ⟨g, o1, rfl, hg, hx2, hx3⟩ := HO.out.at_ hx
          obtain ⟨g2, o2, rfl, hg2, hy3, hy4⟩ := HO2.out.at_ hy2
          have HBW : Hid (Below W.heap.size W wr) := Lib.hid (HWL.out.trans (hB.mono HWL.out.size))
          have HCL : Hid (∀ w', Below wr.heap.size wr w' → w'.cell? ⟨g, o1 + i * 5 + 2, none⟩ = some (.string x.id) ∧ w'.cell? ⟨g, o1 + i * 5 + 3, none⟩ = some (.int .i64 x.at_) ∧ w'.cell? ⟨g2, o2 + i * 5 + 2, none⟩ = some (.string y.id) ∧ w'.cell? ⟨g2, o2 + i * 5 + 3, none⟩ = some (.int .i64 y.at_)) := Lib.hid (fun w' h => by
            have h1 := HBW.out.trans (h.mono HBW.out.size)
            have h2 := hB.trans (h.mono hB.size)
            exact ⟨(h1.cell (p := ⟨g, o1 + i * 5 + 2, none⟩) hg).trans hx2, (h1.cell (p := ⟨g, o1 + i * 5 + 3, none⟩) hg).trans hx3, (h2.cell (p := ⟨g2, o2 + i * 5 + 2, none⟩) hg2).trans hy3, (h2.cell (p := ⟨g2, o2 + i * 5 + 3, none⟩) hg2).trans hy4⟩)
          obtain ⟨c2', _, _, _⟩ := HCL.out wr (Below.refl _ _)
          have HFX : Hid (Calls Try.prog 10 #[.slice (some ⟨bk, o, none⟩) M M, .string x.id] wr fun e w' => e = .returned (.tuple #[.int .i64 x.at_, .bool true]) ∧ Below wr.heap.size wr w') := Lib.hid ((HFI.out wr x.id (HB2.out.trans (hB.mono HB2.out.size))).mono fun e w' h => by
            obtain ⟨at_, rfl, hb, hat⟩ := h.built HG.out HSS.out HZ.out HEN.out
            have hxS := (HSM.out x).2 hxm
            rw [hat x hxS rfl, List.any_eq_true.2 ⟨x, hxS, decide_eq_true rfl⟩]
            exact ⟨rfl, hb⟩)
          have HAY : Hid (0 ≤ y.at_) := Lib.hid (okO_uid (HG.out.all hym)).2.2.1
          have HHS : Hid (hasB L t (i + 1) = (hasB L t i || decide (x.id = t))) := Lib.hid (hasB_succ hx)
          have s1 : IntKind.i64.wrap ((i : Int) + 1) = ((i + 1 : Nat) : Int) := by rw [IntWalk.i64_in _ (by omega)]; omega
          have HPR : Hid (∀ j z, i = j + 1 → S[j]? = some z → ∀ w', Below wr.heap.size wr w' → w'.cell? ⟨g2, o2 + j * 5 + 2, none⟩ = some (.string z.id) ∧ Op.bytesLess y.id.toList z.id.toList = false ∧ (y.id.toList == z.id.toList) = false) := Lib.hid (fun j z hij hzj w' h => by
            have h2 := hB.trans (h.mono hB.size)
            have hz2 : (S.map bare)[j]? = some (bare z) := by rw [List.getElem?_map, hzj]; rfl
            obtain ⟨g3, o3, hA3, _, hc3, _⟩ := HO2.out.at_ hz2
            injection hA3 with hA3
            injection hA3 with e1 e2
            subst e1; subst e2
            have hl : ltE z y = true := HG.out.lt HSS.out j z y hzj (by rw [← hij]; exact hy)
            refine ⟨(h2.cell (p := ⟨g2, o2 + j * 5 + 2, none⟩) hg2).trans hc3, ?_, ?_⟩
            · have hs := str_less (bytesOf y.id) (bytesOf z.id) (bytesOf_ok _) (bytesOf_ok _)
              rw [strOfNums_bytes, strOfNums_bytes] at hs
              rw [hs]
              cases hh : ltL (bytesOf y.id) (bytesOf z.id)
              · rfl
              · have := ltL_trans hl hh
                rw [ltL_irr] at this
                cases this
            · rw [str_beq]
              apply decide_eq_false
              intro h
              unfold ltE at hl
              rw [h, ltL_irr] at hl
              cases hl)
          have HZX : Hid (∀ j, i = j + 1 → ∃ z, S[j]? = some z) := Lib.hid (fun j hij => ⟨_, List.getElem?_eq_getElem (by rw [HSL.out]; omega)⟩)
          clear hx hy hxm hym hy2 hg hx2 hx3 hg2 hy3 hy4
          have HB := Lib.hid hB
          clear hB
          obtain ⟨hv, hhv⟩ : ∃ hv, hasB L t i = hv := ⟨_, rfl⟩
          rw [hhv] at HHS ⊢
          clear hhv
          go_upto_region 14 with (go_at_call 10; refine HFX.out.mono ?_; rintro e w5 ⟨rfl, hb5⟩)
          have HB5 := Lib.hid hb5
          have hcl := HCL.out w5 hb5
          obtain ⟨k1, k2, k3, k4⟩ := hcl
          clear hb5 c2' HFX
          go_cut [114] (fun v wx => v = .bool false ∧ ∃ n, wx = w5.drewN n)
          case first => as_aux_lemma =>
            have n1 : (x.at_ != x.at_) = false := by simp
            have n2 : (x.at_ == x.at_) = true := by simp
            have n3 : decide (y.at_ < 0) = false := decide_eq_false (by have := HAY.out; omega)
            by_cases hi0 : i = 0
            · have d3 : decide ((0 : Int) < (i : Int)) = false := decide_eq_false (by omega)
              have d3' : decide (0 < i) = false := decide_eq_false (by omega)
              clear hi0
              go_wp2
              go_quiet (fail)
              go_wp2
              go_meet
              exact ⟨rfl, _, rfl⟩
            · obtain ⟨j, hij⟩ : ∃ j, i = j + 1 := ⟨i - 1, by omega⟩
              have d3 : decide ((0 : Int) < (i : Int)) = true := decide_eq_true (by omega)
              have d3' : decide (0 < i) = true := decide_eq_true (by omega)
              have s3 : (i : Int) - 1 = (j : Int) := by omega
              have jj0 : (0 : Int) ≤ (j : Int) := by omega
              have jj1 : (j : Int) < (N : Int) := by omega
              obtain ⟨z, hz⟩ := HZX.out j hij
              obtain ⟨k5, k6, k7⟩ := HPR.out j z hij hz w5 HB5.out
              clear hz hij hi0
              go_wp2
              go_quiet (fail)
              go_wp2
              go_meet
              exact ⟨rfl, _, rfl⟩
          case rest =>
            obtain ⟨rfl, n, rfl⟩ := hcut
            have HB6 : Hid (Below w2.heap.size w2 (w5.drewN n)) := Lib.hid (Below.drewN (HB.out.trans (HB5.out.mono HB.out.size)) n)
            clear k2 k3 k4 HCL HPR HZX
            cases hv
            · have k8 := str_beq x.id t
              obtain ⟨q, hq⟩ : ∃ q, decide (x.id = t) = q := ⟨_, rfl⟩
              rw [hq] at k8
              rw [hq] at HHS
              clear hq
              go_wp2
              go_roundw
              case rel => exact ⟨i + 1, by go_num, by rw [HHS.out]; rfl, by omega, HB6.out⟩
              case measure => simp [intOf]; omega
            · go_wp2
              go_roundw
              case rel => exact ⟨i + 1, by go_num, by rw [HHS.out]; rfl, by omega, HB6.out⟩
              case measure => simp [intOf]; omega
        · obtain rfl : N = i := by omega
          have d1 : decide ((N : Int) < (N : Int)) = false := decide_eq_false (by omega)
          have d1' : decide (N < N) = false := decide_eq_false (by omega)
          have hall : hasB L t N = S.any fun x => decide (x.id = t) := by
            unfold hasB
            rw [List.take_of_length_le (by rw [HN.out]; exact Nat.le_refl _)]
            exact (any_perm HSM.out _).symm
          rw [hall]
          have HFX : Hid (Calls Try.prog 10 #[.slice (some ⟨bk, o, none⟩) M M, .string t] wr fun e w' => ∃ at_, e = .returned (.tuple #[.int .i64 at_, .bool (S.any fun x => decide (x.id = t))]) ∧ Below wr.heap.size wr w') := Lib.hid ((HFI.out wr t (HB2.out.trans (hB.mono HB2.out.size))).mono fun e w' h => by
            obtain ⟨at_, rfl, hb, hat⟩ := h.built HG.out HSS.out HZ.out HEN.out
            exact ⟨_, rfl, hb⟩)
          have HBX := Lib.hid (fun w' (h : Below w2.heap.size w2 w') => iBuild_any A2 N c2 (S.map bare) p w' (fun hl => by
            obtain ⟨g, o, h1, h2, h3⟩ := HO2.out hl
            exact ⟨g, o, h1, Nat.lt_of_lt_of_le h2 h.size, fun i c x hx hc => (h.cell (p := ⟨g, o + i * 5 + c, none⟩) h2).trans (h3 i c x hx hc)⟩) HOK2.out (HAN.out) (by omega) (fun x hx => by
              obtain ⟨y, hy, rfl⟩ := List.mem_map.1 hx
              exact HCR.out y ((HSM.out y).1 hy)) (fun x hx => by
              obtain ⟨y, hy, rfl⟩ := List.mem_map.1 hx
              exact HID.out y ((HSM.out y).1 hy)) HP.out)
          have HB := Lib.hid hB
          generalize (S.any fun x => decide (x.id = t)) = q at *
          clear hB hall
          go_wp2_with fail
          refine HFX.out.mono ?_
          rintro e w5 ⟨at_, rfl, hb5⟩
          have HB5 : Hid (Below w2.heap.size w2 w5) := Lib.hid (HB.out.trans (hb5.mono HB.out.size))
          clear hb5 HFX HB
          go_wp2_with fail
          refine (HBX.out w5 HB5.out).mono ?_
          intro e w6 h6
          obtain ⟨A6, rfl, hI6, hb6⟩ := HBB.out _ _ _ h6
          have HB6 : Hid (Below w2.heap.size w2 w6) := Lib.hid (HB5.out.trans (hb6.mono HB5.out.size))
          have hv1 := run_str_ints (P := Try.prog) (w := w6) 24 9 5 Try.underlying24 Try.underlying5 Try.underlying9 A6 M b hI6
          have hv2 := run_str_ints (P := Try.prog) (w := w6) 24 9 5 Try.underlying24 Try.underlying5 Try.underlying9 (some ⟨bk, o, none⟩) M b (HI.out.below (HB2.out.trans (HB6.out.mono HB2.out.size)))
          rw [HM.out] at hv1 hv2
          obtain ⟨SS, hSS⟩ : ∃ SS, strOfNums b = SS := ⟨_, rfl⟩
          rw [hSS] at hv1 hv2
          have t1 : (SS.toList == SS.toList) = true := by simp
          have t2 : (q == q) = true := by simp
          clear h6 hI6 hb6 hSS HBX HB5
          go_wp2_with fail
          refine (HAW.out _).mono ?_
          rintro e w7 ⟨rfl, hb7⟩
          have HB7 := Lib.hid hb7
          clear hb7
          go_wp2
          go_ret
          exact ⟨rfl, HWL.out.trans ((HB6.out.trans (HB7.out.mono HB6.out.size)).mono HWL.out.size)⟩
end Go.Proofs.Ytndjebddgnmpfaa
