/- The document's Used, Read. -/
import Derived.Test.YtmoaabjiokjjlaaFsPgA
import Derived.BigQuiet
import Derived.Test.YtmoaabjiokjjlaaFsW
import Derived.Test.YtmoaabjiokjjlaaPh
namespace Go.Proofs.Ytmoaabjiokjjlaa
open Go.RowKit Go.Maps
set_option linter.unusedVariables false
set_option linter.unusedSimpArgs false

theorem below_dN {B : Nat} {a w : World} (h : Below B a w) (n : Nat) : Below B a (w.drewN n) := h.trans ⟨rfl, rfl, rfl, Nat.le_refl _, fun _ _ => rfl⟩
theorem usedF_take (S : Fs) (i : Nat) (p : Nm × Nat) (h : S.now[i]? = some p) : ((S.now.take (i + 1)).map fun p => lenF S p.2).sum = ((S.now.take i).map fun p => lenF S p.2).sum + lenF S p.2 := by
  rw [take_snoc h, List.map_append, List.sum_append]
  simp
theorem usedF_part (S : Fs) (i : Nat) : ((S.now.take i).map fun p => lenF S p.2).sum ≤ usedF S := by
  unfold usedF
  conv => rhs; rw [← List.take_append_drop i S.now, List.map_append, List.sum_append]
  omega
theorem lenF_of {S : Fs} {i : Nat} {x : Fl} (h : S.files[i]? = some x) : lenF S i = x.b.length := by unfold lenF; rw [h]; rfl
theorem str_size (l : List Int) : (strOfNums l).size = l.length := by
  unfold strOfNums
  show (l.map _).toArray.size = _
  simp
set_option maxRecDepth 100000 in
set_option maxHeartbeats 2000000 in
theorem rused_any (w : World) (F : Nat → Prop) (q : Rq) (S : Fs) (N : Nat) (h : RfAt w F q S) (hI : Inv N 16777216 S) (hN : N ≤ 1000000) :
    Calls Try.prog 51 #[ptrV q.p] w fun e w' => e = .returned (.int .i64 (usedF S : Int)) ∧ ∃ m, w' = w.drewN m := by
  have HU : Hid (∀ i, ((S.now.take i).map fun p => lenF S p.2).sum ≤ 16777216000000) := Lib.hid (fun i => by
    have h1 := usedF_part S i
    have h2 := hI.used
    have h3 : N * 16777216 ≤ 1000000 * 16777216 := Nat.mul_le_mul_right _ hN
    omega)
  have HT := Lib.hid (usedF_take S)
  have HUF : Hid (usedF S = ((S.now.take S.now.length).map fun p => lenF S p.2).sum) := Lib.hid (by rw [List.take_length]; rfl)
  have HLF := Lib.hid (fun i (x : Fl) (hx : S.files[i]? = some x) => lenF_of hx)
  have HID := Lib.hid hI.idsNow
  have HLN : Hid (S.now.length ≤ 1000000) := Lib.hid (by have := hI.lenNow; omega)
  have HFL : Hid (S.files.length ≤ 1000000) := Lib.hid (by have := hI.fl; omega)
  have H := Lib.hid h
  generalize usedF S = uf at *
  obtain ⟨pt, hpt⟩ : ∃ pt : Nat → Nat, ∀ i, ((S.now.take i).map fun p => lenF S p.2).sum = pt i := ⟨_, fun _ => rfl⟩
  have hp0 : pt 0 = 0 := by rw [← hpt]; simp
  have HP0 := Lib.hid hp0
  simp only [hpt] at HU HT HUF
  clear hpt hp0 h hI hN
  unfold ptrV
  obtain ⟨A, c, hvn⟩ := H.out.now.shape
  obtain ⟨Af, cf, hvf⟩ := H.out.files.shape
  have HVN := Lib.hid hvn
  have HVF := Lib.hid hvf
  clear hvn hvf
  go_enter Try.func51, Try.ntmps51
  go_wp2
  go_loopw [4, 3] (fun v4 v3 wr => ∃ i : Nat, v4 = .int .i64 (i : Int) ∧ i ≤ S.now.length ∧ v3 = .int .i64 (pt i : Int) ∧ ∃ m, wr = w.drewN m) (fun v4 _ _ => S.now.length - (intOf v4).toNat)
  case atStart => exact ⟨0, rfl, Nat.zero_le _, by rw [HP0.out]; rfl, 0, rfl⟩
  case round =>
    obtain ⟨i, rfl, hi, rfl, m, hwm⟩ := hrel
    have hb : Below w.heap.size w wr := by rw [hwm]; exact below_dN (Below.refl _ _) m
    have HWM := Lib.hid hwm
    clear hwm
    have c1 := (H.out.below hb).c1
    have c2 := (H.out.below hb).c2
    rw [HVF.out] at c1
    rw [HVN.out] at c2
    have hls : S.now.length ≤ 1000000 := HLN.out
    have HB := Lib.hid hb
    clear hb
    by_cases hlt : i < S.now.length
    · obtain ⟨p, hp⟩ : ∃ p, S.now[i]? = some p := ⟨_, List.getElem?_eq_getElem hlt⟩
      have hfi := HID.out p (List.mem_of_getElem? hp)
      obtain ⟨x, hx⟩ : ∃ x, S.files[p.2]? = some x := ⟨_, List.getElem?_eq_getElem hfi⟩
      have hrn := (H.out.below HB.out).now
      have hrf := (H.out.below HB.out).files
      rw [HVN.out] at hrn
      rw [HVF.out] at hrf
      obtain ⟨b, o, rfl, _, hbl, hc0, hc1⟩ := nmS_at hrn hp
      obtain ⟨bf, of, rfl, _, hbf, hf0, hf1⟩ := flS_at hrf hx
      have d0 : decide ((i : Int) < (S.now.length : Int)) = true := decide_eq_true (by omega)
      have d0' : decide (i < S.now.length) = true := decide_eq_true hlt
      have hfl : S.files.length ≤ 1000000 := HFL.out
      have hp1 := HT.out i p hp
      rw [HLF.out _ x hx] at hp1
      have hup := HU.out (i + 1)
      have HP1 := Lib.hid hp1
      have hz : (strOfNums x.b).size = x.b.length := str_size _
      have hw : IntKind.i64.wrap ((pt i : Int) + ((strOfNums x.b).size : Int)) = (pt (i + 1) : Int) := by rw [hz, IntWalk.i64_in _ (by omega)]; omega
      have hw' : IntKind.i64.wrap ((pt i : Int) + (x.b.length : Int)) = (pt (i + 1) : Int) := by rw [IntWalk.i64_in _ (by omega)]; omega
      have HPN : Hid (∃ pn, pt (i + 1) = pn ∧ True) := Lib.hid ⟨_, rfl, trivial⟩
      generalize hpn : pt (i + 1) = pn at *
      have HPE := Lib.hid hpn
      clear hpn HPN
      generalize p.2 = pi at *
      clear hrn hrf hp hx hp1 hup
      go_upto_region 5 with (fail)
      go_quiet (fail)
      go_wp2
      go_roundw
      case rel => exact ⟨i + 1, rfl, hlt, by rw [HPE.out], m + nq, by rw [HWM.out, World.drewN_drewN]⟩
      case measure => simp [intOf]; omega
    · obtain rfl : i = S.now.length := by omega
      have d0 : decide ((S.now.length : Int) < (S.now.length : Int)) = false := decide_eq_false (by omega)
      have d0' : decide (S.now.length < S.now.length) = false := decide_eq_false (by omega)
      go_wp2
      go_ret
      exact ⟨by rw [HUF.out]; rfl, m, HWM.out⟩

/-! ### Read -/
theorem ofF_dead {S : Fs} {n : Nm} (h : S.dead = true) : ofF S n = 50 := by unfold ofF namedF; rw [h]; rfl
theorem ofF_bad {S : Fs} {n : Nm} (h : S.dead = false) (hk : okN n = false) : ofF S n = 1 := by unfold ofF namedF; rw [h]; simp [hk]
theorem ofF_none {S : Fs} {n : Nm} (h : S.dead = false) (hk : okN n = true) (hg : getN S.now n = none) : ofF S n = 61 := by unfold ofF namedF; rw [h]; simp [hk, hg]
theorem ofF_good {S : Fs} {n : Nm} {i : Nat} (h : S.dead = false) (hk : okN n = true) (hg : getN S.now n = some i) : ofF S n = 0 := by unfold ofF namedF; rw [h]; simp [hk, hg]
theorem readL_no {S : Fs} {n : Nm} (h : ofF S n ≠ 0) : readL S n = [] := by unfold readL; rw [if_neg h]
theorem readL_yes {S : Fs} {n : Nm} {i : Nat} {x : Fl} (h : ofF S n = 0) (hg : getN S.now n = some i) (hx : S.files[i]? = some x) : readL S n = x.b := by unfold readL bytesF; rw [if_pos h, hg]; simp [hx]
def RReadPost (S : Fs) (n : Nm) (w : World) (e : Ending) (w' : World) : Prop := e = .returned (.tuple #[.string (strOfNums (readL S n)), .int .i64 (ofF S n)]) ∧ Below w.heap.size w w'
set_option maxRecDepth 100000 in
set_option maxHeartbeats 2000000 in
theorem rread_any (w : World) (F : Nat → Prop) (q : Rq) (S : Fs) (N : Nat) (h : RfAt w F q S) (hI : Inv N 16777216 S) (hN : N ≤ 1000000) (s : ByteArray) (hs : s.size ≤ 9223372036854775807) :
    Calls Try.prog 45 #[ptrV q.p, .string s] w (RReadPost S s.data.toList w) := by
  have HPO : Hid (∀ e w', RReadPost S s.data.toList w e w' = (e = .returned (.tuple #[.string (strOfNums (readL S s.data.toList)), .int .i64 (ofF S s.data.toList)]) ∧ Below w.heap.size w w')) := Lib.hid (fun _ _ => rfl)
  generalize RReadPost S s.data.toList w = POST at *
  have HNM := Lib.hid (fun w => rname_any s w hs)
  have HFI := Lib.hid (fun W (hw : Below w.heap.size w W) => find_any W F q S N (h.below hw) hI hN s)
  have HI := Lib.hid hI
  have HFL : Hid (S.files.length ≤ 1000000) := Lib.hid (by have := hI.fl; omega)
  have c6 := h.c6
  have c1 := h.c1
  have H := Lib.hid h
  clear hs h hI hN
  unfold ptrV at *
  go_enter Try.func45, Try.ntmps45
  cases hd : S.dead
  case true =>
    rw [hd] at c6
    have HE := Lib.hid (ofF_dead (n := s.data.toList) hd)
    clear hd
    go_wp2
    rw [HPO.out, readL_no (by rw [HE.out]; decide), HE.out]
    exact ⟨rfl, Below.refl _ _⟩
  case false =>
    rw [hd] at c6
    have HD := Lib.hid hd
    clear hd
    cases hk : okN s.data.toList
    case false =>
      have HE := Lib.hid (ofF_bad HD.out hk)
      rw [hk] at HNM
      clear hk
      go_wp2_with (go_at_call 57; refine (HNM.out w).mono ?_; rintro e w1 ⟨rfl, rfl⟩)
      rw [HPO.out, readL_no (by rw [HE.out]; decide), HE.out]
      exact ⟨rfl, Below.refl _ _⟩
    case true =>
      have HK := Lib.hid hk
      rw [hk] at HNM
      clear hk
      cases hg : getN S.now s.data.toList
      case none =>
        rw [findI_neg hg] at HFI
        have HE := Lib.hid (ofF_none HD.out HK.out hg)
        clear hg
        go_wp2_with (first
          | (go_at_call 57; refine (HNM.out w).mono ?_; rintro e w1 ⟨rfl, rfl⟩)
          | (go_at_call 58; refine (HFI.out w (Below.refl _ _)).mono ?_; rintro e w1 ⟨rfl, rfl⟩))
        rw [HPO.out, readL_no (by rw [HE.out]; decide), HE.out]
        exact ⟨rfl, Below.refl _ _⟩
      case some i =>
        rw [findI_pos hg] at HFI
        have HE := Lib.hid (ofF_good HD.out HK.out hg)
        have hfi := HI.out.get hg
        obtain ⟨x, hx⟩ : ∃ x, S.files[i]? = some x := ⟨_, List.getElem?_eq_getElem hfi⟩
        have HX := Lib.hid (readL_yes HE.out hg hx)
        obtain ⟨Af, cf, hvf⟩ := H.out.files.shape
        have hrf := H.out.files
        rw [hvf] at hrf c1
        obtain ⟨bf, of, rfl, _, hbf, hf0, hf1⟩ := flS_at hrf hx
        have hfl : S.files.length ≤ 1000000 := HFL.out
        have d1 : decide ((i : Int) < 0) = false := decide_eq_false (by omega)
        clear hg hx hrf hvf hbf
        go_upto_region 7 with (first
          | (go_at_call 57; refine (HNM.out w).mono ?_; rintro e w1 ⟨rfl, rfl⟩)
          | (go_at_call 58; refine (HFI.out w (Below.refl _ _)).mono ?_; rintro e w1 ⟨rfl, rfl⟩))
        go_quiet ((go_at_call 58; exact Calls.quiet_of_same ((HFI.out _ (below_dN (Below.refl _ _) _)).mono (fun e w' ⟨h1, h2⟩ => ⟨h1, h2.symm⟩))))
        go_wp2
        rw [HPO.out, HX.out, HE.out]
        exact ⟨rfl, below_dN (Below.refl _ _) _⟩
end Go.Proofs.Ytmoaabjiokjjlaa
namespace Go.Proofs.Ytmoaabjiokjjlaa
open Go.RowKit Go.Maps
set_option linter.unusedVariables false
set_option linter.unusedSimpArgs false

theorem str_app (a b : List Int) : strOfNums a ++ strOfNums b = strOfNums (a ++ b) := by
  apply ByteArray.ext
  simp [strOfNums, ByteArray.data_append]
theorem flat_set {α : Type} (z : Nat) (g : α → List Value) (hg : ∀ x, (g x).length = z) : ∀ (L : List α) (i j : Nat) (f : α → α) (x : α) (u : Value), L[i]? = some x → j < z → g (f x) = (g x).set j u → (L.modify i f).flatMap g = (L.flatMap g).set (i * z + j) u
  | [], i, j, f, x, u, h, _, _ => by simp at h
  | y :: L, 0, j, f, x, u, h, hj, hu => by
    simp at h; subst h
    rw [List.modify_zero_cons, List.flatMap_cons, List.flatMap_cons, hu, Nat.zero_mul, Nat.zero_add, List.set_append_left _ _ (by rw [hg]; exact hj)]
  | y :: L, i + 1, j, f, x, u, h, hj, hu => by
    rw [List.modify_succ_cons, List.flatMap_cons, List.flatMap_cons, flat_set z g hg L i j f x u (by simpa using h) hj hu, List.set_append_right _ _ (by rw [hg, Nat.succ_mul]; omega), hg, show (i + 1) * z + j - z = i * z + j by rw [Nat.succ_mul]; omega]
section
variable {w w' : World} {F F' : Nat → Prop} {q : Rq} {S S' : Fs} {N M : Nat}
/-- A file is written in its place. -/
theorem RfAt.stFile (h : RfAt w F q S) {b o c i j : Nat} {f : Fl → Fl} {x : Fl} {u : Value} (hv : q.vf = .slice (some ⟨b, o, none⟩) S.files.length c) (hx : S.files[i]? = some x) (hj : j < 2) (hu : flV (f x) = (flV x).set j u) :
    RfAt (w.setCell ⟨b, o + i * 2 + j, none⟩ u) F q { S with files := S.files.modify i f } ∧ Chg F w (w.setCell ⟨b, o + i * 2 + j, none⟩ u) := by
  obtain ⟨n1, n2, n3, n4⟩ := h.np
  have hob : q.vf.ownBlock = some b := by rw [hv]; rfl
  have hib := (List.getElem?_eq_some_iff.1 hx).1
  have hfl := h.files
  rw [hv] at hfl
  have hij : i * 2 + j < (flsV S.files).length := by rw [flsV_len]; omega
  have hset := OwnS.setAt hfl hij u
  have hk : ∀ k, k ≠ b → (w.setCell ⟨b, o + i * 2 + j, none⟩ u).heap[k]? = w.heap[k]? := fun k hk => Below.heap_setCell _ _ _ _ hk
  refine ⟨⟨h.cel.same (hk _ (fun e => n1 b hob e.symm)), ?_, h.now.heap fun k e => hk k (fun e2 => kd_ne (h.files.kd hob) (h.now.kd e) (by decide) e2.symm), h.last.heap fun k e => hk k (fun e2 => kd_ne (h.files.kd hob) (h.last.kd e) (by decide) e2.symm), h.wait.heap fun k e => hk k (fun e2 => kd_ne (h.files.kd hob) (h.wait.kd e) (by decide) e2.symm), h.mem⟩, (Chg.refl F w).setCell (a := ⟨b, o + i * 2 + j, none⟩) (.inl (h.mem.vf b hob)) u⟩
  show OwnS _ 0 _ 2 q.vf (S.files.modify i f).length (flsV (S.files.modify i f))
  have e : flsV (S.files.modify i f) = (flsV S.files).set (i * 2 + j) u := flat_set 2 flV flV_len S.files i j f x u hx hj hu
  rw [List.length_modify, e, hv, Nat.add_assoc]
  exact hset
end
/-- While a file is written. -/
def IFl (w0 : World) (p : Addr) (u : Value) : List Value → World → Prop
  | [], W => W = w0.drew
  | _ :: _, W => W = w0.drew.setCell p u

/-! ### Append -/
set_option maxRecDepth 100000 in
set_option maxHeartbeats 4000000 in
theorem rappend_any (w : World) (F : Nat → Prop) (q : Rq) (S : Fs) (N : Nat) (h : RfAt w F q S) (hI : Inv N 16777216 S) (hN : N ≤ 1000000) (s : ByteArray) (hs : s.size ≤ 9223372036854775807) (xs : List Int) (hxs : xs.length ≤ 9223372036854775807) :
    Calls Try.prog 44 #[ptrV q.p, .string s, .string (strOfNums xs)] w (RfPost F q.p (appendF S s.data.toList xs) w) := by
  have hsx : (strOfNums xs).size = xs.length := str_size xs
  have HSX := Lib.hid hsx
  have HXS := Lib.hid hxs
  have HUS : Hid ((usedF S : Int) ≤ 16777216000000) := Lib.hid (by
    have h2 := hI.used
    have h3 : N * 16777216 ≤ 1000000 * 16777216 := Nat.mul_le_mul_right _ hN
    omega)
  have HQU := Lib.hid hI.quo
  have c0 := h.c0
  have HSM := Lib.hid (fun i (x : Fl) (hg : getN S.now s.data.toList = some i) (hx : S.files[i]? = some x) => (by have h1 := lenF_le hI.upNow hg; rw [lenF_of hx] at h1; exact h1 : x.b.length ≤ usedF S))
  have HUD := Lib.hid (fun W (hw : Below w.heap.size w W) => rused_any W F q S N (h.below hw) hI hN)
  have HSTR := Lib.hid (fun (x : Fl) => (str_app x.b xs))
  clear hxs
  generalize hx9 : strOfNums xs = t at *
  have HPO : Hid (∀ r e w', RfPost F q.p r w e w' = (e = .returned (.int .i64 r.1) ∧ RfTo F q.p w r.2 w')) := Lib.hid (fun _ _ _ => rfl)
  generalize hr : appendF S s.data.toList xs = r at *
  have HR := Lib.hid hr
  have HNO : Hid (ofF S s.data.toList ≠ 0 → r = (ofF S s.data.toList, S)) := Lib.hid (fun h0 => by rw [← hr]; unfold appendF; rw [if_pos h0])
  generalize RfPost F q.p = POST at *
  have HNM := Lib.hid (fun w => rname_any s w hs)
  have HFI := Lib.hid (fun W (hw : Below w.heap.size w W) => find_any W F q S N (h.below hw) hI hN s)
  have HBU := Lib.hid (fun W (hw : Below w.heap.size w W) => rburn_any W F q S (h.below hw) hI.fus)
  have HFB := Lib.hid (fun W (hw : RfAt W F q (burnF S)) => find_any W F q (burnF S) N hw hI.burn hN s)
  rw [burnF_now] at HFB
  have HI := Lib.hid hI
  have HNB := Lib.hid hN
  have HFL : Hid (S.files.length ≤ 1000000) := Lib.hid (by have := hI.fl; omega)
  have c6 := h.c6
  have H := Lib.hid h
  clear hs h hI hN hr
  unfold ptrV at *
  go_enter Try.func44, Try.ntmps44
  cases hd : S.dead
  case true =>
    rw [hd] at c6
    have HOF := Lib.hid (ofF_dead (n := s.data.toList) hd)
    have HE : Hid (r = (50, S)) := Lib.hid (by rw [HNO.out (by rw [HOF.out]; decide), HOF.out])
    clear hd
    go_wp2
    rw [HPO.out, HE.out]
    exact ⟨rfl, RfTo.refl H.out⟩
  case false =>
    rw [hd] at c6
    have HD := Lib.hid hd
    clear hd
    cases hk : okN s.data.toList
    case false =>
      have HOF := Lib.hid (ofF_bad HD.out hk)
      have HE : Hid (r = (1, S)) := Lib.hid (by rw [HNO.out (by rw [HOF.out]; decide), HOF.out])
      rw [hk] at HNM
      clear hk
      go_wp2_with (go_at_call 57; refine (HNM.out w).mono ?_; rintro e w1 ⟨rfl, rfl⟩)
      rw [HPO.out, HE.out]
      exact ⟨rfl, RfTo.refl H.out⟩
    case true =>
      have HK := Lib.hid hk
      rw [hk] at HNM
      clear hk
      cases hg : getN S.now s.data.toList
      case none =>
        rw [findI_neg hg] at HFI
        have HOF := Lib.hid (ofF_none HD.out HK.out hg)
        have HE : Hid (r = (61, S)) := Lib.hid (by rw [HNO.out (by rw [HOF.out]; decide), HOF.out])
        clear hg
        go_wp2_with (first | (go_at_call 57; refine (HNM.out w).mono ?_; rintro e w1 ⟨rfl, rfl⟩) | (go_at_call 58; refine (HFI.out w (Below.refl _ _)).mono ?_; rintro e w1 ⟨rfl, rfl⟩))
        rw [HPO.out, HE.out]
        exact ⟨rfl, RfTo.refl H.out⟩
      case some i =>
        rw [findI_pos hg] at HFI HFB
        have HG := Lib.hid hg
        have HOF := Lib.hid (ofF_good HD.out HK.out hg)
        have hfi := HI.out.get hg
        obtain ⟨x, hx⟩ : ∃ x, S.files[i]? = some x := ⟨_, List.getElem?_eq_getElem hfi⟩
        have HX := Lib.hid hx
        have hfl : S.files.length ≤ 1000000 := HFL.out
        have d1 : decide ((i : Int) < 0) = false := decide_eq_false (by omega)
        clear hg hx
        -- the room
        have hu1 := HUS.out
        have hq1 := HQU.out
        have hl1 := HXS.out
        have hw1 : IntKind.i64.wrap (S.quota - (usedF S : Int)) = S.quota - (usedF S : Int) := IntWalk.i64_in _ (by omega)
        by_cases hrm : (xs.length : Int) > S.quota - usedF S
        · have HE : Hid (r = (60, S)) := Lib.hid (by rw [← HR.out]; unfold appendF; rw [if_neg (by rw [HOF.out]; simp), if_pos hrm])
          have d2 : decide (S.quota - (usedF S : Int) < (t.size : Int)) = true := decide_eq_true (by omega)
          have d2' : decide (S.quota - (usedF S : Int) < (xs.length : Int)) = true := decide_eq_true (by omega)
          clear hrm
          go_upto_region 7 with (first | (go_at_call 57; refine (HNM.out w).mono ?_; rintro e w1 ⟨rfl, rfl⟩) | (go_at_call 58; refine (HFI.out w (Below.refl _ _)).mono ?_; rintro e w1 ⟨rfl, rfl⟩))
          go_quiet ((go_at_call 51; exact Calls.quiet_of (HUD.out _ (below_dN (Below.refl _ _) _))))
          go_wp2
          rw [HPO.out, HE.out]
          exact ⟨rfl, RfTo.quiet H.out _⟩
        · have hsum : x.b.length + xs.length ≤ 16777216 := by
            have h1 := HSM.out i x HG.out HX.out
            omega
          have HSUM := Lib.hid hsum
          have d2 : decide (S.quota - (usedF S : Int) < (t.size : Int)) = false := decide_eq_false (by omega)
          have d2' : decide (S.quota - (usedF S : Int) < (xs.length : Int)) = false := decide_eq_false (by omega)
          have HNR := Lib.hid hrm
          clear hrm hsum
          go_upto_region 7 with (first | (go_at_call 57; refine (HNM.out w).mono ?_; rintro e w1 ⟨rfl, rfl⟩) | (go_at_call 58; refine (HFI.out w (Below.refl _ _)).mono ?_; rintro e w1 ⟨rfl, rfl⟩))
          go_quiet ((go_at_call 51; exact Calls.quiet_of (HUD.out _ (below_dN (Below.refl _ _) _))))
          cases hb : burnOk S
          case false =>
            rw [hb] at HBU
            have HE : Hid (r = (50, burnF S)) := Lib.hid (by rw [← HR.out]; unfold appendF; rw [if_neg (by rw [HOF.out]; simp), if_neg (by have := HNR.out; omega), if_pos hb])
            clear hb
            go_wp2_with (go_at_call 59; refine (HBU.out _ (below_dN (Below.refl _ _) _)).mono ?_; rintro e w1 ⟨rfl, hA1, hC1⟩)
            rw [HPO.out, HE.out]
            exact ⟨rfl, RfTo.burnt H.out hA1 (((Chg.refl (fun k => k = q.p) w).drewN nq).trans hC1 (fun _ _ h => h))⟩
          case true =>
            rw [hb] at HBU
            have HE : Hid (r = (0, { burnF S with files := S.files.modify i (fun y => { y with b := y.b ++ xs }) })) := Lib.hid (by
              rw [← HR.out]; unfold appendF; rw [if_neg (by rw [HOF.out]; simp), if_neg (by have := HNR.out; omega), if_neg (by rw [hb]; simp)]
              unfold modF
              rw [burnF_now, HG.out, burnF_files]
              rfl)
            clear hb d2 d2' hw1 hu1 hq1 hl1 hsx c6 c0
            go_wp2_with (go_at_call 59; refine (HBU.out _ (below_dN (Below.refl _ _) _)).mono ?_; rintro e w1 ⟨rfl, hA1, hC1⟩)
            have HA1 := Lib.hid hA1
            have HC1 := Lib.hid (((Chg.refl (fun k => k = q.p) w).drewN nq).trans hC1 (fun _ _ h => h))
            clear hA1 hC1
            go_upto_region 12 with (go_at_call 58; refine (HFB.out _ HA1.out).mono ?_; rintro e w2 ⟨rfl, rfl⟩)
            obtain ⟨Af, cf, hvf⟩ := HA1.out.files.shape
            have hrf := HA1.out.files
            rw [hvf] at hrf
            obtain ⟨bf, of, rfl, _, hbf, hf0, hf1⟩ := flS_at hrf (show (burnF S).files[i]? = some x from HX.out)
            have HVF : Hid (q.vf = .slice (some ⟨bf, of, none⟩) S.files.length cf) := Lib.hid hvf
            have HF0 := Lib.hid hf0
            have hstr := HSTR.out x
            have hsz : (strOfNums x.b).size + t.size ≤ 9223372036854775807 := by rw [str_size, HSX.out]; exact Nat.le_trans HSUM.out (by decide)
            have HFS : Hid (∃ v, w1.drew.cell? ⟨bf, of + i * 2, none⟩ = some v) := Lib.hid ⟨_, hf0⟩
            have HFZ : Hid (w1.drew.frozen? ⟨bf, of + i * 2, none⟩ = false) := Lib.hid (OwnS.free hrf (j := i * 2) (by rw [flsV_len]; have := (List.getElem?_eq_some_iff.1 HX.out).1; show i * 2 < S.files.length * 2; omega)).1
            clear hvf hrf hf0 hf1 hbf
            generalize hstx : strOfNums x.b = sx at *
            generalize hst9 : strOfNums (x.b ++ xs) = s9 at *
            have HST9 := Lib.hid hst9
            clear hstx hst9
            refine wp_region_ph (by kernel_rfl) [17] [.span 0 0, .span 0 0, .span 0 0, .span 0 0, .span 0 0, .span 0 0, .span 0 0, .span 0 0, .span 0 0, .span 0 0, .span 0 0, .span 0 0, .span 0 0, .span 0 0, .span 0 0, .span 0 0, .span 0 0, .phase 0] [fun z9 => z9 = .pointer (some ⟨q.p, 0, none⟩), fun z9 => z9 = .pointer (some ⟨q.p, 0, none⟩), fun z9 => z9 = .pointer (some ⟨q.p, 1, none⟩), fun z9 => z9 = .slice (some ⟨bf, of, none⟩) S.files.length cf, fun z9 => z9 = .int .i64 (i : Int), fun z9 => z9 = .pointer (some ⟨q.p, 0, none⟩), fun z9 => z9 = .pointer (some ⟨q.p, 0, none⟩), fun z9 => z9 = .pointer (some ⟨q.p, 1, none⟩), fun z9 => z9 = .slice (some ⟨bf, of, none⟩) S.files.length cf, fun z9 => z9 = .int .i64 (i : Int), fun z9 => z9 = .pointer (some ⟨bf, of + i * 2, none⟩), fun z9 => z9 = .pointer (some ⟨bf, of + i * 2, none⟩), fun z9 => z9 = .string sx, fun z9 => z9 = .string t, fun z9 => z9 = .string s9, fun z9 => z9 = .pointer (some ⟨bf, of + i * 2, none⟩), fun z9 => z9 = .pointer (some ⟨bf, of + i * 2, none⟩), fun _ => True] (IFl w1 ⟨bf, of + i * 2, none⟩ (.string s9)) (by kernel_rfl) (by kernel_rfl) (by kernel_rfl) (by kernel_rfl) (by kernel_rfl) (by kernel_rfl) rfl rfl ((show w1.drew = w1.drew from rfl)) ?steps ?done
            case steps =>
              refine ⟨?_, ?_, ?_, ?_, ?_, ?_, ?_, ?_, ?_, ?_, ?_, ?_, ?_, ?_, ?_, ?_, ?_, ?_, trivial⟩
              · intro us au w2 k0 hlo hhi ha hd hst hI
                obtain rfl : k0 = 0 := by omega
                have q0 := slot_far (t := 0) (v := .pointer (some ⟨q.p, 0, none⟩)) ha (by kernel_rfl) (by kernel_rfl)
                have p0 := slot_norm q0
                clear ha hd hst
                exact StepI.pure (v := .pointer (some ⟨q.p, 0, none⟩)) rfl rfl (by go_simp) ⟨rfl, hI⟩
              · intro us au w2 k1 hlo hhi ha hd hst hI
                obtain rfl : k1 = 0 := by omega
                have e0 := hd 0 _ (by kernel_rfl) rfl
                have q40 := slot_at (t := 40) 0 ha (by kernel_rfl) (by kernel_rfl) (by kernel_rfl) e0
                have p40 := slot_norm q40
                clear ha hd hst
                exact StepI.pure (v := .pointer (some ⟨q.p, 0, none⟩)) rfl rfl (by go_simp) ⟨rfl, hI⟩
              · intro us au w2 k2 hlo hhi ha hd hst hI
                obtain rfl : k2 = 0 := by omega
                have e1 := hd 1 _ (by kernel_rfl) rfl
                have q41 := slot_at (t := 41) 1 ha (by kernel_rfl) (by kernel_rfl) (by kernel_rfl) e1
                have p41 := slot_norm q41
                clear ha hd hst
                exact StepI.pure (v := .pointer (some ⟨q.p, 1, none⟩)) rfl rfl (by go_simp) ⟨rfl, hI⟩
              · intro us au w2 k3 hlo hhi ha hd hst hI
                obtain rfl : k3 = 0 := by omega
                have e2 := hd 2 _ (by kernel_rfl) rfl
                have q42 := slot_at (t := 42) 2 ha (by kernel_rfl) (by kernel_rfl) (by kernel_rfl) e2
                have p42 := slot_norm q42
                clear ha hd hst
                have kk : w2.cell? ⟨q.p, 1, none⟩ = some (.slice (some ⟨bf, of, none⟩) S.files.length cf) := by obtain rfl : _ = w1.drew := hI; rw [← HVF.out]; exact HA1.out.drew.c1
                have hii : i < S.files.length := hfi
                exact StepI.pure (v := .slice (some ⟨bf, of, none⟩) S.files.length cf) rfl rfl (by go_simp) ⟨rfl, hI⟩
              · intro us au w2 k4 hlo hhi ha hd hst hI
                obtain rfl : k4 = 0 := by omega
                have q7 := slot_far (t := 7) (v := .int .i64 (i : Int)) ha (by kernel_rfl) (by kernel_rfl)
                have p7 := slot_norm q7
                clear ha hd hst
                exact StepI.pure (v := .int .i64 (i : Int)) rfl rfl (by go_simp) ⟨rfl, hI⟩
              · intro us au w2 k5 hlo hhi ha hd hst hI
                obtain rfl : k5 = 0 := by omega
                have q0 := slot_far (t := 0) (v := .pointer (some ⟨q.p, 0, none⟩)) ha (by kernel_rfl) (by kernel_rfl)
                have p0 := slot_norm q0
                clear ha hd hst
                exact StepI.pure (v := .pointer (some ⟨q.p, 0, none⟩)) rfl rfl (by go_simp) ⟨rfl, hI⟩
              · intro us au w2 k6 hlo hhi ha hd hst hI
                obtain rfl : k6 = 0 := by omega
                have e5 := hd 5 _ (by kernel_rfl) rfl
                have q45 := slot_at (t := 45) 5 ha (by kernel_rfl) (by kernel_rfl) (by kernel_rfl) e5
                have p45 := slot_norm q45
                clear ha hd hst
                exact StepI.pure (v := .pointer (some ⟨q.p, 0, none⟩)) rfl rfl (by go_simp) ⟨rfl, hI⟩
              · intro us au w2 k7 hlo hhi ha hd hst hI
                obtain rfl : k7 = 0 := by omega
                have e6 := hd 6 _ (by kernel_rfl) rfl
                have q46 := slot_at (t := 46) 6 ha (by kernel_rfl) (by kernel_rfl) (by kernel_rfl) e6
                have p46 := slot_norm q46
                clear ha hd hst
                exact StepI.pure (v := .pointer (some ⟨q.p, 1, none⟩)) rfl rfl (by go_simp) ⟨rfl, hI⟩
              · intro us au w2 k8 hlo hhi ha hd hst hI
                obtain rfl : k8 = 0 := by omega
                have e7 := hd 7 _ (by kernel_rfl) rfl
                have q47 := slot_at (t := 47) 7 ha (by kernel_rfl) (by kernel_rfl) (by kernel_rfl) e7
                have p47 := slot_norm q47
                clear ha hd hst
                have kk : w2.cell? ⟨q.p, 1, none⟩ = some (.slice (some ⟨bf, of, none⟩) S.files.length cf) := by obtain rfl : _ = w1.drew := hI; rw [← HVF.out]; exact HA1.out.drew.c1
                have hii : i < S.files.length := hfi
                exact StepI.pure (v := .slice (some ⟨bf, of, none⟩) S.files.length cf) rfl rfl (by go_simp) ⟨rfl, hI⟩
              · intro us au w2 k9 hlo hhi ha hd hst hI
                obtain rfl : k9 = 0 := by omega
                have q7 := slot_far (t := 7) (v := .int .i64 (i : Int)) ha (by kernel_rfl) (by kernel_rfl)
                have p7 := slot_norm q7
                clear ha hd hst
                exact StepI.pure (v := .int .i64 (i : Int)) rfl rfl (by go_simp) ⟨rfl, hI⟩
              · intro us au w2 k10 hlo hhi ha hd hst hI
                obtain rfl : k10 = 0 := by omega
                have e8 := hd 8 _ (by kernel_rfl) rfl
                have e9 := hd 9 _ (by kernel_rfl) rfl
                have q48 := slot_at (t := 48) 8 ha (by kernel_rfl) (by kernel_rfl) (by kernel_rfl) e8
                have p48 := slot_norm q48
                have q49 := slot_at (t := 49) 9 ha (by kernel_rfl) (by kernel_rfl) (by kernel_rfl) e9
                have p49 := slot_norm q49
                clear ha hd hst
                have hii : i < S.files.length := hfi
                exact StepI.pure (v := .pointer (some ⟨bf, of + i * 2, none⟩)) rfl rfl (by go_simp) ⟨rfl, hI⟩
              · intro us au w2 k11 hlo hhi ha hd hst hI
                obtain rfl : k11 = 0 := by omega
                have e10 := hd 10 _ (by kernel_rfl) rfl
                have q50 := slot_at (t := 50) 10 ha (by kernel_rfl) (by kernel_rfl) (by kernel_rfl) e10
                have p50 := slot_norm q50
                clear ha hd hst
                exact StepI.pure (v := .pointer (some ⟨bf, of + i * 2, none⟩)) rfl rfl (by go_simp) ⟨rfl, hI⟩
              · intro us au w2 k12 hlo hhi ha hd hst hI
                obtain rfl : k12 = 0 := by omega
                have e11 := hd 11 _ (by kernel_rfl) rfl
                have q51 := slot_at (t := 51) 11 ha (by kernel_rfl) (by kernel_rfl) (by kernel_rfl) e11
                have p51 := slot_norm q51
                clear ha hd hst
                have kk : w2.cell? ⟨bf, of + i * 2, none⟩ = some (.string sx) := by obtain rfl : _ = w1.drew := hI; exact HF0.out
                exact StepI.pure (v := .string sx) rfl rfl (by go_simp) ⟨rfl, hI⟩
              · intro us au w2 k13 hlo hhi ha hd hst hI
                obtain rfl : k13 = 0 := by omega
                have q2 := slot_far (t := 2) (v := .string t) ha (by kernel_rfl) (by kernel_rfl)
                have p2 := slot_norm q2
                clear ha hd hst
                exact StepI.pure (v := .string t) rfl rfl (by go_simp) ⟨rfl, hI⟩
              · intro us au w2 k14 hlo hhi ha hd hst hI
                obtain rfl : k14 = 0 := by omega
                have e12 := hd 12 _ (by kernel_rfl) rfl
                have e13 := hd 13 _ (by kernel_rfl) rfl
                have q52 := slot_at (t := 52) 12 ha (by kernel_rfl) (by kernel_rfl) (by kernel_rfl) e12
                have p52 := slot_norm q52
                have q53 := slot_at (t := 53) 13 ha (by kernel_rfl) (by kernel_rfl) (by kernel_rfl) e13
                have p53 := slot_norm q53
                clear ha hd hst
                have hst9 := hstr
                have hz9 := hsz
                exact StepI.pure (v := .string s9) rfl rfl (by go_simp) ⟨rfl, hI⟩
              · intro us au w2 k15 hlo hhi ha hd hst hI
                obtain rfl : k15 = 0 := by omega
                have e3 := hd 3 _ (by kernel_rfl) rfl
                have e4 := hd 4 _ (by kernel_rfl) rfl
                have q43 := slot_at (t := 43) 3 ha (by kernel_rfl) (by kernel_rfl) (by kernel_rfl) e3
                have p43 := slot_norm q43
                have q44 := slot_at (t := 44) 4 ha (by kernel_rfl) (by kernel_rfl) (by kernel_rfl) e4
                have p44 := slot_norm q44
                clear ha hd hst
                have hii : i < S.files.length := hfi
                exact StepI.pure (v := .pointer (some ⟨bf, of + i * 2, none⟩)) rfl rfl (by go_simp) ⟨rfl, hI⟩
              · intro us au w2 k16 hlo hhi ha hd hst hI
                obtain rfl : k16 = 0 := by omega
                have e15 := hd 15 _ (by kernel_rfl) rfl
                have q55 := slot_at (t := 55) 15 ha (by kernel_rfl) (by kernel_rfl) (by kernel_rfl) e15
                have p55 := slot_norm q55
                clear ha hd hst
                exact StepI.pure (v := .pointer (some ⟨bf, of + i * 2, none⟩)) rfl rfl (by go_simp) ⟨rfl, hI⟩
              · intro us au w2 ha hd hst hI
                have e16 := hd 16 _ (by kernel_rfl) rfl
                have e14 := hd 14 _ (by kernel_rfl) rfl
                have q56 := slot_at (t := 56) 16 ha (by kernel_rfl) (by kernel_rfl) (by kernel_rfl) e16
                have p56 := slot_norm q56
                have q54 := slot_at (t := 54) 14 ha (by kernel_rfl) (by kernel_rfl) (by kernel_rfl) e14
                have p54 := slot_norm q54
                clear ha hd hst
                obtain rfl : _ = w1.drew := hI
                obtain ⟨v9, kk⟩ := HFS.out
                have ff := HFZ.out
                exact StepI.stored (w' := w1.drew.setCell ⟨bf, of + i * 2, none⟩ (.string s9)) rfl rfl (by go_simp) ⟨trivial, rfl⟩
            case done =>
              intro us w2 hI hd
              have hst := HA1.out.drew.stFile (f := fun y => { y with b := y.b ++ xs }) (j := 0) (u := .string s9) HVF.out (show (burnF S).files[i]? = some x from HX.out) (by decide) (by rw [← HST9.out]; rfl)
              have HW : Hid (w2 = w1.drew.setCell ⟨bf, of + i * 2, none⟩ (.string s9)) := Lib.hid hI
              have HT : Hid (RfTo F q.p w { burnF S with files := S.files.modify i (fun y => { y with b := y.b ++ xs }) } w2) := Lib.hid (by
                rw [HW.out]
                exact ⟨q, hst.1.mono fun k hk => .inl hk, rfl, ((HC1.out.drew).mono (S' := F) (fun k _ hk => by rw [hk]; exact H.out.mem.p)).trans hst.2 (fun k _ hk => hk)⟩)
              clear hst hI
              simp only [putAll]
              go_simp
              go_wp2
              rw [HPO.out, HE.out]
              exact ⟨rfl, HT.out⟩
end Go.Proofs.Ytmoaabjiokjjlaa
namespace Go.Proofs.Ytmoaabjiokjjlaa
open Go.RowKit Go.Maps
set_option linter.unusedVariables false
set_option linter.unusedSimpArgs false

/-! ### Sync -/
set_option maxRecDepth 100000 in
set_option maxHeartbeats 4000000 in
theorem rsync_any (w : World) (F : Nat → Prop) (q : Rq) (S : Fs) (N : Nat) (h : RfAt w F q S) (hI : Inv N 16777216 S) (hN : N ≤ 1000000) (s : ByteArray) (hs : s.size ≤ 9223372036854775807) :
    Calls Try.prog 46 #[ptrV q.p, .string s] w (RfPost F q.p (syncF S s.data.toList) w) := by
  have HPO : Hid (∀ r e w', RfPost F q.p r w e w' = (e = .returned (.int .i64 r.1) ∧ RfTo F q.p w r.2 w')) := Lib.hid (fun _ _ _ => rfl)
  generalize hr : syncF S s.data.toList = r at *
  have HR := Lib.hid hr
  have HNO : Hid (ofF S s.data.toList ≠ 0 → r = (ofF S s.data.toList, S)) := Lib.hid (fun h0 => by rw [← hr]; unfold syncF; rw [if_pos h0])
  generalize RfPost F q.p = POST at *
  have HNM := Lib.hid (fun w => rname_any s w hs)
  have HFI := Lib.hid (fun W (hw : Below w.heap.size w W) => find_any W F q S N (h.below hw) hI hN s)
  have HBU := Lib.hid (fun W (hw : Below w.heap.size w W) => rburn_any W F q S (h.below hw) hI.fus)
  have HFB := Lib.hid (fun W (hw : RfAt W F q (burnF S)) => find_any W F q (burnF S) N hw hI.burn hN s)
  rw [burnF_now] at HFB
  have HI := Lib.hid hI
  have HNB := Lib.hid hN
  have HFL : Hid (S.files.length ≤ 1000000) := Lib.hid (by have := hI.fl; omega)
  have c6 := h.c6
  have H := Lib.hid h
  clear hs h hI hN hr
  unfold ptrV at *
  go_enter Try.func46, Try.ntmps46
  cases hd : S.dead
  case true =>
    rw [hd] at c6
    have HOF := Lib.hid (ofF_dead (n := s.data.toList) hd)
    have HE : Hid (r = (50, S)) := Lib.hid (by rw [HNO.out (by rw [HOF.out]; decide), HOF.out])
    clear hd
    go_wp2
    rw [HPO.out, HE.out]
    exact ⟨rfl, RfTo.refl H.out⟩
  case false =>
    rw [hd] at c6
    have HD := Lib.hid hd
    clear hd
    cases hk : okN s.data.toList
    case false =>
      have HOF := Lib.hid (ofF_bad HD.out hk)
      have HE : Hid (r = (1, S)) := Lib.hid (by rw [HNO.out (by rw [HOF.out]; decide), HOF.out])
      rw [hk] at HNM
      clear hk
      go_wp2_with (go_at_call 57; refine (HNM.out w).mono ?_; rintro e w1 ⟨rfl, rfl⟩)
      rw [HPO.out, HE.out]
      exact ⟨rfl, RfTo.refl H.out⟩
    case true =>
      have HK := Lib.hid hk
      rw [hk] at HNM
      clear hk
      cases hg : getN S.now s.data.toList
      case none =>
        rw [findI_neg hg] at HFI
        have HOF := Lib.hid (ofF_none HD.out HK.out hg)
        have HE : Hid (r = (61, S)) := Lib.hid (by rw [HNO.out (by rw [HOF.out]; decide), HOF.out])
        clear hg
        go_wp2_with (first | (go_at_call 57; refine (HNM.out w).mono ?_; rintro e w1 ⟨rfl, rfl⟩) | (go_at_call 58; refine (HFI.out w (Below.refl _ _)).mono ?_; rintro e w1 ⟨rfl, rfl⟩))
        rw [HPO.out, HE.out]
        exact ⟨rfl, RfTo.refl H.out⟩
      case some i =>
        rw [findI_pos hg] at HFI HFB
        have HG := Lib.hid hg
        have HOF := Lib.hid (ofF_good HD.out HK.out hg)
        have hfi := HI.out.get hg
        obtain ⟨x, hx⟩ : ∃ x, S.files[i]? = some x := ⟨_, List.getElem?_eq_getElem hfi⟩
        have HX := Lib.hid hx
        have hfl : S.files.length ≤ 1000000 := HFL.out
        have d1 : decide ((i : Int) < 0) = false := decide_eq_false (by omega)
        clear hg hx
        cases hb : burnOk S
        case false =>
          rw [hb] at HBU
          have HE : Hid (r = (50, burnF S)) := Lib.hid (by rw [← HR.out]; unfold syncF; rw [if_neg (by rw [HOF.out]; simp), if_pos hb])
          clear hb
          go_wp2_with (first | (go_at_call 57; refine (HNM.out w).mono ?_; rintro e w1 ⟨rfl, rfl⟩) | (go_at_call 58; refine (HFI.out w (Below.refl _ _)).mono ?_; rintro e w1 ⟨rfl, rfl⟩) | (go_at_call 59; refine (HBU.out _ (Below.refl _ _)).mono ?_; rintro e w1 ⟨rfl, hA1, hC1⟩))
          rw [HPO.out, HE.out]
          exact ⟨rfl, RfTo.burnt H.out hA1 hC1⟩
        case true =>
          rw [hb] at HBU
          have HE : Hid (r = (0, { burnF S with files := S.files.modify i (fun y => { y with s := y.b.length }) })) := Lib.hid (by
            rw [← HR.out]; unfold syncF; rw [if_neg (by rw [HOF.out]; simp), if_neg (by rw [hb]; simp)]
            unfold modF
            rw [burnF_now, HG.out, burnF_files]
            rfl)
          clear hb
          go_upto_region 9 with (first | (go_at_call 57; refine (HNM.out w).mono ?_; rintro e w1 ⟨rfl, rfl⟩) | (go_at_call 58; refine (HFI.out w (Below.refl _ _)).mono ?_; rintro e w1 ⟨rfl, rfl⟩) | (go_at_call 59; refine (HBU.out _ (Below.refl _ _)).mono ?_; rintro e w1 ⟨rfl, hA1, hC1⟩))
          have HA1 := Lib.hid hA1
          have HC1 := Lib.hid hC1
          clear hA1 hC1
          go_upto_region 10 with (go_at_call 58; refine (HFB.out _ HA1.out).mono ?_; rintro e w2 ⟨rfl, rfl⟩)
          obtain ⟨Af, cf, hvf⟩ := HA1.out.files.shape
          have hrf := HA1.out.files
          rw [hvf] at hrf
          obtain ⟨bf, of, rfl, _, hbf, hf0, hf1⟩ := flS_at hrf (show (burnF S).files[i]? = some x from HX.out)
          have HVF : Hid (q.vf = .slice (some ⟨bf, of, none⟩) S.files.length cf) := Lib.hid hvf
          have HF0 := Lib.hid hf0
          have HFS : Hid (∃ v, w1.drew.cell? ⟨bf, of + i * 2 + 1, none⟩ = some v) := Lib.hid ⟨_, hf1⟩
          have HFZ : Hid (w1.drew.frozen? ⟨bf, of + i * 2 + 1, none⟩ = false) := Lib.hid (by
            have := (OwnS.free hrf (j := i * 2 + 1) (by rw [flsV_len]; have := (List.getElem?_eq_some_iff.1 HX.out).1; show i * 2 + 1 < S.files.length * 2; omega)).1
            rw [← Nat.add_assoc] at this
            exact this)
          have hsz : (strOfNums x.b).size = x.b.length := str_size x.b
          clear hvf hrf hf0 hf1 hbf
          generalize strOfNums x.b = sx at *
          refine wp_region_ph (by kernel_rfl) [16] [.span 0 0, .span 0 0, .span 0 0, .span 0 0, .span 0 0, .span 0 0, .span 0 0, .span 0 0, .span 0 0, .span 0 0, .span 0 0, .span 0 0, .span 0 0, .span 0 0, .span 0 0, .span 0 0, .phase 0] [fun z9 => z9 = .pointer (some ⟨q.p, 0, none⟩), fun z9 => z9 = .pointer (some ⟨q.p, 0, none⟩), fun z9 => z9 = .pointer (some ⟨q.p, 1, none⟩), fun z9 => z9 = .slice (some ⟨bf, of, none⟩) S.files.length cf, fun z9 => z9 = .int .i64 (i : Int), fun z9 => z9 = .pointer (some ⟨q.p, 0, none⟩), fun z9 => z9 = .pointer (some ⟨q.p, 0, none⟩), fun z9 => z9 = .pointer (some ⟨q.p, 1, none⟩), fun z9 => z9 = .slice (some ⟨bf, of, none⟩) S.files.length cf, fun z9 => z9 = .int .i64 (i : Int), fun z9 => z9 = .pointer (some ⟨bf, of + i * 2, none⟩), fun z9 => z9 = .pointer (some ⟨bf, of + i * 2, none⟩), fun z9 => z9 = .string sx, fun z9 => z9 = .int .i64 (x.b.length : Int), fun z9 => z9 = .pointer (some ⟨bf, of + i * 2, none⟩), fun z9 => z9 = .pointer (some ⟨bf, of + i * 2 + 1, none⟩), fun _ => True] (IFl w1 ⟨bf, of + i * 2 + 1, none⟩ (.int .i64 (x.b.length : Int))) (by kernel_rfl) (by kernel_rfl) (by kernel_rfl) (by kernel_rfl) (by kernel_rfl) (by kernel_rfl) rfl rfl ((show w1.drew = w1.drew from rfl)) ?steps ?done
          case steps =>
            refine ⟨?_, ?_, ?_, ?_, ?_, ?_, ?_, ?_, ?_, ?_, ?_, ?_, ?_, ?_, ?_, ?_, ?_, trivial⟩
            · intro us au w2 k0 hlo hhi ha hd hst hI
              obtain rfl : k0 = 0 := by omega
              have q0 := slot_far (t := 0) (v := .pointer (some ⟨q.p, 0, none⟩)) ha (by kernel_rfl) (by kernel_rfl)
              have p0 := slot_norm q0
              clear ha hd hst
              exact StepI.pure (v := .pointer (some ⟨q.p, 0, none⟩)) rfl rfl (by go_simp) ⟨rfl, hI⟩
            · intro us au w2 k1 hlo hhi ha hd hst hI
              obtain rfl : k1 = 0 := by omega
              have e0 := hd 0 _ (by kernel_rfl) rfl
              have q27 := slot_at (t := 27) 0 ha (by kernel_rfl) (by kernel_rfl) (by kernel_rfl) e0
              have p27 := slot_norm q27
              clear ha hd hst
              exact StepI.pure (v := .pointer (some ⟨q.p, 0, none⟩)) rfl rfl (by go_simp) ⟨rfl, hI⟩
            · intro us au w2 k2 hlo hhi ha hd hst hI
              obtain rfl : k2 = 0 := by omega
              have e1 := hd 1 _ (by kernel_rfl) rfl
              have q28 := slot_at (t := 28) 1 ha (by kernel_rfl) (by kernel_rfl) (by kernel_rfl) e1
              have p28 := slot_norm q28
              clear ha hd hst
              exact StepI.pure (v := .pointer (some ⟨q.p, 1, none⟩)) rfl rfl (by go_simp) ⟨rfl, hI⟩
            · intro us au w2 k3 hlo hhi ha hd hst hI
              obtain rfl : k3 = 0 := by omega
              have e2 := hd 2 _ (by kernel_rfl) rfl
              have q29 := slot_at (t := 29) 2 ha (by kernel_rfl) (by kernel_rfl) (by kernel_rfl) e2
              have p29 := slot_norm q29
              clear ha hd hst
              have kk : w2.cell? ⟨q.p, 1, none⟩ = some (.slice (some ⟨bf, of, none⟩) S.files.length cf) := by obtain rfl : _ = w1.drew := hI; rw [← HVF.out]; exact HA1.out.drew.c1
              have hii : i < S.files.length := hfi
              exact StepI.pure (v := .slice (some ⟨bf, of, none⟩) S.files.length cf) rfl rfl (by go_simp) ⟨rfl, hI⟩
            · intro us au w2 k4 hlo hhi ha hd hst hI
              obtain rfl : k4 = 0 := by omega
              have q5 := slot_far (t := 5) (v := .int .i64 (i : Int)) ha (by kernel_rfl) (by kernel_rfl)
              have p5 := slot_norm q5
              clear ha hd hst
              exact StepI.pure (v := .int .i64 (i : Int)) rfl rfl (by go_simp) ⟨rfl, hI⟩
            · intro us au w2 k5 hlo hhi ha hd hst hI
              obtain rfl : k5 = 0 := by omega
              have q0 := slot_far (t := 0) (v := .pointer (some ⟨q.p, 0, none⟩)) ha (by kernel_rfl) (by kernel_rfl)
              have p0 := slot_norm q0
              clear ha hd hst
              exact StepI.pure (v := .pointer (some ⟨q.p, 0, none⟩)) rfl rfl (by go_simp) ⟨rfl, hI⟩
            · intro us au w2 k6 hlo hhi ha hd hst hI
              obtain rfl : k6 = 0 := by omega
              have e5 := hd 5 _ (by kernel_rfl) rfl
              have q32 := slot_at (t := 32) 5 ha (by kernel_rfl) (by kernel_rfl) (by kernel_rfl) e5
              have p32 := slot_norm q32
              clear ha hd hst
              exact StepI.pure (v := .pointer (some ⟨q.p, 0, none⟩)) rfl rfl (by go_simp) ⟨rfl, hI⟩
            · intro us au w2 k7 hlo hhi ha hd hst hI
              obtain rfl : k7 = 0 := by omega
              have e6 := hd 6 _ (by kernel_rfl) rfl
              have q33 := slot_at (t := 33) 6 ha (by kernel_rfl) (by kernel_rfl) (by kernel_rfl) e6
              have p33 := slot_norm q33
              clear ha hd hst
              exact StepI.pure (v := .pointer (some ⟨q.p, 1, none⟩)) rfl rfl (by go_simp) ⟨rfl, hI⟩
            · intro us au w2 k8 hlo hhi ha hd hst hI
              obtain rfl : k8 = 0 := by omega
              have e7 := hd 7 _ (by kernel_rfl) rfl
              have q34 := slot_at (t := 34) 7 ha (by kernel_rfl) (by kernel_rfl) (by kernel_rfl) e7
              have p34 := slot_norm q34
              clear ha hd hst
              have kk : w2.cell? ⟨q.p, 1, none⟩ = some (.slice (some ⟨bf, of, none⟩) S.files.length cf) := by obtain rfl : _ = w1.drew := hI; rw [← HVF.out]; exact HA1.out.drew.c1
              have hii : i < S.files.length := hfi
              exact StepI.pure (v := .slice (some ⟨bf, of, none⟩) S.files.length cf) rfl rfl (by go_simp) ⟨rfl, hI⟩
            · intro us au w2 k9 hlo hhi ha hd hst hI
              obtain rfl : k9 = 0 := by omega
              have q5 := slot_far (t := 5) (v := .int .i64 (i : Int)) ha (by kernel_rfl) (by kernel_rfl)
              have p5 := slot_norm q5
              clear ha hd hst
              exact StepI.pure (v := .int .i64 (i : Int)) rfl rfl (by go_simp) ⟨rfl, hI⟩
            · intro us au w2 k10 hlo hhi ha hd hst hI
              obtain rfl : k10 = 0 := by omega
              have e8 := hd 8 _ (by kernel_rfl) rfl
              have e9 := hd 9 _ (by kernel_rfl) rfl
              have q35 := slot_at (t := 35) 8 ha (by kernel_rfl) (by kernel_rfl) (by kernel_rfl) e8
              have p35 := slot_norm q35
              have q36 := slot_at (t := 36) 9 ha (by kernel_rfl) (by kernel_rfl) (by kernel_rfl) e9
              have p36 := slot_norm q36
              clear ha hd hst
              have hii : i < S.files.length := hfi
              exact StepI.pure (v := .pointer (some ⟨bf, of + i * 2, none⟩)) rfl rfl (by go_simp) ⟨rfl, hI⟩
            · intro us au w2 k11 hlo hhi ha hd hst hI
              obtain rfl : k11 = 0 := by omega
              have e10 := hd 10 _ (by kernel_rfl) rfl
              have q37 := slot_at (t := 37) 10 ha (by kernel_rfl) (by kernel_rfl) (by kernel_rfl) e10
              have p37 := slot_norm q37
              clear ha hd hst
              exact StepI.pure (v := .pointer (some ⟨bf, of + i * 2, none⟩)) rfl rfl (by go_simp) ⟨rfl, hI⟩
            · intro us au w2 k12 hlo hhi ha hd hst hI
              obtain rfl : k12 = 0 := by omega
              have e11 := hd 11 _ (by kernel_rfl) rfl
              have q38 := slot_at (t := 38) 11 ha (by kernel_rfl) (by kernel_rfl) (by kernel_rfl) e11
              have p38 := slot_norm q38
              clear ha hd hst
              have kk : w2.cell? ⟨bf, of + i * 2, none⟩ = some (.string sx) := by obtain rfl : _ = w1.drew := hI; exact HF0.out
              exact StepI.pure (v := .string sx) rfl rfl (by go_simp) ⟨rfl, hI⟩
            · intro us au w2 k13 hlo hhi ha hd hst hI
              obtain rfl : k13 = 0 := by omega
              have e12 := hd 12 _ (by kernel_rfl) rfl
              have q39 := slot_at (t := 39) 12 ha (by kernel_rfl) (by kernel_rfl) (by kernel_rfl) e12
              have p39 := slot_norm q39
              clear ha hd hst
              have hz9 := hsz
              exact StepI.pure (v := .int .i64 (x.b.length : Int)) rfl rfl (by go_simp) ⟨rfl, hI⟩
            · intro us au w2 k14 hlo hhi ha hd hst hI
              obtain rfl : k14 = 0 := by omega
              have e3 := hd 3 _ (by kernel_rfl) rfl
              have e4 := hd 4 _ (by kernel_rfl) rfl
              have q30 := slot_at (t := 30) 3 ha (by kernel_rfl) (by kernel_rfl) (by kernel_rfl) e3
              have p30 := slot_norm q30
              have q31 := slot_at (t := 31) 4 ha (by kernel_rfl) (by kernel_rfl) (by kernel_rfl) e4
              have p31 := slot_norm q31
              clear ha hd hst
              have hii : i < S.files.length := hfi
              exact StepI.pure (v := .pointer (some ⟨bf, of + i * 2, none⟩)) rfl rfl (by go_simp) ⟨rfl, hI⟩
            · intro us au w2 k15 hlo hhi ha hd hst hI
              obtain rfl : k15 = 0 := by omega
              have e14 := hd 14 _ (by kernel_rfl) rfl
              have q41 := slot_at (t := 41) 14 ha (by kernel_rfl) (by kernel_rfl) (by kernel_rfl) e14
              have p41 := slot_norm q41
              clear ha hd hst
              exact StepI.pure (v := .pointer (some ⟨bf, of + i * 2 + 1, none⟩)) rfl rfl (by go_simp) ⟨rfl, hI⟩
            · intro us au w2 ha hd hst hI
              have e15 := hd 15 _ (by kernel_rfl) rfl
              have e13 := hd 13 _ (by kernel_rfl) rfl
              have q42 := slot_at (t := 42) 15 ha (by kernel_rfl) (by kernel_rfl) (by kernel_rfl) e15
              have p42 := slot_norm q42
              have q40 := slot_at (t := 40) 13 ha (by kernel_rfl) (by kernel_rfl) (by kernel_rfl) e13
              have p40 := slot_norm q40
              clear ha hd hst
              obtain rfl : _ = w1.drew := hI
              obtain ⟨v9, kk⟩ := HFS.out
              have ff := HFZ.out
              exact StepI.stored (w' := w1.drew.setCell ⟨bf, of + i * 2 + 1, none⟩ (.int .i64 (x.b.length : Int))) rfl rfl (by go_simp) ⟨trivial, rfl⟩
          case done =>
            intro us w2 hI hd
            have hst := HA1.out.drew.stFile (f := fun y => { y with s := y.b.length }) (j := 1) (u := .int .i64 (x.b.length : Int)) HVF.out (show (burnF S).files[i]? = some x from HX.out) (by decide) rfl
            have HW : Hid (w2 = w1.drew.setCell ⟨bf, of + i * 2 + 1, none⟩ (.int .i64 (x.b.length : Int))) := Lib.hid hI
            have HT : Hid (RfTo F q.p w { burnF S with files := S.files.modify i (fun y => { y with s := y.b.length }) } w2) := Lib.hid (by
              rw [HW.out]
              exact ⟨q, hst.1.mono fun k hk => .inl hk, rfl, ((HC1.out.drew).mono (S' := F) (fun k _ hk => by rw [hk]; exact H.out.mem.p)).trans hst.2 (fun k _ hk => hk)⟩)
            clear hst hI
            simp only [putAll]
            go_simp
            go_wp2
            rw [HPO.out, HE.out]
            exact ⟨rfl, HT.out⟩
/-! ### Remove -/
set_option maxRecDepth 100000 in
set_option maxHeartbeats 4000000 in
theorem rremove_any (w : World) (F : Nat → Prop) (q : Rq) (S : Fs) (N : Nat) (h : RfAt w F q S) (hI : Inv N 16777216 S) (hN : N ≤ 1000000) (s : ByteArray) (hs : s.size ≤ 9223372036854775807) :
    Calls Try.prog 48 #[ptrV q.p, .string s] w (RfPost F q.p (removeF S s.data.toList) w) := by
  have HPO : Hid (∀ r e w', RfPost F q.p r w e w' = (e = .returned (.int .i64 r.1) ∧ RfTo F q.p w r.2 w')) := Lib.hid (fun _ _ _ => rfl)
  generalize hr : removeF S s.data.toList = r at *
  have HR := Lib.hid hr
  have HNO : Hid (ofF S s.data.toList ≠ 0 → r = (ofF S s.data.toList, S)) := Lib.hid (fun h0 => by rw [← hr]; unfold removeF; rw [if_pos h0])
  generalize RfPost F q.p = POST at *
  have HNM := Lib.hid (fun w => rname_any s w hs)
  have HFI := Lib.hid (fun W (hw : Below w.heap.size w W) => find_any W F q S N (h.below hw) hI hN s)
  have HBU := Lib.hid (fun W (hw : Below w.heap.size w W) => rburn_any W F q S (h.below hw) hI.fus)
  have HFB := Lib.hid (fun W (hw : RfAt W F q (burnF S)) => find_any W F q (burnF S) N hw hI.burn hN s)
  rw [burnF_now] at HFB
  have HI := Lib.hid hI
  have HNB := Lib.hid hN
  have HFL : Hid (S.files.length ≤ 1000000) := Lib.hid (by have := hI.fl; omega)
  have c6 := h.c6
  have H := Lib.hid h
  clear hs h hI hN hr
  unfold ptrV at *
  go_enter Try.func48, Try.ntmps48
  cases hd : S.dead
  case true =>
    rw [hd] at c6
    have HOF := Lib.hid (ofF_dead (n := s.data.toList) hd)
    have HE : Hid (r = (50, S)) := Lib.hid (by rw [HNO.out (by rw [HOF.out]; decide), HOF.out])
    clear hd
    go_wp2
    rw [HPO.out, HE.out]
    exact ⟨rfl, RfTo.refl H.out⟩
  case false =>
    rw [hd] at c6
    have HD := Lib.hid hd
    clear hd
    cases hk : okN s.data.toList
    case false =>
      have HOF := Lib.hid (ofF_bad HD.out hk)
      have HE : Hid (r = (1, S)) := Lib.hid (by rw [HNO.out (by rw [HOF.out]; decide), HOF.out])
      rw [hk] at HNM
      clear hk
      go_wp2_with (go_at_call 57; refine (HNM.out w).mono ?_; rintro e w1 ⟨rfl, rfl⟩)
      rw [HPO.out, HE.out]
      exact ⟨rfl, RfTo.refl H.out⟩
    case true =>
      have HK := Lib.hid hk
      rw [hk] at HNM
      clear hk
      cases hg : getN S.now s.data.toList
      case none =>
        rw [findI_neg hg] at HFI
        have HOF := Lib.hid (ofF_none HD.out HK.out hg)
        have HE : Hid (r = (61, S)) := Lib.hid (by rw [HNO.out (by rw [HOF.out]; decide), HOF.out])
        clear hg
        go_wp2_with (first | (go_at_call 57; refine (HNM.out w).mono ?_; rintro e w1 ⟨rfl, rfl⟩) | (go_at_call 58; refine (HFI.out w (Below.refl _ _)).mono ?_; rintro e w1 ⟨rfl, rfl⟩))
        rw [HPO.out, HE.out]
        exact ⟨rfl, RfTo.refl H.out⟩
      case some i =>
        rw [findI_pos hg] at HFI HFB
        have HG := Lib.hid hg
        have HOF := Lib.hid (ofF_good HD.out HK.out hg)
        have hfi := HI.out.get hg
        obtain ⟨x, hx⟩ : ∃ x, S.files[i]? = some x := ⟨_, List.getElem?_eq_getElem hfi⟩
        have HX := Lib.hid hx
        have hfl : S.files.length ≤ 1000000 := HFL.out
        have d1 : decide ((i : Int) < 0) = false := decide_eq_false (by omega)
        clear hg hx
        cases hb : burnOk S
        case false =>
          rw [hb] at HBU
          have HE : Hid (r = (50, burnF S)) := Lib.hid (by rw [← HR.out]; unfold removeF; rw [if_neg (by rw [HOF.out]; simp), if_pos hb])
          clear hb
          go_wp2_with (first | (go_at_call 57; refine (HNM.out w).mono ?_; rintro e w1 ⟨rfl, rfl⟩) | (go_at_call 58; refine (HFI.out w (Below.refl _ _)).mono ?_; rintro e w1 ⟨rfl, rfl⟩) | (go_at_call 59; refine (HBU.out _ (Below.refl _ _)).mono ?_; rintro e w1 ⟨rfl, hA1, hC1⟩))
          rw [HPO.out, HE.out]
          exact ⟨rfl, RfTo.burnt H.out hA1 hC1⟩
        case true =>
          rw [hb] at HBU
          have HE : Hid (r = (0, changeF (burnF S) (.remove s.data.toList))) := Lib.hid (by
            rw [← HR.out]; unfold removeF; rw [if_neg (by rw [HOF.out]; simp), if_neg (by rw [hb]; simp)])
          have HCH := Lib.hid (fun (W : World) (hA : RfAt W F q (burnF S)) => rchange_any W F q (burnF S) N (.remove s.data.toList) hA HI.out.burn HNB.out (okN_sz2 HK.out))
          have HCE : Hid (cdA (chD (.remove s.data.toList)) = .agg #[.string s, .string ⟨#[]⟩, .int .i64 (-1)]) := Lib.hid (by
            show Value.agg #[.string (bkN s.data.toList), _, _] = _
            rw [bkN_of]; rfl)
          rw [HCE.out] at HCH
          unfold RChPost at HCH
          clear hb
          go_wp2_with (first
            | (have hx := hA1; go_at_call 60; refine (HCH.out _ hA1).mono ?_; rintro e w6 ⟨rfl, hT⟩)
            | (first | (go_at_call 57; refine (HNM.out w).mono ?_; rintro e w1 ⟨rfl, rfl⟩) | (go_at_call 58; refine (HFI.out w (Below.refl _ _)).mono ?_; rintro e w1 ⟨rfl, rfl⟩) | (go_at_call 59; refine (HBU.out _ (Below.refl _ _)).mono ?_; rintro e w1 ⟨rfl, hA1, hC1⟩)))
          rw [HPO.out, HE.out]
          exact ⟨rfl, RfTo.after H.out hC1 hT⟩
/-! ### SyncNames -/
/-- The names last as they are. -/
theorem RfAt.stSync {w : World} {F : Nat → Prop} {q : Rq} {S : Fs} (h : RfAt w F q S) : RfAt ((w.setCell ⟨q.p, 3, none⟩ q.vn).setCell ⟨q.p, 4, none⟩ (.slice none 0 0)) F { q with vl := q.vn, vw := .slice none 0 0 } { S with last := S.now, wait := [] } := by
  obtain ⟨n1, n2, n3, n4⟩ := h.np
  have hk : ∀ k, k ≠ q.p → ((w.setCell ⟨q.p, 3, none⟩ q.vn).setCell ⟨q.p, 4, none⟩ (.slice none 0 0)).heap[k]? = w.heap[k]? := fun k hk => (Below.heap_setCell _ _ _ _ hk).trans (Below.heap_setCell _ _ _ _ hk)
  refine ⟨((h.cel.set 3 q.vn).set 4 _).congr fun i hi => ?_, h.files.heap fun k e => hk k (n1 k e), h.now.heap fun k e => hk k (n2 k e), h.now.heap fun k e => hk k (n2 k e), OwnS.nil _ _ _ _, ⟨h.mem.p, h.mem.vf, h.mem.vn, h.mem.vn, fun k e => by cases e⟩⟩
  rcases rfI hi with rfl | rfl | rfl | rfl | rfl | rfl | rfl <;> rfl
set_option maxRecDepth 100000 in
set_option maxHeartbeats 4000000 in
theorem rsyncNames_any (w : World) (F : Nat → Prop) (q : Rq) (S : Fs) (N : Nat) (h : RfAt w F q S) (hI : Inv N 16777216 S) :
    Calls Try.prog 49 #[ptrV q.p] w (RfPost F q.p (syncNamesF S) w) := by
  have HPO : Hid (∀ r e w', RfPost F q.p r w e w' = (e = .returned (.int .i64 r.1) ∧ RfTo F q.p w r.2 w')) := Lib.hid (fun _ _ _ => rfl)
  generalize hr : syncNamesF S = r at *
  have HR := Lib.hid hr
  generalize RfPost F q.p = POST at *
  have HBU := Lib.hid (rburn_any w F q S h hI.fus)
  have c6 := h.c6
  have H := Lib.hid h
  clear h hI hr
  unfold ptrV at *
  cases hd : S.dead
  case true =>
    rw [hd] at c6
    have HE : Hid (r = (50, S)) := Lib.hid (by rw [← HR.out]; unfold syncNamesF; rw [hd]; rfl)
    clear hd
    go_enter Try.func49, Try.ntmps49
    go_wp2
    rw [HPO.out, HE.out]
    exact ⟨rfl, RfTo.refl H.out⟩
  case false =>
    rw [hd] at c6
    cases hb : burnOk S
    case false =>
      rw [hb] at HBU
      have HE : Hid (r = (50, burnF S)) := Lib.hid (by rw [← HR.out]; unfold syncNamesF; rw [hd, if_neg (by simp), if_pos hb])
      clear hd hb
      go_enter Try.func49, Try.ntmps49
      go_wp2_with (go_at_call 59; refine HBU.out.mono ?_; rintro e w1 ⟨rfl, hA1, hC1⟩)
      rw [HPO.out, HE.out]
      exact ⟨rfl, RfTo.burnt H.out hA1 hC1⟩
    case true =>
      rw [hb] at HBU
      have HE : Hid (r = (0, { burnF S with last := S.now, wait := [] })) := Lib.hid (by rw [← HR.out]; unfold syncNamesF; rw [hd, if_neg (by simp), if_neg (by rw [hb]; simp)])
      clear hd hb
      go_enter Try.func49, Try.ntmps49
      obtain ⟨A, c, hvn⟩ := H.out.now.shape
      go_upto_region 3 with (go_at_call 59; refine HBU.out.mono ?_; rintro e w1 ⟨rfl, hA1, hC1⟩)
      have k2 := hA1.c2
      have k3 := hA1.c3
      have f3 := hA1.fz 3
      have f4 := hA1.fz 4
      have k4 := hA1.c4
      rw [hvn] at k2
      have HT : Hid (RfTo F q.p w { burnF S with last := S.now, wait := [] } ((w1.setCell ⟨q.p, 3, none⟩ q.vn).setCell ⟨q.p, 4, none⟩ (.slice none 0 0))) := Lib.hid (RfTo.after H.out hC1 ⟨_, hA1.stSync.mono fun k hk => .inl hk, rfl, ((Chg.refl F w1).setCell (a := ⟨q.p, 3, none⟩) (.inl hA1.mem.p) _).setCell (a := ⟨q.p, 4, none⟩) (.inl hA1.mem.p) _⟩)
      rw [hvn] at HT
      obtain ⟨_, _, hvl⟩ := hA1.last.shape
      obtain ⟨_, _, hvw⟩ := hA1.wait.shape
      rw [hvl] at k3
      rw [hvw] at k4
      clear hvn hvl hvw hA1 hC1
      go_wp2
      rw [HPO.out, HE.out]
      exact ⟨rfl, HT.out⟩
end Go.Proofs.Ytmoaabjiokjjlaa
namespace Go.Proofs.Ytmoaabjiokjjlaa
open Go.RowKit Go.Maps
set_option linter.unusedVariables false
set_option linter.unusedSimpArgs false

/-! ### Rename -/
theorem named2_dead {S : Fs} {l : List Nm} (h : S.dead = true) : namedF S l = 50 := by unfold namedF; rw [h]; rfl
theorem named2_bad {S : Fs} {a b : Nm} (h : S.dead = false) (hk : okN a = false ∨ okN b = false) : namedF S [a, b] = 1 := by
  unfold namedF; rw [h]
  rcases hk with hk | hk <;> simp [hk]
theorem named2_ok {S : Fs} {a b : Nm} (h : S.dead = false) (h1 : okN a = true) (h2 : okN b = true) : namedF S [a, b] = 0 := by unfold namedF; rw [h]; simp [h1, h2]
set_option maxRecDepth 100000 in
set_option maxHeartbeats 4000000 in
theorem rrename_any (w : World) (F : Nat → Prop) (q : Rq) (S : Fs) (N : Nat) (h : RfAt w F q S) (hI : Inv N 16777216 S) (hN : N ≤ 1000000) (s t : ByteArray) (hs : s.size ≤ 9223372036854775807) (ht : t.size ≤ 9223372036854775807) :
    Calls Try.prog 47 #[ptrV q.p, .string s, .string t] w (RfPost F q.p (renameF S s.data.toList t.data.toList) w) := by
  have HPO : Hid (∀ r e w', RfPost F q.p r w e w' = (e = .returned (.int .i64 r.1) ∧ RfTo F q.p w r.2 w')) := Lib.hid (fun _ _ _ => rfl)
  generalize hr : renameF S s.data.toList t.data.toList = r at *
  have HR := Lib.hid hr
  generalize RfPost F q.p = POST at *
  have HFI := Lib.hid (fun W (hw : Below w.heap.size w W) => find_any W F q S N (h.below hw) hI hN s)
  have HBU := Lib.hid (fun W (hw : Below w.heap.size w W) => rburn_any W F q S (h.below hw) hI.fus)
  have HFB := Lib.hid (fun W (hw : RfAt W F q (burnF S)) => find_any W F q (burnF S) N hw hI.burn hN s)
  rw [burnF_now] at HFB
  have HI := Lib.hid hI
  have HNB := Lib.hid hN
  have c6 := h.c6
  have H := Lib.hid h
  clear h hI hN hr
  unfold ptrV at *
  cases hd : S.dead
  case true =>
    rw [hd] at c6
    have HE : Hid (r = (50, S)) := Lib.hid (by rw [← HR.out]; unfold renameF; rw [named2_dead hd, if_pos (by decide)])
    clear hd
    go_enter Try.func47, Try.ntmps47
    go_wp2
    rw [HPO.out, HE.out]
    exact ⟨rfl, RfTo.refl H.out⟩
  case false =>
    rw [hd] at c6
    have HD := Lib.hid hd
    clear hd
    cases hk : okN s.data.toList
    case false =>
      have HE : Hid (r = (1, S)) := Lib.hid (by rw [← HR.out]; unfold renameF; rw [named2_bad HD.out (.inl hk), if_pos (by decide)])
      go_enter Try.func47, Try.ntmps47
      go_wp2_with (go_at_call 57; refine (rname_any _ w (by assumption)).mono ?_; rintro e w1 ⟨rfl, rfl⟩)
      rw [HPO.out, HE.out]
      exact ⟨rfl, RfTo.refl H.out⟩
    case true =>
      have HK := Lib.hid hk
      cases hk2 : okN t.data.toList
      case false =>
        have HE : Hid (r = (1, S)) := Lib.hid (by rw [← HR.out]; unfold renameF; rw [named2_bad HD.out (.inr hk2), if_pos (by decide)])
        go_enter Try.func47, Try.ntmps47
        go_wp2_with (go_at_call 57; refine (rname_any _ w (by assumption)).mono ?_; rintro e w1 ⟨rfl, rfl⟩)
        rw [HPO.out, HE.out]
        exact ⟨rfl, RfTo.refl H.out⟩
      case true =>
        have HK2 := Lib.hid hk2
        have HNF := Lib.hid (named2_ok HD.out HK.out HK2.out)
        cases hg : getN S.now s.data.toList
        case none =>
          rw [findI_neg hg] at HFI
          have HE : Hid (r = (61, S)) := Lib.hid (by rw [← HR.out]; unfold renameF; rw [if_neg (by rw [HNF.out]; decide), hg])
          clear hg
          go_enter Try.func47, Try.ntmps47
          go_wp2_with (first | (go_at_call 58; refine (HFI.out w (Below.refl _ _)).mono ?_; rintro e w1 ⟨rfl, rfl⟩) | (go_at_call 57; refine (rname_any _ w (by assumption)).mono ?_; rintro e w1 ⟨rfl, rfl⟩))
          rw [HPO.out, HE.out]
          exact ⟨rfl, RfTo.refl H.out⟩
        case some i =>
          rw [findI_pos hg] at HFI HFB
          have HG := Lib.hid hg
          have d1 : decide ((i : Int) < 0) = false := decide_eq_false (by omega)
          clear hg
          cases hb : burnOk S
          case false =>
            rw [hb] at HBU
            have HE : Hid (r = (50, burnF S)) := Lib.hid (by rw [← HR.out]; unfold renameF; rw [if_neg (by rw [HNF.out]; decide), HG.out]; show (if burnOk S = false then _ else _) = _; rw [if_pos hb])
            clear hb
            go_enter Try.func47, Try.ntmps47
            go_wp2_with (first | (go_at_call 58; refine (HFI.out w (Below.refl _ _)).mono ?_; rintro e w1 ⟨rfl, rfl⟩) | (go_at_call 59; refine (HBU.out _ (Below.refl _ _)).mono ?_; rintro e w1 ⟨rfl, hA1, hC1⟩) | (go_at_call 57; refine (rname_any _ w (by assumption)).mono ?_; rintro e w1 ⟨rfl, rfl⟩))
            rw [HPO.out, HE.out]
            exact ⟨rfl, RfTo.burnt H.out hA1 hC1⟩
          case true =>
            rw [hb] at HBU
            by_cases he : s.data.toList = t.data.toList
            · have HE : Hid (r = (0, burnF S)) := Lib.hid (by rw [← HR.out]; unfold renameF; rw [if_neg (by rw [HNF.out]; decide), HG.out]; show (if burnOk S = false then _ else _) = _; rw [if_neg (by rw [hb]; decide), if_pos he])
              have q1 : (s.toList == t.toList) = true := by rw [beq_iff_eq, Lib.toList_data, Lib.toList_data]; exact he
              clear hb he
              go_enter Try.func47, Try.ntmps47
              go_wp2_with (first | (go_at_call 58; refine (HFI.out w (Below.refl _ _)).mono ?_; rintro e w1 ⟨rfl, rfl⟩) | (go_at_call 59; refine (HBU.out _ (Below.refl _ _)).mono ?_; rintro e w1 ⟨rfl, hA1, hC1⟩) | (go_at_call 57; refine (rname_any _ w (by assumption)).mono ?_; rintro e w1 ⟨rfl, rfl⟩))
              rw [HPO.out, HE.out]
              exact ⟨rfl, RfTo.burnt H.out hA1 hC1⟩
            · have HE : Hid (r = (0, changeF (burnF S) (.rename s.data.toList t.data.toList i))) := Lib.hid (by rw [← HR.out]; unfold renameF; rw [if_neg (by rw [HNF.out]; decide), HG.out]; show (if burnOk S = false then _ else _) = _; rw [if_neg (by rw [hb]; decide), if_neg he])
              have q1 : (s.toList == t.toList) = false := by rw [beq_eq_false_iff_ne, Lib.toList_data, Lib.toList_data]; exact he
              have HCH := Lib.hid (fun (W : World) (hA : RfAt W F q (burnF S)) => rchange_any W F q (burnF S) N (.rename s.data.toList t.data.toList i) hA HI.out.burn HNB.out ⟨(okN_sz HK.out).1, he, okN_sz2 HK.out, okN_sz2 HK2.out⟩)
              have HCE : Hid (cdA (chD (.rename s.data.toList t.data.toList i)) = .agg #[.string t, .string s, .int .i64 (i : Int)]) := Lib.hid (by
                show Value.agg #[.string (bkN t.data.toList), .string (bkN s.data.toList), _] = _
                rw [bkN_of, bkN_of]; rfl)
              rw [HCE.out] at HCH
              unfold RChPost at HCH
              clear hb he
              go_enter Try.func47, Try.ntmps47
              go_upto_region 9 with (first | (go_at_call 58; refine (HFI.out w (Below.refl _ _)).mono ?_; rintro e w1 ⟨rfl, rfl⟩) | (go_at_call 59; refine (HBU.out _ (Below.refl _ _)).mono ?_; rintro e w1 ⟨rfl, hA1, hC1⟩) | (go_at_call 57; refine (rname_any _ w (by assumption)).mono ?_; rintro e w1 ⟨rfl, rfl⟩))
              have HA1 := Lib.hid hA1
              have HC1 := Lib.hid hC1
              clear hA1 hC1
              go_wp2_with (first
                | (go_at_call 58; refine (HFB.out _ HA1.out).mono ?_; rintro e w2 ⟨rfl, rfl⟩)
                | (go_at_call 60; refine (HCH.out _ HA1.out).mono ?_; rintro e w6 ⟨rfl, hT⟩))
              rw [HPO.out, HE.out]
              exact ⟨rfl, RfTo.after H.out HC1.out hT⟩
end Go.Proofs.Ytmoaabjiokjjlaa
namespace Go.Proofs.Ytmoaabjiokjjlaa
open Go.RowKit Go.Maps
set_option linter.unusedVariables false
set_option linter.unusedSimpArgs false

/-! ### List -/
theorem info_strR : (Try.prog.info? 9).map (fun i => (i.zero, i.size, i.bytes)) = some (some (.string ⟨#[]⟩), 1, 16) := by kernel_rfl
def RListPost (S : Fs) (p : Nm) (w : World) (e : Ending) (w' : World) : Prop :=
  Below w.heap.size w w' ∧ ∃ A c, e = .returned (.slice A (listF S p).length c) ∧ OwnS w' w.heap.size 9 1 (.slice A (listF S p).length c) (listF S p).length (nmVs (listF S p))
def lsF (S : Fs) (p : Nm) (k : Nat) : List Nm := ((S.now.take k).map (·.1)).filter fun s => p.isPrefixOf s
theorem lsF_snoc (S : Fs) (p : Nm) (k : Nat) (x : Nm × Nat) (h : S.now[k]? = some x) : lsF S p (k + 1) = lsF S p k ++ (if p.isPrefixOf x.1 then [x.1] else []) := by
  unfold lsF
  rw [take_snoc h, List.map_append, List.filter_append]
  simp only [List.map_cons, List.map_nil, List.filter_cons, List.filter_nil]
theorem lsF_le (S : Fs) (p : Nm) (k : Nat) : (lsF S p k).length ≤ k := by
  unfold lsF
  refine Nat.le_trans (List.length_filter_le _ _) ?_
  simp; omega
theorem pre_is (p n : Nm) : p.isPrefixOf n = (decide (p.length ≤ n.length) && (n.take p.length == p)) := by
  rw [Bool.eq_iff_iff, List.isPrefixOf_iff_prefix, Bool.and_eq_true, decide_eq_true_iff, beq_iff_eq]
  constructor
  · intro h
    exact ⟨h.length_le, (List.prefix_iff_eq_take.1 h).symm⟩
  · rintro ⟨_, h⟩
    exact List.prefix_iff_eq_take.2 h.symm
theorem bkN_ext (n : Nm) (k : Nat) : ((bkN n).extract 0 k).toList = n.take k := by
  rw [Lib.toList_data, ByteArray.data_extract]
  show ((n.toArray).extract 0 k).toList = _
  simp
set_option maxRecDepth 100000 in
set_option maxHeartbeats 2000000 in
theorem rlist_any (w : World) (F : Nat → Prop) (q : Rq) (S : Fs) (N : Nat) (h : RfAt w F q S) (hI : Inv N 16777216 S) (hN : N ≤ 1000000) (s : ByteArray) (hs : s.size ≤ 9223372036854775807) :
    Calls Try.prog 30 #[ptrV q.p, .string s] w (RListPost S s.data.toList w) := by
  have HPO : Hid (∀ e w', RListPost S s.data.toList w e w' = (Below w.heap.size w w' ∧ ∃ A c, e = .returned (.slice A (listF S s.data.toList).length c) ∧ OwnS w' w.heap.size 9 1 (.slice A (listF S s.data.toList).length c) (listF S s.data.toList).length (nmVs (listF S s.data.toList)))) := Lib.hid (fun _ _ => rfl)
  generalize RListPost S s.data.toList w = POST at *
  have HLN : Hid (S.now.length ≤ 1000000) := Lib.hid (by have := hI.lenNow; omega)
  have HSZ := Lib.hid hs
  have H := Lib.hid h
  obtain ⟨i0, hi, hz0, hz1, hz2⟩ := info_parts info_strR
  obtain ⟨A, c, hvn⟩ := h.now.shape
  have HVN := Lib.hid hvn
  clear h hI hN hvn hs
  unfold ptrV
  cases hd : S.dead
  case true =>
    have HE : Hid (listF S s.data.toList = []) := Lib.hid (by unfold listF; rw [if_pos hd])
    have c6 := H.out.c6
    have c2 := H.out.c2
    rw [hd] at c6
    rw [HVN.out] at c2
    clear hd
    by_cases h0 : 0 < S.now.length
    · have d0 : decide ((0 : Int) < (S.now.length : Int)) = true := decide_eq_true (by omega)
      have d0' : decide (0 < S.now.length) = true := decide_eq_true h0
      clear h0
      go_enter Try.func30, Try.ntmps30
      go_wp2
      go_loopw [6, 5] (fun v6 v5 wr => v6 = .int .i64 0 ∧ v5 = .slice none 0 0 ∧ wr = w) (fun v6 _ _ => 0)
      case atStart => exact ⟨rfl, rfl, rfl⟩
      case round =>
        obtain ⟨rfl, rfl, rfl⟩ := hrel
        go_wp2
        rw [HPO.out, HE.out]
        exact ⟨Below.refl _ _, none, 0, rfl, OwnS.nil _ _ _ _⟩
    · have d0 : decide ((0 : Int) < (S.now.length : Int)) = false := decide_eq_false (by omega)
      have d0' : decide (0 < S.now.length) = false := decide_eq_false h0
      clear h0
      go_enter Try.func30, Try.ntmps30
      go_wp2
      go_loopw [6, 5] (fun v6 v5 wr => v6 = .int .i64 0 ∧ v5 = .slice none 0 0 ∧ wr = w) (fun v6 _ _ => 0)
      case atStart => exact ⟨rfl, rfl, rfl⟩
      case round =>
        obtain ⟨rfl, rfl, rfl⟩ := hrel
        go_wp2
        rw [HPO.out, HE.out]
        exact ⟨Below.refl _ _, none, 0, rfl, OwnS.nil _ _ _ _⟩
  case false =>
    have HD := Lib.hid hd
    have HE : Hid (listF S s.data.toList = lsF S s.data.toList S.now.length) := Lib.hid (by unfold listF lsF; rw [if_neg (by rw [hd]; decide), List.take_length])
    have HSN := Lib.hid (lsF_snoc S s.data.toList)
    have HLE := Lib.hid (lsF_le S s.data.toList)
    have HZ0 : Hid (lsF S s.data.toList 0 = []) := Lib.hid rfl
    have hsl : s.data.toList.length = s.size := (Lib.size_eq s).symm
    have HSL := Lib.hid hsl
    generalize lsF S s.data.toList = ls at *
    clear hd hsl
    go_enter Try.func30, Try.ntmps30
    go_wp2
    go_loopw [6, 5] (fun v6 v5 wr => ∃ (k : Nat) (v : Value), v6 = .int .i64 (k : Int) ∧ v5 = v ∧ k ≤ S.now.length ∧ OwnS wr w.heap.size 9 1 v (ls k).length (nmVs (ls k)) ∧ Below w.heap.size w wr) (fun v6 _ _ => S.now.length - (intOf v6).toNat)
    case atStart => exact ⟨0, _, rfl, rfl, Nat.zero_le _, by rw [HZ0.out]; exact OwnS.nil _ _ _ _, Below.refl _ _⟩
    case round =>
      obtain ⟨k, v, rfl, rfl, hk, ho, hb⟩ := hrel
      obtain ⟨Ao, co, rfl⟩ := ho.shape
      have c6 := (H.out.below hb).c6
      have c2 := (H.out.below hb).c2
      rw [HD.out] at c6
      rw [HVN.out] at c2
      have hls : S.now.length ≤ 1000000 := HLN.out
      have HO := Lib.hid ho
      have HB := Lib.hid hb
      by_cases hlt : k < S.now.length
      · obtain ⟨x, hx⟩ : ∃ x, S.now[k]? = some x := ⟨_, List.getElem?_eq_getElem hlt⟩
        have hrn := (H.out.below hb).now
        rw [HVN.out] at hrn
        obtain ⟨b, o, rfl, _, hbl, hc0, hc1⟩ := nmS_at hrn hx
        have d0 : decide ((k : Int) < (S.now.length : Int)) = true := decide_eq_true (by omega)
        have d0' : decide (k < S.now.length) = true := decide_eq_true hlt
        have HS1 := Lib.hid (HSN.out k x hx)
        have hpre := pre_is s.data.toList x.1
        rw [HSL.out] at hpre
        have hxz : (bkN x.1).size = x.1.length := bkN_size _
        have HXL : Hid ((bkN x.1).size = x.1.length) := Lib.hid hxz
        have hext := bkN_ext x.1 s.size
        have htl : s.toList = s.data.toList := Lib.toList_data s
        rw [← htl] at hpre
        rw [← hext] at hpre
        rw [← hxz] at hpre
        generalize hxn : bkN x.1 = xn at *
        have HXN := Lib.hid hxn
        clear hrn hx hbl ho hb hxn hext htl hxz
        have HPR : Hid (List.isPrefixOf s.data.toList x.1 = (decide (s.size ≤ xn.size) && ((xn.extract 0 s.size).toList == s.toList))) := Lib.hid (by rw [← Lib.toList_data]; exact hpre)
        clear hpre
        by_cases hsz : s.size ≤ xn.size
        · have e1 : decide ((s.size : Int) ≤ (xn.size : Int)) = true := decide_eq_true (by omega)
          have e1' : decide (s.size ≤ xn.size) = true := decide_eq_true hsz
          cases hpq : ((xn.extract 0 s.size).toList == s.toList)
          · have HST : Hid (ls (k + 1) = ls k) := Lib.hid (by rw [HS1.out, HPR.out, e1', hpq]; simp)
            go_wp2
            go_roundw
            case rel => exact ⟨k + 1, _, rfl, rfl, hlt, by rw [HST.out]; exact HO.out, HB.out⟩
            case measure => simp [intOf]; omega
          · have HST : Hid (ls (k + 1) = ls k ++ [x.1]) := Lib.hid (by rw [HS1.out, HPR.out, e1', hpq]; simp)
            have hw1 : Below wr.heap.size wr (wr.alloc (.cells #[.string xn] 9)) := (Below.refl _ _).alloc (Nat.le_refl _) _
            have HOA := Lib.hid (HO.out.keptB hw1)
            have HBA := Lib.hid (HB.out.trans (hw1.mono HB.out.size))
            have HSR := Lib.hid (Src.one_new (P := Try.prog) (w := wr) (u := .string xn) (t := 9) rfl)
            have hlk := HLE.out k
            have hm1 : (ls k).length + 1 ≤ maxLen := by unfold maxLen; omega
            have hb1 : ((ls k).length + 1) * 16 ≤ 140737488355328 := by omega
            clear hw1
            go_wp2_with (at_builtin; go_loud (refine wpList_append_S rfl (.tmp 45) (.tmp 47) 31 31 rfl i0 (.string ⟨#[]⟩) 16 (.slice 9) Try.underlying31 Try.underlying31 (fun _ h => by cases h) hi hz0 hz1 hz2 rfl rfl rfl HOA.out HSR.out hm1 hb1 HBA.out.size ?_; intro A9 c9 w9 ho9 hg9 hw9))
            have HO9 : Hid (OwnS w9 w.heap.size 9 1 (.slice A9 ((ls k).length + 1) c9) (ls (k + 1)).length (nmVs (ls (k + 1)))) := Lib.hid (by
              rw [HST.out, List.length_append, nmVs_app, nmVs_one, HXN.out]
              exact ho9)
            have HB9 := Lib.hid (HBA.out.grown hg9 HBA.out.size (fun j hj => (HOA.out.lt j hj).1))
            clear ho9 hg9 hw9
            go_roundw
            case rel => exact ⟨k + 1, _, rfl, rfl, hlt, HO9.out, HB9.out⟩
            case measure => simp [intOf]; omega
        · have e1 : decide ((s.size : Int) ≤ (xn.size : Int)) = false := decide_eq_false (by omega)
          have e1' : decide (s.size ≤ xn.size) = false := decide_eq_false hsz
          have HST : Hid (ls (k + 1) = ls k) := Lib.hid (by rw [HS1.out, HPR.out, e1']; simp)
          clear hsz
          go_wp2
          go_roundw
          case rel => exact ⟨k + 1, _, rfl, rfl, hlt, by rw [HST.out]; exact HO.out, HB.out⟩
          case measure => simp [intOf]; omega
      · obtain rfl : k = S.now.length := by omega
        have d0 : decide ((S.now.length : Int) < (S.now.length : Int)) = false := decide_eq_false (by omega)
        have d0' : decide (S.now.length < S.now.length) = false := decide_eq_false (by omega)
        clear ho hb
        go_wp2
        rw [HPO.out, HE.out]
        exact ⟨HB.out, _, _, rfl, HO.out⟩

/-! ### Copy -/
theorem src_row {P : Program} {w : World} {B n z : Nat} {e : TypeId} {A : Option Addr} {c : Nat} {xs : List Value} (h : OwnS w B e z (.slice A n c) n xs) (h1 : ∀ u ∈ xs, u.oneCell' = true) : Src P w z (.slice A n c) n xs := by
  refine Src.vals h.1 h1 fun hl => ?_
  obtain ⟨g, off, c2, hv, _, _, hc⟩ := h.cells hl
  injection hv with hA _ _
  refine ⟨_, hA, fun j u hj => ?_⟩
  rw [Addr.add_lit, hc _ (List.getElem?_eq_some_iff.1 hj).1]
  exact hj
theorem row_none (w : World) (e : TypeId) (z : Nat) : OwnS (w.alloc (.cells #[] e)) 0 e z (.slice (some ⟨w.heap.size, 0, none⟩) 0 0) 0 [] :=
  ⟨by simp, .inr ⟨w.heap.size, 0, 0, #[], rfl, Nat.zero_le _, ⟨(0, 0), heap_alloc_new w _, by simp⟩, Nat.le_refl _, by decide, by simp, by simp⟩⟩
/-- A copy under way. -/
structure RCp (w : World) (S : Fs) (q : Rq) (W : World) : Prop where
  low : Below w.heap.size w W
  hg : q.p = w.heap.size
  cel : Cel W q.p 90 7 (rfF q S)
section
variable {w W w9 : World} {S : Fs} {q : Rq} {o : Obj} {j : Nat} {u : Value}
theorem RCp.keep (h : RCp w S q W) (hg : (W.alloc o).grownBy w9 (some W.heap.size)) : ∀ k, k < W.heap.size → k ≠ q.p → (w9.setCell ⟨q.p, j, none⟩ u).heap[k]? = W.heap[k]? := fun k hk hn =>
  (Below.heap_setCell _ _ _ _ hn).trans ((hg.block k (by simp; omega) (fun e => by injection e with e; omega)).trans (((Below.refl W.heap.size W).alloc (Nat.le_refl _) o).block k hk))
theorem RCp.gcel (h : RCp w S q W) (hg : (W.alloc o).grownBy w9 (some W.heap.size)) : Cel w9 q.p 90 7 (rfF q S) := (h.cel.alloc o).grown hg (fun e => by injection e with e; have := h.cel.blk; omega)
theorem RCp.row (h : RCp w S q W) (hg : (W.alloc o).grownBy w9 (some W.heap.size)) {b z n : Nat} {e : TypeId} {v : Value} {xs : List Value} (ho : OwnS W b e z v n xs) (he : e ≠ 90) : OwnS (w9.setCell ⟨q.p, j, none⟩ u) b e z v n xs :=
  ho.heap fun k hk => h.keep hg k (ho.lt k hk).2 (kd_ne (ho.kd hk) h.cel.kd (fun e2 => he (Nat.succ.inj e2)))
theorem RCp.new (h : RCp w S q W) (hg : (W.alloc o).grownBy w9 (some W.heap.size)) {b z n : Nat} {e : TypeId} {v : Value} {xs : List Value} (ho : OwnS w9 b e z v n xs) (hv : v.ownBlock = some W.heap.size ∨ v.ownBlock = some (W.alloc o).heap.size) : OwnS (w9.setCell ⟨q.p, j, none⟩ u) w.heap.size e z v n xs := by
  have hlo : ∀ k, v.ownBlock = some k → W.heap.size ≤ k := fun k hk => by
    rcases hv with h1 | h1
    · rw [hk] at h1; injection h1 with h1; omega
    · rw [hk] at h1; injection h1 with h1; simp at h1; omega
  have hs := h.low.size
  have hb := h.cel.blk
  have h1 : OwnS (w9.setCell ⟨q.p, j, none⟩ u) b e z v n xs := ho.heap fun k hk => Below.heap_setCell _ _ _ _ (fun e => by have := hlo k hk; have h2 : k = q.p := e; omega)
  refine ⟨h1.1, h1.2.imp id ?_⟩
  rintro ⟨g, off, cap, cur, rfl, _, r⟩
  exact ⟨g, off, cap, cur, rfl, by have := hlo g rfl; omega, r⟩
theorem RCp.step (h : RCp w S q W) (hg : (W.alloc o).grownBy w9 (some W.heap.size)) {q' : Rq} (hp : q'.p = q.p) (hf : ∀ i, i < 7 → (if i = j then u else rfF q S i) = rfF q' S i) : RCp w S q' (w9.setCell ⟨q.p, j, none⟩ u) := by
  have h1 : Below w.heap.size w (W.alloc o) := h.low.alloc h.low.size o
  have hs := h.low.size
  refine ⟨⟨hg.os.trans h1.os, hg.tape.trans h1.tape, hg.output.trans h1.output, by have := h1.size; have := hg.size; simp [World.setCell]; omega, fun k hk => ?_⟩, hp.trans h.hg, ?_⟩
  · exact (h.keep hg k (by omega) (by rw [h.hg]; omega)).trans (h.low.block k hk)
  · rw [hp]
    exact ((h.gcel hg).set j u).congr fun i hi => hf i hi
end
def RCopyPost (S : Fs) (w : World) (e : Ending) (w' : World) : Prop := ∃ q', e = .returned (ptrV q'.p) ∧ RfAt w' (fun k => w.heap.size ≤ k) q' S ∧ Below w.heap.size w w'
set_option maxRecDepth 100000 in
set_option maxHeartbeats 2000000 in
theorem rcopy_any (w : World) (F : Nat → Prop) (q : Rq) (S : Fs) (N : Nat) (h : RfAt w F q S) (hI : Inv N 16777216 S) (hN : N ≤ 1000000) :
    Calls Try.prog 29 #[ptrV q.p] w (RCopyPost S w) := by
  have H := Lib.hid h
  have c0 := h.c0
  have c1 := h.c1
  have c2 := h.c2
  have c3 := h.c3
  have c4 := h.c4
  have c5 := h.c5
  have c6 := h.c6
  obtain ⟨A1, n1, hv1⟩ := h.files.shape
  obtain ⟨A2, n2, hv2⟩ := h.now.shape
  obtain ⟨A3, n3, hv3⟩ := h.last.shape
  obtain ⟨A4, n4, hv4⟩ := h.wait.shape
  rw [hv1] at c1
  rw [hv2] at c2
  rw [hv3] at c3
  rw [hv4] at c4
  clear h
  unfold ptrV
  go_enter Try.func29, Try.ntmps29
  go_upto_region 2 with (fail)
  have HR : Hid (RCp w S ⟨w.heap.size, q.vf, q.vn, q.vl, q.vw⟩ (w.alloc (.cells #[.int .i64 S.quota, .slice A1 S.files.length n1, .slice A2 S.now.length n2, .slice A3 S.last.length n3, .slice A4 S.wait.length n4, .int .i64 S.fuse, .bool S.dead] 90))) := Lib.hid (by
    refine ⟨(Below.refl _ _).alloc (Nat.le_refl _) _, rfl, Cel.new w _ _ _ (fun i hi => ?_)⟩
    rcases rfI (by simpa using hi : i < 7) with rfl | rfl | rfl | rfl | rfl | rfl | rfl
    · rfl
    · show _ = some q.vf; rw [hv1]; rfl
    · show _ = some q.vn; rw [hv2]; rfl
    · show _ = some q.vl; rw [hv3]; rfl
    · show _ = some q.vw; rw [hv4]; rfl
    · rfl
    · rfl)
  generalize w.alloc (.cells #[.int .i64 S.quota, .slice A1 S.files.length n1, .slice A2 S.now.length n2, .slice A3 S.last.length n3, .slice A4 S.wait.length n4, .int .i64 S.fuse, .bool S.dead] 90) = W0 at *
  have HV1 := Lib.hid hv1
  have HV2 := Lib.hid hv2
  have HV3 := Lib.hid hv3
  have HV4 := Lib.hid hv4
  have HL : Hid (S.files.length ≤ 1000000 ∧ S.now.length ≤ 1000000 ∧ S.last.length ≤ 1000000 ∧ S.wait.length ≤ 1000000) := Lib.hid ⟨by have := hI.fl; omega, by have := hI.lenNow; omega, by have := hI.lenLast; omega, by have := hI.wt; omega⟩
  obtain ⟨iF, hiF, hzF0, hzF1, hzF2⟩ := info_parts info_fle
  obtain ⟨iN, hiN, hzN0, hzN1, hzN2⟩ := info_parts info_nmd
  obtain ⟨iC, hiC, hzC0, hzC1, hzC2⟩ := info_parts info_chg
  clear hv1 hv2 hv3 hv4 c0 c1 c2 c3 c4 c5 c6 hI hN
  have cc := (H.out.below (HR.out.low.alloc HR.out.low.size (.cells #[] 105))).c1
  rw [HV1.out] at cc
  have HG0 := Lib.hid (row_none W0 105 2)
  have HSR : Hid (Src Try.prog (W0.alloc (.cells #[] 105)) 2 (.slice A1 S.files.length n1) S.files.length (flsV S.files)) := Lib.hid (by have := ((H.out.below HR.out.low).files).alloc (.cells #[] 105); rw [HV1.out] at this; exact src_row this (flsV_one _))
  have hl := HL.out
  have hm1 : 0 + S.files.length ≤ maxLen := by unfold maxLen; omega
  have hb1 : (0 + S.files.length) * 24 ≤ 140737488355328 := by omega
  clear hl
  go_upto_region 3 with (at_builtin; go_loud (refine wpList_append_S rfl (.tmp 7) (.tmp 11) 86 86 rfl iF (.agg #[.string ⟨#[]⟩, .int .i64 0]) 24 (.slice 105) Try.underlying86 Try.underlying86 (fun _ h => by cases h) hiF hzF0 hzF1 hzF2 rfl rfl rfl HG0.out HSR.out hm1 hb1 (Nat.zero_le _) ?_; intro A9 c9 w9 ho9 hg9 hw9; simp only [Nat.zero_add, List.nil_append] at ho9 hw9 ⊢; have yy := (HR.out.gcel hg9).cell 1 (by decide); have ff := (HR.out.gcel hg9).frozen 1; change w9.cell? ⟨w.heap.size, 1, none⟩ = _ at yy; change w9.frozen? ⟨w.heap.size, 1, none⟩ = _ at ff))
  obtain ⟨u1, hu1⟩ : ∃ u, u = Value.slice A9 S.files.length c9 := ⟨_, rfl⟩
  rw [← hu1] at ho9 hw9
  have HRN : Hid (RCp w S ⟨w.heap.size, u1, q.vn, q.vl, q.vw⟩ (w9.setCell ⟨w.heap.size, 1, none⟩ u1)) := Lib.hid (HR.out.step (q' := ⟨w.heap.size, u1, q.vn, q.vl, q.vw⟩) hg9 rfl (fun i hi => by rcases rfI hi with rfl | rfl | rfl | rfl | rfl | rfl | rfl <;> rfl))
  have HO1 : Hid (OwnS (w9.setCell ⟨w.heap.size, 1, none⟩ u1) w.heap.size 105 2 u1 S.files.length (flsV S.files)) := Lib.hid (HR.out.new (j := 1) (u := u1) hg9 ho9 hw9)
  clear ho9 hw9 hg9 yy ff cc HG0 HSR hm1 hb1 HR
  have HR := HRN
  clear HRN
  rw [← hu1]
  have HU1 := Lib.hid hu1
  generalize w9.setCell ⟨w.heap.size, 1, none⟩ u1 = W1 at *
  clear hu1
  have cc := (H.out.below (HR.out.low.alloc HR.out.low.size (.cells #[] 96))).c2
  rw [HV2.out] at cc
  have HG0 := Lib.hid (row_none W1 96 2)
  have HSR : Hid (Src Try.prog (W1.alloc (.cells #[] 96)) 2 (.slice A2 S.now.length n2) S.now.length (nmsV S.now)) := Lib.hid (by have := ((H.out.below HR.out.low).now).alloc (.cells #[] 96); rw [HV2.out] at this; exact src_row this (nmsV_one _))
  have hl := HL.out
  have hm1 : 0 + S.now.length ≤ maxLen := by unfold maxLen; omega
  have hb1 : (0 + S.now.length) * 24 ≤ 140737488355328 := by omega
  clear hl
  go_upto_region 4 with (at_builtin; go_loud (refine wpList_append_S rfl (.tmp 14) (.tmp 18) 87 87 rfl iN (.agg #[.string ⟨#[]⟩, .int .i64 0]) 24 (.slice 96) Try.underlying87 Try.underlying87 (fun _ h => by cases h) hiN hzN0 hzN1 hzN2 rfl rfl rfl HG0.out HSR.out hm1 hb1 (Nat.zero_le _) ?_; intro A9 c9 w9 ho9 hg9 hw9; simp only [Nat.zero_add, List.nil_append] at ho9 hw9 ⊢; have yy := (HR.out.gcel hg9).cell 2 (by decide); have ff := (HR.out.gcel hg9).frozen 2; change w9.cell? ⟨w.heap.size, 2, none⟩ = _ at yy; change w9.frozen? ⟨w.heap.size, 2, none⟩ = _ at ff))
  obtain ⟨u2, hu2⟩ : ∃ u, u = Value.slice A9 S.now.length c9 := ⟨_, rfl⟩
  rw [← hu2] at ho9 hw9
  have HRN : Hid (RCp w S ⟨w.heap.size, u1, u2, q.vl, q.vw⟩ (w9.setCell ⟨w.heap.size, 2, none⟩ u2)) := Lib.hid (HR.out.step (q' := ⟨w.heap.size, u1, u2, q.vl, q.vw⟩) hg9 rfl (fun i hi => by rcases rfI hi with rfl | rfl | rfl | rfl | rfl | rfl | rfl <;> rfl))
  have HO2 : Hid (OwnS (w9.setCell ⟨w.heap.size, 2, none⟩ u2) w.heap.size 96 2 u2 S.now.length (nmsV S.now)) := Lib.hid (HR.out.new (j := 2) (u := u2) hg9 ho9 hw9)
  have HO1 : Hid (OwnS (w9.setCell ⟨w.heap.size, 2, none⟩ u2) w.heap.size 105 2 u1 S.files.length (flsV S.files)) := Lib.hid (HR.out.row (j := 2) (u := u2) hg9 HO1.out (by decide))
  clear ho9 hw9 hg9 yy ff cc HG0 HSR hm1 hb1 HR
  have HR := HRN
  clear HRN
  rw [← hu2]
  have HU2 := Lib.hid hu2
  generalize w9.setCell ⟨w.heap.size, 2, none⟩ u2 = W2 at *
  clear hu2
  have cc := (H.out.below (HR.out.low.alloc HR.out.low.size (.cells #[] 96))).c3
  rw [HV3.out] at cc
  have HG0 := Lib.hid (row_none W2 96 2)
  have HSR : Hid (Src Try.prog (W2.alloc (.cells #[] 96)) 2 (.slice A3 S.last.length n3) S.last.length (nmsV S.last)) := Lib.hid (by have := ((H.out.below HR.out.low).last).alloc (.cells #[] 96); rw [HV3.out] at this; exact src_row this (nmsV_one _))
  have hl := HL.out
  have hm1 : 0 + S.last.length ≤ maxLen := by unfold maxLen; omega
  have hb1 : (0 + S.last.length) * 24 ≤ 140737488355328 := by omega
  clear hl
  go_upto_region 5 with (at_builtin; go_loud (refine wpList_append_S rfl (.tmp 21) (.tmp 25) 87 87 rfl iN (.agg #[.string ⟨#[]⟩, .int .i64 0]) 24 (.slice 96) Try.underlying87 Try.underlying87 (fun _ h => by cases h) hiN hzN0 hzN1 hzN2 rfl rfl rfl HG0.out HSR.out hm1 hb1 (Nat.zero_le _) ?_; intro A9 c9 w9 ho9 hg9 hw9; simp only [Nat.zero_add, List.nil_append] at ho9 hw9 ⊢; have yy := (HR.out.gcel hg9).cell 3 (by decide); have ff := (HR.out.gcel hg9).frozen 3; change w9.cell? ⟨w.heap.size, 3, none⟩ = _ at yy; change w9.frozen? ⟨w.heap.size, 3, none⟩ = _ at ff))
  obtain ⟨u3, hu3⟩ : ∃ u, u = Value.slice A9 S.last.length c9 := ⟨_, rfl⟩
  rw [← hu3] at ho9 hw9
  have HRN : Hid (RCp w S ⟨w.heap.size, u1, u2, u3, q.vw⟩ (w9.setCell ⟨w.heap.size, 3, none⟩ u3)) := Lib.hid (HR.out.step (q' := ⟨w.heap.size, u1, u2, u3, q.vw⟩) hg9 rfl (fun i hi => by rcases rfI hi with rfl | rfl | rfl | rfl | rfl | rfl | rfl <;> rfl))
  have HO3 : Hid (OwnS (w9.setCell ⟨w.heap.size, 3, none⟩ u3) w.heap.size 96 2 u3 S.last.length (nmsV S.last)) := Lib.hid (HR.out.new (j := 3) (u := u3) hg9 ho9 hw9)
  have HO1 : Hid (OwnS (w9.setCell ⟨w.heap.size, 3, none⟩ u3) w.heap.size 105 2 u1 S.files.length (flsV S.files)) := Lib.hid (HR.out.row (j := 3) (u := u3) hg9 HO1.out (by decide))
  have HO2 : Hid (OwnS (w9.setCell ⟨w.heap.size, 3, none⟩ u3) w.heap.size 96 2 u2 S.now.length (nmsV S.now)) := Lib.hid (HR.out.row (j := 3) (u := u3) hg9 HO2.out (by decide))
  clear ho9 hw9 hg9 yy ff cc HG0 HSR hm1 hb1 HR
  have HR := HRN
  clear HRN
  rw [← hu3]
  have HU3 := Lib.hid hu3
  generalize w9.setCell ⟨w.heap.size, 3, none⟩ u3 = W3 at *
  clear hu3
  have cc := (H.out.below (HR.out.low.alloc HR.out.low.size (.cells #[] 108))).c4
  rw [HV4.out] at cc
  have HG0 := Lib.hid (row_none W3 108 3)
  have HSR : Hid (Src Try.prog (W3.alloc (.cells #[] 108)) 3 (.slice A4 S.wait.length n4) S.wait.length (cdsV S.wait)) := Lib.hid (by have := ((H.out.below HR.out.low).wait).alloc (.cells #[] 108); rw [HV4.out] at this; exact src_row this (cdsV_one _))
  have hl := HL.out
  have hm1 : 0 + S.wait.length ≤ maxLen := by unfold maxLen; omega
  have hb1 : (0 + S.wait.length) * 40 ≤ 140737488355328 := by omega
  clear hl
  go_upto_region 6 with (at_builtin; go_loud (refine wpList_append_S rfl (.tmp 28) (.tmp 32) 88 88 rfl iC (.agg #[.string ⟨#[]⟩, .string ⟨#[]⟩, .int .i64 0]) 40 (.slice 108) Try.underlying88 Try.underlying88 (fun _ h => by cases h) hiC hzC0 hzC1 hzC2 rfl rfl rfl HG0.out HSR.out hm1 hb1 (Nat.zero_le _) ?_; intro A9 c9 w9 ho9 hg9 hw9; simp only [Nat.zero_add, List.nil_append] at ho9 hw9 ⊢; have yy := (HR.out.gcel hg9).cell 4 (by decide); have ff := (HR.out.gcel hg9).frozen 4; change w9.cell? ⟨w.heap.size, 4, none⟩ = _ at yy; change w9.frozen? ⟨w.heap.size, 4, none⟩ = _ at ff))
  obtain ⟨u4, hu4⟩ : ∃ u, u = Value.slice A9 S.wait.length c9 := ⟨_, rfl⟩
  rw [← hu4] at ho9 hw9
  have HRN : Hid (RCp w S ⟨w.heap.size, u1, u2, u3, u4⟩ (w9.setCell ⟨w.heap.size, 4, none⟩ u4)) := Lib.hid (HR.out.step (q' := ⟨w.heap.size, u1, u2, u3, u4⟩) hg9 rfl (fun i hi => by rcases rfI hi with rfl | rfl | rfl | rfl | rfl | rfl | rfl <;> rfl))
  have HO4 : Hid (OwnS (w9.setCell ⟨w.heap.size, 4, none⟩ u4) w.heap.size 108 3 u4 S.wait.length (cdsV S.wait)) := Lib.hid (HR.out.new (j := 4) (u := u4) hg9 ho9 hw9)
  have HO1 : Hid (OwnS (w9.setCell ⟨w.heap.size, 4, none⟩ u4) w.heap.size 105 2 u1 S.files.length (flsV S.files)) := Lib.hid (HR.out.row (j := 4) (u := u4) hg9 HO1.out (by decide))
  have HO2 : Hid (OwnS (w9.setCell ⟨w.heap.size, 4, none⟩ u4) w.heap.size 96 2 u2 S.now.length (nmsV S.now)) := Lib.hid (HR.out.row (j := 4) (u := u4) hg9 HO2.out (by decide))
  have HO3 : Hid (OwnS (w9.setCell ⟨w.heap.size, 4, none⟩ u4) w.heap.size 96 2 u3 S.last.length (nmsV S.last)) := Lib.hid (HR.out.row (j := 4) (u := u4) hg9 HO3.out (by decide))
  clear ho9 hw9 hg9 yy ff cc HG0 HSR hm1 hb1 HR
  have HR := HRN
  clear HRN
  rw [← hu4]
  have HU4 := Lib.hid hu4
  generalize w9.setCell ⟨w.heap.size, 4, none⟩ u4 = W4 at *
  clear hu4
  go_wp2
  go_ret
  refine ⟨⟨w.heap.size, _, _, _, _⟩, rfl, ⟨HR.out.cel, HO1.out.base_ (Nat.zero_le _), HO2.out.base_ (Nat.zero_le _), HO3.out.base_ (Nat.zero_le _), HO4.out.base_ (Nat.zero_le _), ⟨Nat.le_refl _, fun k hk => (HO1.out.lt k hk).1, fun k hk => (HO2.out.lt k hk).1, fun k hk => (HO3.out.lt k hk).1, fun k hk => (HO4.out.lt k hk).1⟩⟩, HR.out.low⟩
end Go.Proofs.Ytmoaabjiokjjlaa
namespace Go.Proofs.Ytmoaabjiokjjlaa
open Go.RowKit Go.Maps
set_option linter.unusedVariables false
set_option linter.unusedSimpArgs false

section
variable {w w' : World} {F F' : Nat → Prop} {q : Rq} {S S' : Fs} {N M : Nat}
/-- Behind a crash: the names. -/
theorem RfAt.stCrash (h : RfAt w F q S) {v : Value} {l : Ns} (hb : Below w.heap.size w w') (ho : NmS w' 0 v l) (hv : ∀ k, v.ownBlock = some k → F k ∨ w.heap.size ≤ k) :
    RfAt (((((w'.setCell ⟨q.p, 2, none⟩ v).setCell ⟨q.p, 3, none⟩ v).setCell ⟨q.p, 4, none⟩ (.slice none 0 0)).setCell ⟨q.p, 5, none⟩ (.int .i64 (-1))).setCell ⟨q.p, 6, none⟩ (.bool false)) (fun k => F k ∨ w.heap.size ≤ k) { q with vn := v, vl := v, vw := .slice none 0 0 } { S with now := l, last := l, wait := [], fuse := -1, dead := false } := by
  obtain ⟨n1, n2, n3, n4⟩ := h.np
  have hc' : Cel w' q.p 90 7 (rfF q S) := h.cel.below hb h.cel.blk
  have hk : ∀ k, k ≠ q.p → (((((w'.setCell ⟨q.p, 2, none⟩ v).setCell ⟨q.p, 3, none⟩ v).setCell ⟨q.p, 4, none⟩ (.slice none 0 0)).setCell ⟨q.p, 5, none⟩ (.int .i64 (-1))).setCell ⟨q.p, 6, none⟩ (.bool false)).heap[k]? = w'.heap[k]? := fun k hk =>
    (Below.heap_setCell _ _ _ _ hk).trans ((Below.heap_setCell _ _ _ _ hk).trans ((Below.heap_setCell _ _ _ _ hk).trans ((Below.heap_setCell _ _ _ _ hk).trans (Below.heap_setCell _ _ _ _ hk))))
  have hr : NmS (((((w'.setCell ⟨q.p, 2, none⟩ v).setCell ⟨q.p, 3, none⟩ v).setCell ⟨q.p, 4, none⟩ (.slice none 0 0)).setCell ⟨q.p, 5, none⟩ (.int .i64 (-1))).setCell ⟨q.p, 6, none⟩ (.bool false)) 0 v l := ho.heap fun k e => hk k (kd_ne (ho.kd e) hc'.kd (by decide))
  refine ⟨(((((hc'.set 2 v).set 3 v).set 4 _).set 5 _).set 6 _).congr fun i hi => ?_, (h.files.keptB hb).heap fun k e => hk k (n1 k e), hr, hr, OwnS.nil _ _ _ _, ⟨.inl h.mem.p, fun k e => .inl (h.mem.vf k e), hv, hv, fun k e => by cases e⟩⟩
  rcases rfI hi with rfl | rfl | rfl | rfl | rfl | rfl | rfl <;> rfl
theorem Chg.crash (hb : Below w.heap.size w w') (p : Nat) (hp : F p) (v : Value) : Chg F w (((((w'.setCell ⟨p, 2, none⟩ v).setCell ⟨p, 3, none⟩ v).setCell ⟨p, 4, none⟩ (.slice none 0 0)).setCell ⟨p, 5, none⟩ (.int .i64 (-1))).setCell ⟨p, 6, none⟩ (.bool false)) :=
  ((((((Chg.of_below (S := F) hb).setCell (a := ⟨p, 2, none⟩) (.inl hp) _).setCell (a := ⟨p, 3, none⟩) (.inl hp) _).setCell (a := ⟨p, 4, none⟩) (.inl hp) _).setCell (a := ⟨p, 5, none⟩) (.inl hp) _).setCell (a := ⟨p, 6, none⟩) (.inl hp) _)
end
/-- A file's copy under way. -/
def flG (sx : ByteArray) (s : Int) (i : Nat) : Value := if i = 0 then .string sx else .int .i64 s
theorem flG_new (w : World) (a : ByteArray) (s : Int) : Cel (w.alloc (.cells #[.string a, .int .i64 s] 105)) w.heap.size 105 2 (flG a s) := Cel.new w _ _ _ (fun i hi => by
  have : i = 0 ∨ i = 1 := by simp at hi; omega
  rcases this with rfl | rfl <;> rfl)
theorem flG_set {w : World} {g : Nat} {a : ByteArray} {s : Int} (h : Cel w g 105 2 (flG a s)) (b : ByteArray) (t : Int) : Cel ((w.setCell ⟨g, 0, none⟩ (.string b)).setCell ⟨g, 1, none⟩ (.int .i64 t)) g 105 2 (flG b t) := ((h.set 0 _).set 1 _).congr (fun i hi => by
  have : i = 0 ∨ i = 1 := by omega
  rcases this with rfl | rfl <;> rfl)
def I13 (w0 : World) (sx : ByteArray) (s : Int) : List Value → World → Prop
  | [], W => W = w0.drew
  | [v], W => v = .pointer (some ⟨w0.heap.size, 0, none⟩) ∧ W = w0.drew.alloc (.cells #[.string ⟨#[]⟩, .int .i64 0] 105)
  | v :: _ :: _, W => v = .pointer (some ⟨w0.heap.size, 0, none⟩) ∧ Below w0.heap.size w0 W ∧ Cel W w0.heap.size 105 2 (flG sx s)
theorem I13.low {w0 : World} {sx : ByteArray} {s : Int} {vs : List Value} {W : World} (h : I13 w0 sx s vs W) : Below w0.heap.size w0 W := by
  rcases vs with _ | ⟨v, _ | ⟨u, vs⟩⟩
  · rw [show W = w0.drew from h]; exact (Below.refl _ _).drew
  · rw [h.2]; exact (Below.refl _ _).drew.alloc (Nat.le_refl _) _
  · exact h.2.1
/-- While a file is written whole. -/
def I19 (w0 : World) (b o : Nat) (s9 : ByteArray) (z : Int) : List Value → World → Prop
  | [], W => W = w0.drew
  | _ :: _, W => W = (w0.drew.setCell ⟨b, o, none⟩ (.string s9)).setCell ⟨b, o + 1, none⟩ (.int .i64 z)
theorem str_cut (l : List Int) (n : Nat) : (strOfNums l).extract 0 n = strOfNums (l.take n) := by
  apply ByteArray.ext
  rw [ByteArray.data_extract]
  unfold strOfNums
  simp [List.map_take]
def RCrPost (F : Nat → Prop) (p : Nat) (S' : Fs) (w : World) (e : Ending) (w' : World) : Prop := e = .returned (.tuple #[]) ∧ RfTo F p w S' w'
set_option maxRecDepth 100000 in
set_option maxHeartbeats 8000000 in
theorem rcrash_any (w : World) (F : Nat → Prop) (q : Rq) (S : Fs) (N : Nat) (h : RfAt w F q S) (hI : Inv N 16777216 S) (hD : Dv S) (hN : N ≤ 1000000) (k : Int)
    (A : Option Addr) (n c : Nat) (D : List Int) (hDa : Ints .i64 w A D) (hn : D.length = n) (hnb : n ≤ 9223372036854775807) (hA : 0 < D.length → ∀ b o, A = some ⟨b, o, none⟩ → ¬ F b) :
    Calls Try.prog 50 #[ptrV q.p, .int .i64 k, .slice A n c] w (RCrPost F q.p (crashF S k D) w) := by
  have HPO : Hid (∀ r e w', RCrPost F q.p r w e w' = (e = .returned (.tuple #[]) ∧ RfTo F q.p w r w')) := Lib.hid (fun _ _ _ => rfl)
  generalize RCrPost F q.p = POST at *
  have HH := Lib.hid h
  have hwl : S.wait.length ≤ 1000000 := Nat.le_trans hI.wt hN
  have HAP := Lib.hid (fun (W : World) (B i : Nat) (v : Value) (ch : Ch) (hc : S.wait[i]? = some ch) (hm : NmS W B v (repl S.last (S.wait.take i))) => (by
    have h1 := rapply_any W B v (repl S.last (S.wait.take i)) (chD ch) hm (repl_up hI.up _) (by have := hI.len i; omega)
    rw [applyD_is (repl_up hI.up _) (hD.wt ch (List.mem_of_getElem? hc)), ← repl_take_succ hc] at h1
    exact h1 : Calls Try.prog 61 #[v, cdA (chD ch)] W (PutPost (repl S.last (S.wait.take (i + 1))) W)))
  have HLZ := Lib.hid (fun m => Nat.le_trans (hI.len m) hN)
  have HIDS := Lib.hid (fun m => okW_ids (W := S.wait.take m) hI.up (okW_take m hI.ok) hI.ids)
  have HSY := Lib.hid (fun x hx => (⟨hI.syn x hx, hI.big x hx⟩ : x.s ≤ x.b.length ∧ x.b.length ≤ 16777216))
  have HFLN : Hid (S.files.length ≤ 1000000) := Lib.hid (by have := hI.fl; omega)
  have HCR : Hid (crashF S k D = { S with now := repl S.last (S.wait.take (min (max k 0) S.wait.length).toNat), last := repl S.last (S.wait.take (min (max k 0) S.wait.length).toNat), wait := [], dead := false, fuse := -1, files := cutsF D 0 (repl S.last (S.wait.take (min (max k 0) S.wait.length).toNat)) S.files }) := Lib.hid rfl
  have HDD := Lib.hid hDa
  have HNE := Lib.hid hA
  have HN := Lib.hid hn
  generalize crashF S k D = CR at *
  obtain ⟨A3, c3n, hv3⟩ := h.last.shape
  obtain ⟨A4, c4n, hv4⟩ := h.wait.shape
  have HV3 := Lib.hid hv3
  have HV4 := Lib.hid hv4
  have k3 := h.c3
  rw [hv3] at k3
  obtain ⟨m, hm⟩ : ∃ m, m = (min (max k 0) S.wait.length).toNat := ⟨_, rfl⟩
  rw [← hm] at HCR
  have hml : m ≤ S.wait.length := by omega
  have HM : Hid (m = (min (max k 0) S.wait.length).toNat) := Lib.hid hm
  clear h hI hD hN hDa hn hA hv3 hv4 hm
  unfold ptrV at *
  go_enter Try.func50, Try.ntmps50
  go_wp2
  go_loopw [7, 6] (fun v7 v6 wr => ∃ (i : Nat) (v : Value), v7 = .int .i64 (i : Int) ∧ v6 = v ∧ i ≤ m ∧ NmS wr 0 v (repl S.last (S.wait.take i)) ∧ (∀ k, v.ownBlock = some k → F k ∨ w.heap.size ≤ k) ∧ Below w.heap.size w wr) (fun v7 _ _ => S.wait.length - (intOf v7).toNat)
  case atStart =>
    refine ⟨0, _, rfl, rfl, Nat.zero_le _, ?_, fun k hk => .inl (HH.out.mem.vl k (by rw [HV3.out]; exact hk)), Below.refl _ _⟩
    have := HH.out.last
    rw [HV3.out] at this
    exact this
  case round =>
    obtain ⟨i, v, rfl, rfl, hi, ho, hfo, hb⟩ := hrel
    have HO := Lib.hid ho
    have HFO := Lib.hid hfo
    have HB := Lib.hid hb
    obtain ⟨A6, c6n, hv6⟩ := ho.shape
    have c4 := (HH.out.below hb).c4
    rw [HV4.out] at c4
    subst hv6
    by_cases hlt : i < m
    · obtain ⟨ch, hch⟩ : ∃ ch, S.wait[i]? = some ch := ⟨_, List.getElem?_eq_getElem (by omega)⟩
      have hrw := (HH.out.below hb).wait
      rw [HV4.out] at hrw
      obtain ⟨b, o, rfl, _, hbl, hc0, hc1, hc2⟩ := cdS_at hrw hch
      have hmk := HM.out
      have d0 : decide ((i : Int) < (S.wait.length : Int)) = true := decide_eq_true (by omega)
      have d0' : decide (i < S.wait.length) = true := decide_eq_true (by omega)
      have d1 : decide ((i : Int) < k) = true := decide_eq_true (by omega)
      have HCA := Lib.hid (HAP.out wr 0 i _ ch hch HO.out)
      unfold PutPost cdA at HCA
      have hiw : i < S.wait.length := by omega
      clear hch hrw hbl ho hfo hb hmk
      generalize chD ch = cd at *
      go_wp2_with (go_at_call 61; refine HCA.out.mono ?_; rintro e w2 ⟨v2, rfl, ho2, hb2⟩)
      have hs := HB.out.size
      have HO2 := Lib.hid (ho2.base_ (Nat.zero_le _))
      have HF2 : Hid (∀ k, v2.ownBlock = some k → F k ∨ w.heap.size ≤ k) := Lib.hid (fun k hk => .inr (by have := (ho2.lt k hk).1; omega))
      have HB2 := Lib.hid (HB.out.trans (hb2.mono hs))
      clear ho2 hb2
      go_roundw
      case rel => exact ⟨i + 1, v2, rfl, rfl, hlt, HO2.out, HF2.out, HB2.out⟩
      case measure => simp [intOf]; omega
    · obtain rfl : i = m := by omega
      have hend : (decide ((i : Int) < (S.wait.length : Int)) = false ∧ decide (i < S.wait.length) = false) ∨ ((decide ((i : Int) < (S.wait.length : Int)) = true ∧ decide (i < S.wait.length) = true) ∧ decide ((i : Int) < k) = false) := by
        have hmk := HM.out
        by_cases hw : i < S.wait.length
        · exact .inr ⟨⟨decide_eq_true (by omega), decide_eq_true hw⟩, decide_eq_false (by omega)⟩
        · exact .inl ⟨decide_eq_false (by omega), decide_eq_false hw⟩
      have HLEN := Lib.hid (HLZ.out i)
      have HIDL := Lib.hid (HIDS.out i)
      have HO1 := Lib.hid ho
      generalize hL : repl S.last (S.wait.take i) = L at *
      have hst := HH.out.stCrash HB.out HO.out HFO.out
      have hcg := Chg.crash HB.out q.p HH.out.mem.p (.slice A6 L.length c6n)
      have HST := Lib.hid hst
      have HCG := Lib.hid hcg
      have y2 := (HH.out.below HB.out).c2
      have y3 := (HH.out.below HB.out).c3
      have y5 := (HH.out.below HB.out).c5
      have y6 := (HH.out.below HB.out).c6
      have f2 := (HH.out.below HB.out).fz 2
      have f3 := (HH.out.below HB.out).fz 3
      have f4 := (HH.out.below HB.out).fz 4
      have f5 := (HH.out.below HB.out).fz 5
      have f6 := (HH.out.below HB.out).fz 6
      obtain ⟨A2, c2n, hv2⟩ := (HH.out.below HB.out).now.shape
      rw [hv2] at y2
      rw [HV3.out] at y3
      have HFST := Lib.hid HCR.out
      clear hst hcg hv2 ho hfo hb HAP HLZ HIDS HCR HM hL HO HO1
      rcases hend with ⟨d0, d0'⟩ | ⟨⟨d0, d0'⟩, d1⟩
      · go_upto_region 10 with (fail)
        generalize (((((wr.setCell ⟨q.p, 2, none⟩ (.slice A6 L.length c6n)).setCell ⟨q.p, 3, none⟩ (.slice A6 L.length c6n)).setCell ⟨q.p, 4, none⟩ (.slice none 0 0)).setCell ⟨q.p, 5, none⟩ (.int .i64 (-1))).setCell ⟨q.p, 6, none⟩ (.bool false)) = w5 at *
        clear y2 y3 y5 y6 f2 f3 f4 f5 f6 d0 d0' k3 c4 HB HFO hi hlt hwl hml
        generalize hq1 : ({ q with vn := .slice A6 L.length c6n, vl := .slice A6 L.length c6n, vw := .slice none 0 0 } : Rq) = q1 at *
        have HQV : Hid (q1.vn = .slice A6 L.length c6n ∧ q1.p = q.p) := Lib.hid (by rw [← hq1]; exact ⟨rfl, rfl⟩)
        obtain ⟨Sx, hSx⟩ : ∃ Sx : List Fl → Fs, Sx = fun Fi => { S with now := L, last := L, wait := [], fuse := -1, dead := false, files := Fi } := ⟨_, rfl⟩
        have HSX : Hid (∀ Fi, Sx Fi = { S with now := L, last := L, wait := [], fuse := -1, dead := false, files := Fi }) := Lib.hid (fun Fi => by rw [hSx])
        have HST1 : Hid (RfAt w5 (fun k => F k ∨ w.heap.size ≤ k) q1 (Sx S.files)) := Lib.hid (by rw [HSX.out]; exact HST.out)
        have HCRX : Hid (CR = Sx (cutsF D 0 L S.files)) := Lib.hid (by rw [HSX.out]; exact HFST.out)
        clear hq1 hSx HST HFST
        go_wp2
        go_loopw [8] (fun v8 wz => ∃ j : Nat, v8 = .int .i64 (j : Int) ∧ j ≤ L.length ∧ RfAt wz (fun k => F k ∨ w.heap.size ≤ k) q1 (Sx (cutsF D 0 (L.take j) S.files)) ∧ Chg F w wz) (fun v8 _ => L.length - (intOf v8).toNat)
        case atStart =>
          exact ⟨0, rfl, Nat.zero_le _, HST1.out, HCG.out⟩
        case round =>
          obtain ⟨j, rfl, hj, hA5, hC5⟩ := hrel
          have hLz : L.length ≤ 1000000 := HLEN.out
          by_cases hlt : j < L.length
          · obtain ⟨p, hp⟩ : ∃ p, L[j]? = some p := ⟨_, List.getElem?_eq_getElem hlt⟩
            have hpf : p.2 < S.files.length := HIDL.out p (List.mem_of_getElem? hp)
            have hfl : S.files.length ≤ 1000000 := HFLN.out
            have HCT : Hid (cutsF D 0 (L.take (j + 1)) S.files = (cutsF D 0 (L.take j) S.files).modify p.2 (cutF D j)) := Lib.hid (by
              rw [take_snoc hp, cutsF_snoc, List.length_take, Nat.min_eq_left (by omega), Nat.zero_add])
            have hFl : (cutsF D 0 (L.take j) S.files).length = S.files.length := cutsF_len D _ _ _
            have HOK := Lib.hid (cutsF_ok (M := 16777216) D (L.take j) 0 S.files HSY.out)
            generalize cutsF D 0 (L.take j) S.files = Fi at *
            obtain ⟨x, hx⟩ : ∃ x, Fi[p.2]? = some x := ⟨_, List.getElem?_eq_getElem (by rw [hFl]; exact hpf)⟩
            have hxo := HOK.out x (List.mem_of_getElem? hx)
            have hk1 := keepF_le D j x hxo.1
            have HKF : Hid (keepF D j x = match D[j]? with | none => 0 | some d => (min (max d 0) ((x.b.length : Int) - x.s)).toNat) := Lib.hid rfl
            have HCU : Hid (cutF D j x = ⟨x.b.take (x.s + keepF D j x), x.s + keepF D j x⟩) := Lib.hid rfl
            have hrn := hA5.now
            rw [HQV.out.1, show (Sx Fi).now = L from by rw [HSX.out]] at hrn
            have HP := Lib.hid hp
            obtain ⟨bn, on, hAn, _, hbn, hn0, hn1⟩ := nmS_at hrn hp
            obtain ⟨Af, cf, hvf⟩ := hA5.files.shape
            have hSf : (Sx Fi).files = Fi := by rw [HSX.out]
            have hrf := hA5.files
            rw [hvf] at hrf
            rw [hSf] at hrf hvf
            obtain ⟨bf, of, rfl, _, hbf, hf0, hf1⟩ := flS_at hrf hx
            rw [hFl] at hvf
            have HVF := Lib.hid hvf
            have HX := Lib.hid hx
            have HA5 := Lib.hid hA5
            have HC5 := Lib.hid hC5
            have HRF := Lib.hid hrf
            have HXO := Lib.hid hxo
            have HF0 := Lib.hid hf0
            have HF1 := Lib.hid hf1
            have HN1 := Lib.hid hn1
            have HSF := Lib.hid hSf
            have HFL2 := Lib.hid hFl
            have HLT : Hid (bn < wr.heap.size ∧ bf < wr.heap.size) := Lib.hid ⟨hbn, hbf⟩
            have HDI : Hid (Ints .i64 wr A D) := Lib.hid (HDD.out.chg0 hC5 (fun hl b o e => HNE.out hl b o e))
            have d2 : decide ((j : Int) < (L.length : Int)) = true := decide_eq_true (by omega)
            have d2' : decide (j < L.length) = true := decide_eq_true hlt
            clear hp hx hxo hrn hrf hvf hA5 hC5 hf0 hf1 hn0 hn1 hbn hbf hSf hFl
            subst hAn
            generalize p.2 = pf at *
            generalize hkp : keepF D j x = kp at *
            generalize hxl : x.b.length = xl at *
            generalize hxs : x.s = xs at *
            have HKP := Lib.hid hkp
            have HXL := Lib.hid hxl
            have HXS := Lib.hid hxs
            clear hkp hxl hxs
            have HSZX : Hid ((strOfNums x.b).size = xl) := Lib.hid (by rw [str_size]; exact HXL.out)
            have HEXT : Hid ((strOfNums x.b).extract 0 (xs + kp) = strOfNums (x.b.take (xs + kp))) := Lib.hid (str_cut _ _)
            generalize strOfNums x.b = sx at *
            go_upto_region 13 with (fail)
            refine wp_region_ph (by kernel_rfl) [11, 12] [.span 0 1, .span 0 1, .span 0 1, .span 0 1, .span 0 1, .span 0 1, .span 0 1, .span 0 1, .span 0 1, .span 0 1, .span 0 1, .phase 0, .phase 1] [fun z9 => z9 = .pointer (some ⟨q.p, 0, none⟩), fun z9 => z9 = .pointer (some ⟨q.p, 0, none⟩), fun z9 => z9 = .pointer (some ⟨q.p, 1, none⟩), fun z9 => z9 = .slice (some ⟨bf, of, none⟩) S.files.length cf, fun z9 => z9 = .slice (some ⟨bn, on, none⟩) L.length c6n, fun z9 => z9 = .int .i64 (j : Int), fun z9 => z9 = .pointer (some ⟨bn, on + j * 2, none⟩), fun z9 => z9 = .pointer (some ⟨bn, on + j * 2 + 1, none⟩), fun z9 => z9 = .int .i64 (pf : Int), fun z9 => z9 = .pointer (some ⟨bf, of + pf * 2, none⟩), fun z9 => z9 = .agg #[.string sx, .int .i64 (xs : Int)], fun _ => True, fun _ => True] (I13 wr sx (xs : Int)) (by kernel_rfl) (by kernel_rfl) (by kernel_rfl) (by kernel_rfl) (by kernel_rfl) (by kernel_rfl) rfl rfl ((show wr.drew = wr.drew from rfl)) ?steps ?done
            case steps =>
              refine ⟨?_, ?_, ?_, ?_, ?_, ?_, ?_, ?_, ?_, ?_, ?_, ?_, ?_, trivial⟩
              · intro us au w6 k0 hlo hhi ha hd hst hI
                have q0 := slot_far (t := 0) (v := .pointer (some ⟨q.p, 0, none⟩)) ha (by kernel_rfl) (by kernel_rfl)
                have p0 := slot_norm q0
                clear ha hd hst
                exact StepI.pure (v := .pointer (some ⟨q.p, 0, none⟩)) rfl rfl (by go_simp) ⟨rfl, hI⟩
              · intro us au w6 k1 hlo hhi ha hd hst hI
                have e0 := hd 0 _ (by kernel_rfl) rfl
                have q61 := slot_at (t := 61) 0 ha (by kernel_rfl) (by kernel_rfl) (by kernel_rfl) e0
                have p61 := slot_norm q61
                clear ha hd hst
                exact StepI.pure (v := .pointer (some ⟨q.p, 0, none⟩)) rfl rfl (by go_simp) ⟨rfl, hI⟩
              · intro us au w6 k2 hlo hhi ha hd hst hI
                have e1 := hd 1 _ (by kernel_rfl) rfl
                have q62 := slot_at (t := 62) 1 ha (by kernel_rfl) (by kernel_rfl) (by kernel_rfl) e1
                have p62 := slot_norm q62
                clear ha hd hst
                exact StepI.pure (v := .pointer (some ⟨q.p, 1, none⟩)) rfl rfl (by go_simp) ⟨rfl, hI⟩
              · intro us au w6 k3 hlo hhi ha hd hst hI
                have e2 := hd 2 _ (by kernel_rfl) rfl
                have q63 := slot_at (t := 63) 2 ha (by kernel_rfl) (by kernel_rfl) (by kernel_rfl) e2
                have p63 := slot_norm q63
                clear ha hd hst
                have kk : w6.cell? ⟨q.p, 1, none⟩ = some (.slice (some ⟨bf, of, none⟩) S.files.length cf) := by rw [← HVF.out, ← HQV.out.2]; exact (HA5.out.below (I13.low hI)).c1
                exact StepI.pure (v := .slice (some ⟨bf, of, none⟩) S.files.length cf) rfl rfl (by go_simp) ⟨rfl, hI⟩
              · intro us au w6 k4 hlo hhi ha hd hst hI
                have q6 := slot_far (t := 6) (v := .slice (some ⟨bn, on, none⟩) L.length c6n) ha (by kernel_rfl) (by kernel_rfl)
                have p6 := slot_norm q6
                clear ha hd hst
                exact StepI.pure (v := .slice (some ⟨bn, on, none⟩) L.length c6n) rfl rfl (by go_simp) ⟨rfl, hI⟩
              · intro us au w6 k5 hlo hhi ha hd hst hI
                have q8 := slot_far (t := 8) (v := .int .i64 (j : Int)) ha (by kernel_rfl) (by kernel_rfl)
                have p8 := slot_norm q8
                clear ha hd hst
                exact StepI.pure (v := .int .i64 (j : Int)) rfl rfl (by go_simp) ⟨rfl, hI⟩
              · intro us au w6 k6 hlo hhi ha hd hst hI
                have e4 := hd 4 _ (by kernel_rfl) rfl
                have e5 := hd 5 _ (by kernel_rfl) rfl
                have q65 := slot_at (t := 65) 4 ha (by kernel_rfl) (by kernel_rfl) (by kernel_rfl) e4
                have p65 := slot_norm q65
                have q66 := slot_at (t := 66) 5 ha (by kernel_rfl) (by kernel_rfl) (by kernel_rfl) e5
                have p66 := slot_norm q66
                clear ha hd hst
                have hjj := hlt
                exact StepI.pure (v := .pointer (some ⟨bn, on + j * 2, none⟩)) rfl rfl (by go_simp) ⟨rfl, hI⟩
              · intro us au w6 k7 hlo hhi ha hd hst hI
                have e6 := hd 6 _ (by kernel_rfl) rfl
                have q67 := slot_at (t := 67) 6 ha (by kernel_rfl) (by kernel_rfl) (by kernel_rfl) e6
                have p67 := slot_norm q67
                clear ha hd hst
                exact StepI.pure (v := .pointer (some ⟨bn, on + j * 2 + 1, none⟩)) rfl rfl (by go_simp) ⟨rfl, hI⟩
              · intro us au w6 k8 hlo hhi ha hd hst hI
                have e7 := hd 7 _ (by kernel_rfl) rfl
                have q68 := slot_at (t := 68) 7 ha (by kernel_rfl) (by kernel_rfl) (by kernel_rfl) e7
                have p68 := slot_norm q68
                clear ha hd hst
                have kk := ((I13.low hI).cell (p := ⟨bn, on + j * 2 + 1, none⟩) HLT.out.1).trans HN1.out
                exact StepI.pure (v := .int .i64 (pf : Int)) rfl rfl (by go_simp) ⟨rfl, hI⟩
              · intro us au w6 k9 hlo hhi ha hd hst hI
                have e3 := hd 3 _ (by kernel_rfl) rfl
                have e8 := hd 8 _ (by kernel_rfl) rfl
                have q64 := slot_at (t := 64) 3 ha (by kernel_rfl) (by kernel_rfl) (by kernel_rfl) e3
                have p64 := slot_norm q64
                have q69 := slot_at (t := 69) 8 ha (by kernel_rfl) (by kernel_rfl) (by kernel_rfl) e8
                have p69 := slot_norm q69
                clear ha hd hst
                have hpp := hpf
                exact StepI.pure (v := .pointer (some ⟨bf, of + pf * 2, none⟩)) rfl rfl (by go_simp) ⟨rfl, hI⟩
              · intro us au w6 k10 hlo hhi ha hd hst hI
                have e9 := hd 9 _ (by kernel_rfl) rfl
                have q70 := slot_at (t := 70) 9 ha (by kernel_rfl) (by kernel_rfl) (by kernel_rfl) e9
                have p70 := slot_norm q70
                clear ha hd hst
                have ka := ((I13.low hI).cell (p := ⟨bf, of + pf * 2, none⟩) HLT.out.2).trans HF0.out
                have kb := ((I13.low hI).cell (p := ⟨bf, of + pf * 2 + 1, none⟩) HLT.out.2).trans HF1.out
                exact StepI.pure (v := .agg #[.string sx, .int .i64 (xs : Int)]) rfl rfl (by go_simp) ⟨rfl, hI⟩
              · intro us au w6 ha hd hst hI
                clear ha hd hst
                obtain rfl : w6 = wr.drew := hI
                exact StepI.runs (v := .pointer (some ⟨wr.heap.size, 0, none⟩)) (w' := wr.drew.alloc (.cells #[.string ⟨#[]⟩, .int .i64 0] 105)) rfl rfl (by go_simp) ⟨trivial, rfl, rfl⟩
              · intro us au w6 ha hd hst hI
                obtain ⟨_⟩ := hd 11 _ (by kernel_rfl) rfl
                have e10 := hd 10 _ (by kernel_rfl) rfl
                have q9 := slot_at (t := 9) 11 ha (by kernel_rfl) (by kernel_rfl) (by kernel_rfl) (Eq.refl (us 11))
                have p9 := slot_norm q9
                have q71 := slot_at (t := 71) 10 ha (by kernel_rfl) (by kernel_rfl) (by kernel_rfl) e10
                have p71 := slot_norm q71
                clear ha hd hst
                obtain ⟨hu11, rfl⟩ : _ ∧ w6 = _ := hI
                rw [hu11] at p9
                have hcl := flG_new wr.drew ⟨#[]⟩ 0
                rw [show wr.drew.heap.size = wr.heap.size from rfl] at hcl
                have ka := hcl.cell 0 (by decide)
                have kb := hcl.cell 1 (by decide)
                have fa := hcl.frozen 0
                have fb := hcl.frozen 1
                exact StepI.stored (w' := ((wr.drew.alloc (.cells #[.string ⟨#[]⟩, .int .i64 0] 105)).setCell ⟨wr.heap.size, 0, none⟩ (.string sx)).setCell ⟨wr.heap.size, 1, none⟩ (.int .i64 (xs : Int))) rfl rfl (by go_simp) ⟨trivial, hu11, ((((Below.refl _ _).drew.alloc (Nat.le_refl _) _).setCell (Nat.le_refl _) _).setCell (Nat.le_refl _) _), flG_set hcl sx (xs : Int)⟩
            case done =>
              intro us w6 hI hd
              have hB6 := I13.low hI
              obtain ⟨hu11, _, hcl⟩ : _ ∧ _ ∧ _ := hI
              simp only [putAll]
              go_simp
              obtain ⟨gx, hgx⟩ : ∃ gx, gx = wr.heap.size := ⟨_, rfl⟩
              rw [← hgx] at hcl ⊢
              have HGX := Lib.hid hgx
              have HB6 := Lib.hid hB6
              have HCL := Lib.hid hcl
              clear hB6 hcl hu11 hd hgx
              have ca : w6.cell? ⟨gx, 0, none⟩ = some (.string sx) := HCL.out.cell 0 (by decide)
              have cb : w6.cell? ⟨gx, 1, none⟩ = some (.int .i64 (xs : Int)) := HCL.out.cell 1 (by decide)
              have hsz := HSZX.out
              go_upto_if 75 with (fail)
              go_cut [10] (fun v10 wz => v10 = .int .i64 kp ∧ ∃ nq, wz = w6.drewN nq)
              case first => as_aux_lemma =>
                by_cases hd : j < n
                · obtain ⟨d, hdi⟩ : ∃ d, D[j]? = some d := ⟨_, List.getElem?_eq_getElem (by rw [HN.out]; exact hd)⟩
                  obtain ⟨gd, od, rfl, hgd, hcd⟩ := HDI.out (by rw [HN.out]; omega)
                  have rd0 : wr.cell? ⟨gd, od + j, none⟩ = some (.int .i64 d) := by
                    rw [hcd j (by rw [HN.out]; exact hd), List.getD_eq_getElem?_getD, hdi]
                    rfl
                  have rd := (HB6.out.cell (p := ⟨gd, od + j, none⟩) hgd).trans rd0
                  have hkd : kp = (min (max d 0) ((xl : Int) - xs)).toNat := by
                    rw [HKF.out, hdi]
                  have hxx := HXO.out.1
                  have hx2 := HXO.out.2
                  have e1 : max d 0 = ((max d 0).toNat : Int) := by omega
                  generalize hdm : (max d 0).toNat = dm at *
                  have hsub : IntKind.i64.wrap ((xl : Int) - (xs : Int)) = ((xl - xs : Nat) : Int) := by rw [IntWalk.i64_in _ (by omega)]; omega
                  have hdf : ((xl - xs : Nat) : Int) = (xl : Int) - xs := by omega
                  generalize hdg : xl - xs = df at *
                  have e2 : min (dm : Int) (df : Int) = (kp : Int) := by omega
                  have e2' : min dm df = kp := by omega
                  have d3 : decide (j < n) = true := decide_eq_true hd
                  have d3' : decide ((j : Int) < (n : Int)) = true := decide_eq_true (by omega)
                  clear hkd hdm hdf hdg hcd hgd hdi hxx hx2 rd0
                  go_wp2_with fail
                  go_quiet (fail)
                  go_wp2_with fail
                  go_meet
                  exact ⟨rfl, _, rfl⟩
                · have hkd : kp = 0 := by
                    rw [HKF.out, List.getElem?_eq_none (by rw [HN.out]; omega)]
                  have d3 : decide (j < n) = false := decide_eq_false hd
                  have d3' : decide ((j : Int) < (n : Int)) = false := decide_eq_false (by omega)
                  subst hkd
                  go_wp2
                  go_meet
                  exact ⟨rfl, 0, rfl⟩
              case rest =>
                obtain ⟨rfl, nq, rfl⟩ := hcut
                have hzx : xs + kp ≤ xl := hk1
                have hz1 : ((xs + kp : Nat) : Int) = (xs : Int) + kp := by omega
                have hzb := HXO.out.2
                have hadd : IntKind.i64.wrap ((xs : Int) + (kp : Int)) = ((xs + kp : Nat) : Int) := by rw [IntWalk.i64_in _ (by omega)]; omega
                have hex1 := HEXT.out
                have hs9 : (sx.extract 0 (xs + kp)).size = xs + kp := by rw [ByteArray.size_extract]; omega
                generalize hzz : xs + kp = z at *
                have HZ := Lib.hid hzz
                have HEX2 := Lib.hid hex1
                clear hex1
                generalize hex : sx.extract 0 z = s9 at *
                have s1 : z ≤ sx.size := by omega
                have ca6 : (w6.drewN nq).cell? ⟨gx, 0, none⟩ = some (.string sx) := ca
                have cb6 : (w6.drewN nq).cell? ⟨gx, 1, none⟩ = some (.int .i64 (xs : Int)) := cb
                have fa6 : (w6.drewN nq).frozen? ⟨gx, 0, none⟩ = false := HCL.out.frozen 0
                have fb6 : (w6.drewN nq).frozen? ⟨gx, 1, none⟩ = false := HCL.out.frozen 1
                have HCL7 : Hid (Cel (((w6.drewN nq).setCell ⟨gx, 0, none⟩ (.string s9)).setCell ⟨gx, 1, none⟩ (.int .i64 (z : Int))) gx 105 2 (flG s9 (z : Int))) := Lib.hid (flG_set (HCL.out.same rfl) s9 (z : Int))
                have HB7 : Hid (Below wr.heap.size wr (((w6.drewN nq).setCell ⟨gx, 0, none⟩ (.string s9)).setCell ⟨gx, 1, none⟩ (.int .i64 (z : Int)))) := Lib.hid (((below_dN HB6.out nq).setCell (by rw [HGX.out]; exact Nat.le_refl _) _).setCell (by rw [HGX.out]; exact Nat.le_refl _) _)
                have HS9 := Lib.hid hs9
                clear hzz hk1 hz1 hzx
                go_upto_region 19 with (fail)
                generalize ((w6.drewN nq).setCell ⟨gx, 0, none⟩ (.string s9)).setCell ⟨gx, 1, none⟩ (.int .i64 (z : Int)) = w7 at *
                have HGB : Hid (wr.heap.size ≤ gx) := Lib.hid (by rw [HGX.out]; exact Nat.le_refl _)
                have HFR : Hid (w7.drew.frozen? ⟨bf, of + pf * 2, none⟩ = false ∧ w7.drew.frozen? ⟨bf, of + pf * 2 + 1, none⟩ = false) := Lib.hid (by
                  have hr7 := HRF.out.keptB HB7.out
                  have h2 : ∀ j, j < 2 → pf * 2 + j < (flsV Fi).length := fun j hj => by rw [flsV_len, HFL2.out]; omega
                  have e0 := (OwnS.free hr7 (h2 0 (by decide))).1
                  have e1 := (OwnS.free hr7 (h2 1 (by decide))).1
                  rw [← Nat.add_assoc] at e1
                  exact ⟨e0, e1⟩)
                clear ca cb ca6 cb6 fa6 fb6 hsz hadd hex hs9 s1 hzb
                refine wp_region_ph (by kernel_rfl) [11] [.span 0 0, .span 0 0, .span 0 0, .span 0 0, .span 0 0, .span 0 0, .span 0 0, .span 0 0, .span 0 0, .span 0 0, .span 0 0, .phase 0] [fun z9 => z9 = .pointer (some ⟨q.p, 0, none⟩), fun z9 => z9 = .pointer (some ⟨q.p, 0, none⟩), fun z9 => z9 = .pointer (some ⟨q.p, 1, none⟩), fun z9 => z9 = .slice (some ⟨bf, of, none⟩) S.files.length cf, fun z9 => z9 = .slice (some ⟨bn, on, none⟩) L.length c6n, fun z9 => z9 = .int .i64 (j : Int), fun z9 => z9 = .pointer (some ⟨bn, on + j * 2, none⟩), fun z9 => z9 = .pointer (some ⟨bn, on + j * 2 + 1, none⟩), fun z9 => z9 = .int .i64 (pf : Int), fun z9 => z9 = .agg #[.string s9, .int .i64 (z : Int)], fun z9 => z9 = .pointer (some ⟨bf, of + pf * 2, none⟩), fun _ => True] (I19 w7 bf (of + pf * 2) s9 (z : Int)) (by kernel_rfl) (by kernel_rfl) (by kernel_rfl) (by kernel_rfl) (by kernel_rfl) (by kernel_rfl) rfl rfl ((show w7.drew = w7.drew from rfl)) ?steps ?done
                case steps =>
                  refine ⟨?_, ?_, ?_, ?_, ?_, ?_, ?_, ?_, ?_, ?_, ?_, ?_, trivial⟩
                  · intro us au w8 k0 hlo hhi ha hd hst hI
                    obtain rfl : k0 = 0 := by omega
                    have q0 := slot_far (t := 0) (v := .pointer (some ⟨q.p, 0, none⟩)) ha (by kernel_rfl) (by kernel_rfl)
                    have p0 := slot_norm q0
                    clear ha hd hst
                    exact StepI.pure (v := .pointer (some ⟨q.p, 0, none⟩)) rfl rfl (by go_simp) ⟨rfl, hI⟩
                  · intro us au w8 k1 hlo hhi ha hd hst hI
                    obtain rfl : k1 = 0 := by omega
                    have e0 := hd 0 _ (by kernel_rfl) rfl
                    have q100 := slot_at (t := 100) 0 ha (by kernel_rfl) (by kernel_rfl) (by kernel_rfl) e0
                    have p100 := slot_norm q100
                    clear ha hd hst
                    exact StepI.pure (v := .pointer (some ⟨q.p, 0, none⟩)) rfl rfl (by go_simp) ⟨rfl, hI⟩
                  · intro us au w8 k2 hlo hhi ha hd hst hI
                    obtain rfl : k2 = 0 := by omega
                    have e1 := hd 1 _ (by kernel_rfl) rfl
                    have q101 := slot_at (t := 101) 1 ha (by kernel_rfl) (by kernel_rfl) (by kernel_rfl) e1
                    have p101 := slot_norm q101
                    clear ha hd hst
                    exact StepI.pure (v := .pointer (some ⟨q.p, 1, none⟩)) rfl rfl (by go_simp) ⟨rfl, hI⟩
                  · intro us au w8 k3 hlo hhi ha hd hst hI
                    obtain rfl : k3 = 0 := by omega
                    have e2 := hd 2 _ (by kernel_rfl) rfl
                    have q102 := slot_at (t := 102) 2 ha (by kernel_rfl) (by kernel_rfl) (by kernel_rfl) e2
                    have p102 := slot_norm q102
                    clear ha hd hst
                    have kk : w8.cell? ⟨q.p, 1, none⟩ = some (.slice (some ⟨bf, of, none⟩) S.files.length cf) := by obtain rfl : w8 = w7.drew := hI; rw [← HVF.out, ← HQV.out.2]; exact (HA5.out.below HB7.out).drew.c1
                    exact StepI.pure (v := .slice (some ⟨bf, of, none⟩) S.files.length cf) rfl rfl (by go_simp) ⟨rfl, hI⟩
                  · intro us au w8 k4 hlo hhi ha hd hst hI
                    obtain rfl : k4 = 0 := by omega
                    have q6 := slot_far (t := 6) (v := .slice (some ⟨bn, on, none⟩) L.length c6n) ha (by kernel_rfl) (by kernel_rfl)
                    have p6 := slot_norm q6
                    clear ha hd hst
                    exact StepI.pure (v := .slice (some ⟨bn, on, none⟩) L.length c6n) rfl rfl (by go_simp) ⟨rfl, hI⟩
                  · intro us au w8 k5 hlo hhi ha hd hst hI
                    obtain rfl : k5 = 0 := by omega
                    have q8 := slot_far (t := 8) (v := .int .i64 (j : Int)) ha (by kernel_rfl) (by kernel_rfl)
                    have p8 := slot_norm q8
                    clear ha hd hst
                    exact StepI.pure (v := .int .i64 (j : Int)) rfl rfl (by go_simp) ⟨rfl, hI⟩
                  · intro us au w8 k6 hlo hhi ha hd hst hI
                    obtain rfl : k6 = 0 := by omega
                    have e4 := hd 4 _ (by kernel_rfl) rfl
                    have e5 := hd 5 _ (by kernel_rfl) rfl
                    have q104 := slot_at (t := 104) 4 ha (by kernel_rfl) (by kernel_rfl) (by kernel_rfl) e4
                    have p104 := slot_norm q104
                    have q105 := slot_at (t := 105) 5 ha (by kernel_rfl) (by kernel_rfl) (by kernel_rfl) e5
                    have p105 := slot_norm q105
                    clear ha hd hst
                    have hjj := hlt
                    exact StepI.pure (v := .pointer (some ⟨bn, on + j * 2, none⟩)) rfl rfl (by go_simp) ⟨rfl, hI⟩
                  · intro us au w8 k7 hlo hhi ha hd hst hI
                    obtain rfl : k7 = 0 := by omega
                    have e6 := hd 6 _ (by kernel_rfl) rfl
                    have q106 := slot_at (t := 106) 6 ha (by kernel_rfl) (by kernel_rfl) (by kernel_rfl) e6
                    have p106 := slot_norm q106
                    clear ha hd hst
                    exact StepI.pure (v := .pointer (some ⟨bn, on + j * 2 + 1, none⟩)) rfl rfl (by go_simp) ⟨rfl, hI⟩
                  · intro us au w8 k8 hlo hhi ha hd hst hI
                    obtain rfl : k8 = 0 := by omega
                    have e7 := hd 7 _ (by kernel_rfl) rfl
                    have q107 := slot_at (t := 107) 7 ha (by kernel_rfl) (by kernel_rfl) (by kernel_rfl) e7
                    have p107 := slot_norm q107
                    clear ha hd hst
                    have kk : w8.cell? ⟨bn, on + j * 2 + 1, none⟩ = some (.int .i64 (pf : Int)) := by obtain rfl : w8 = w7.drew := hI; exact (HB7.out.cell (p := ⟨bn, on + j * 2 + 1, none⟩) HLT.out.1).trans HN1.out
                    exact StepI.pure (v := .int .i64 (pf : Int)) rfl rfl (by go_simp) ⟨rfl, hI⟩
                  · intro us au w8 k9 hlo hhi ha hd hst hI
                    obtain rfl : k9 = 0 := by omega
                    have q9 := slot_far (t := 9) (v := .pointer (some ⟨gx, 0, none⟩)) ha (by kernel_rfl) (by kernel_rfl)
                    have p9 := slot_norm q9
                    clear ha hd hst
                    have ka : w8.cell? ⟨gx, 0, none⟩ = some (.string s9) := by obtain rfl : w8 = w7.drew := hI; exact HCL7.out.cell 0 (by decide)
                    have kb : w8.cell? ⟨gx, 1, none⟩ = some (.int .i64 (z : Int)) := by obtain rfl : w8 = w7.drew := hI; exact HCL7.out.cell 1 (by decide)
                    exact StepI.pure (v := .agg #[.string s9, .int .i64 (z : Int)]) rfl rfl (by go_simp) ⟨rfl, hI⟩
                  · intro us au w8 k10 hlo hhi ha hd hst hI
                    obtain rfl : k10 = 0 := by omega
                    have e3 := hd 3 _ (by kernel_rfl) rfl
                    have e8 := hd 8 _ (by kernel_rfl) rfl
                    have q103 := slot_at (t := 103) 3 ha (by kernel_rfl) (by kernel_rfl) (by kernel_rfl) e3
                    have p103 := slot_norm q103
                    have q108 := slot_at (t := 108) 8 ha (by kernel_rfl) (by kernel_rfl) (by kernel_rfl) e8
                    have p108 := slot_norm q108
                    clear ha hd hst
                    have hpp := hpf
                    exact StepI.pure (v := .pointer (some ⟨bf, of + pf * 2, none⟩)) rfl rfl (by go_simp) ⟨rfl, hI⟩
                  · intro us au w8 ha hd hst hI
                    have e10 := hd 10 _ (by kernel_rfl) rfl
                    have e9 := hd 9 _ (by kernel_rfl) rfl
                    have q110 := slot_at (t := 110) 10 ha (by kernel_rfl) (by kernel_rfl) (by kernel_rfl) e10
                    have p110 := slot_norm q110
                    have q109 := slot_at (t := 109) 9 ha (by kernel_rfl) (by kernel_rfl) (by kernel_rfl) e9
                    have p109 := slot_norm q109
                    clear ha hd hst
                    obtain rfl : w8 = w7.drew := hI
                    have ka : w7.drew.cell? ⟨bf, of + pf * 2, none⟩ = some (.string sx) := (HB7.out.cell (p := ⟨bf, of + pf * 2, none⟩) HLT.out.2).trans HF0.out
                    have kb : w7.drew.cell? ⟨bf, of + pf * 2 + 1, none⟩ = some (.int .i64 (xs : Int)) := (HB7.out.cell (p := ⟨bf, of + pf * 2 + 1, none⟩) HLT.out.2).trans HF1.out
                    have fa := HFR.out.1
                    have fb := HFR.out.2
                    have kb2 : w7.cell? ⟨bf, of + pf * 2 + 1, none⟩ = some (.int .i64 (xs : Int)) := kb
                    have fb2 : w7.frozen? ⟨bf, of + pf * 2 + 1, none⟩ = false := fb
                    exact StepI.stored (w' := (w7.drew.setCell ⟨bf, of + pf * 2, none⟩ (.string s9)).setCell ⟨bf, of + pf * 2 + 1, none⟩ (.int .i64 (z : Int))) rfl rfl (by go_simp) ⟨trivial, rfl⟩
                case done =>
                  intro us w8 hI hd
                  obtain rfl : w8 = (w7.drew.setCell ⟨bf, of + pf * 2, none⟩ (.string s9)).setCell ⟨bf, of + pf * 2 + 1, none⟩ (.int .i64 (z : Int)) := hI
                  have hA7 := (HA5.out.below HB7.out).drew
                  have hx1 : (Sx Fi).files[pf]? = some x := by rw [HSF.out]; exact HX.out
                  have hv1 : q1.vf = .slice (some ⟨bf, of, none⟩) (Sx Fi).files.length cf := by rw [HSF.out, HFL2.out]; exact HVF.out
                  obtain ⟨hB1, hC1⟩ := hA7.stFile (f := fun y => { y with b := x.b.take z }) (j := 0) (u := .string s9) hv1 hx1 (by decide) (by rw [HEX2.out]; rfl)
                  obtain ⟨hB2, hC2⟩ := hB1.stFile (i := pf) (x := { x with b := x.b.take z }) (f := fun y => { y with s := z }) (j := 1) (u := .int .i64 (z : Int)) (c := cf) (b := bf) (o := of) (by show q1.vf = .slice _ ((Sx Fi).files.modify pf _).length cf; rw [List.length_modify]; exact hv1) (by show ((Sx Fi).files.modify pf _)[pf]? = _; rw [List.getElem?_modify, hx1]; simp) (by decide) rfl
                  have hfin : ({ { Sx Fi with files := (Sx Fi).files.modify pf (fun y => { y with b := x.b.take z }) } with files := ((Sx Fi).files.modify pf (fun y => { y with b := x.b.take z })).modify pf (fun y => { y with s := z }) } : Fs) = Sx (cutsF D 0 (L.take (j + 1)) S.files) := by
                    have e1 : ((Sx Fi).files.modify pf (fun y => { y with b := x.b.take z })).modify pf (fun y => { y with s := z }) = Fi.modify pf (cutF D j) := by
                      rw [HSF.out, modify_set _ Fi pf x HX.out, modify_set (cutF D j) Fi pf x HX.out, modify_set _ (Fi.set pf _) pf { x with b := x.b.take z } (by rw [List.getElem?_set_self (List.getElem?_eq_some_iff.1 HX.out).1]), List.set_set, HCU.out]
                      first | done | rfl | (rw [HXS.out]; done) | (rw [HXS.out]; rfl) | (rw [HXS.out, HKP.out, HZ.out]; first | done | rfl)
                    rw [HCT.out, ← e1, HSX.out, HSX.out]
                  have hC7 : Chg F w w7 := (HC5.out).trans (Chg.of_below (S := F) HB7.out) (fun _ _ h => h)
                  have hCC : Chg F w ((w7.drew.setCell ⟨bf, of + pf * 2, none⟩ (.string s9)).setCell ⟨bf, of + pf * 2 + 1, none⟩ (.int .i64 (z : Int))) := (hC7.drew.trans hC1 (fun k hk h => h.elim id (fun h => by omega))).trans hC2 (fun k hk h => h.elim id (fun h => by omega))
                  have HRA : Hid (RfAt ((w7.drew.setCell ⟨bf, of + pf * 2, none⟩ (.string s9)).setCell ⟨bf, of + pf * 2 + 1, none⟩ (.int .i64 (z : Int))) (fun k => F k ∨ w.heap.size ≤ k) q1 (Sx (cutsF D 0 (L.take (j + 1)) S.files))) := Lib.hid (by rw [← hfin]; exact hB2)
                  have HRC := Lib.hid hCC
                  clear hA7 hx1 hv1 hB1 hC1 hB2 hC2 hfin hC7 hCC
                  simp only [putAll]
                  go_simp
                  go_wp2
                  go_roundw
                  case rel => exact ⟨j + 1, rfl, hlt, HRA.out, HRC.out⟩
                  case measure => simp [intOf]; omega
          · obtain rfl : j = L.length := by omega
            have d2 : decide ((L.length : Int) < (L.length : Int)) = false := decide_eq_false (by omega)
            have d2' : decide (L.length < L.length) = false := decide_eq_false (by omega)
            have HA5 := Lib.hid hA5
            have HC5 := Lib.hid hC5
            clear hA5 hC5
            go_wp2
            refine ⟨rfl, _, results_none rfl _ _ _, ?_⟩
            rw [HPO.out, HCRX.out]
            refine ⟨rfl, q1, ?_, HQV.out.2, HC5.out⟩
            have := HA5.out
            rw [List.take_length] at this
            exact this
      · go_upto_region 10 with (fail)
        generalize (((((wr.setCell ⟨q.p, 2, none⟩ (.slice A6 L.length c6n)).setCell ⟨q.p, 3, none⟩ (.slice A6 L.length c6n)).setCell ⟨q.p, 4, none⟩ (.slice none 0 0)).setCell ⟨q.p, 5, none⟩ (.int .i64 (-1))).setCell ⟨q.p, 6, none⟩ (.bool false)) = w5 at *
        clear y2 y3 y5 y6 f2 f3 f4 f5 f6 d0 d0' k3 c4 HB HFO hi hlt hwl hml
        generalize hq1 : ({ q with vn := .slice A6 L.length c6n, vl := .slice A6 L.length c6n, vw := .slice none 0 0 } : Rq) = q1 at *
        have HQV : Hid (q1.vn = .slice A6 L.length c6n ∧ q1.p = q.p) := Lib.hid (by rw [← hq1]; exact ⟨rfl, rfl⟩)
        obtain ⟨Sx, hSx⟩ : ∃ Sx : List Fl → Fs, Sx = fun Fi => { S with now := L, last := L, wait := [], fuse := -1, dead := false, files := Fi } := ⟨_, rfl⟩
        have HSX : Hid (∀ Fi, Sx Fi = { S with now := L, last := L, wait := [], fuse := -1, dead := false, files := Fi }) := Lib.hid (fun Fi => by rw [hSx])
        have HST1 : Hid (RfAt w5 (fun k => F k ∨ w.heap.size ≤ k) q1 (Sx S.files)) := Lib.hid (by rw [HSX.out]; exact HST.out)
        have HCRX : Hid (CR = Sx (cutsF D 0 L S.files)) := Lib.hid (by rw [HSX.out]; exact HFST.out)
        clear hq1 hSx HST HFST
        go_wp2
        go_loopw [8] (fun v8 wz => ∃ j : Nat, v8 = .int .i64 (j : Int) ∧ j ≤ L.length ∧ RfAt wz (fun k => F k ∨ w.heap.size ≤ k) q1 (Sx (cutsF D 0 (L.take j) S.files)) ∧ Chg F w wz) (fun v8 _ => L.length - (intOf v8).toNat)
        case atStart =>
          exact ⟨0, rfl, Nat.zero_le _, HST1.out, HCG.out⟩
        case round =>
          obtain ⟨j, rfl, hj, hA5, hC5⟩ := hrel
          have hLz : L.length ≤ 1000000 := HLEN.out
          by_cases hlt : j < L.length
          · obtain ⟨p, hp⟩ : ∃ p, L[j]? = some p := ⟨_, List.getElem?_eq_getElem hlt⟩
            have hpf : p.2 < S.files.length := HIDL.out p (List.mem_of_getElem? hp)
            have hfl : S.files.length ≤ 1000000 := HFLN.out
            have HCT : Hid (cutsF D 0 (L.take (j + 1)) S.files = (cutsF D 0 (L.take j) S.files).modify p.2 (cutF D j)) := Lib.hid (by
              rw [take_snoc hp, cutsF_snoc, List.length_take, Nat.min_eq_left (by omega), Nat.zero_add])
            have hFl : (cutsF D 0 (L.take j) S.files).length = S.files.length := cutsF_len D _ _ _
            have HOK := Lib.hid (cutsF_ok (M := 16777216) D (L.take j) 0 S.files HSY.out)
            generalize cutsF D 0 (L.take j) S.files = Fi at *
            obtain ⟨x, hx⟩ : ∃ x, Fi[p.2]? = some x := ⟨_, List.getElem?_eq_getElem (by rw [hFl]; exact hpf)⟩
            have hxo := HOK.out x (List.mem_of_getElem? hx)
            have hk1 := keepF_le D j x hxo.1
            have HKF : Hid (keepF D j x = match D[j]? with | none => 0 | some d => (min (max d 0) ((x.b.length : Int) - x.s)).toNat) := Lib.hid rfl
            have HCU : Hid (cutF D j x = ⟨x.b.take (x.s + keepF D j x), x.s + keepF D j x⟩) := Lib.hid rfl
            have hrn := hA5.now
            rw [HQV.out.1, show (Sx Fi).now = L from by rw [HSX.out]] at hrn
            have HP := Lib.hid hp
            obtain ⟨bn, on, hAn, _, hbn, hn0, hn1⟩ := nmS_at hrn hp
            obtain ⟨Af, cf, hvf⟩ := hA5.files.shape
            have hSf : (Sx Fi).files = Fi := by rw [HSX.out]
            have hrf := hA5.files
            rw [hvf] at hrf
            rw [hSf] at hrf hvf
            obtain ⟨bf, of, rfl, _, hbf, hf0, hf1⟩ := flS_at hrf hx
            rw [hFl] at hvf
            have HVF := Lib.hid hvf
            have HX := Lib.hid hx
            have HA5 := Lib.hid hA5
            have HC5 := Lib.hid hC5
            have HRF := Lib.hid hrf
            have HXO := Lib.hid hxo
            have HF0 := Lib.hid hf0
            have HF1 := Lib.hid hf1
            have HN1 := Lib.hid hn1
            have HSF := Lib.hid hSf
            have HFL2 := Lib.hid hFl
            have HLT : Hid (bn < wr.heap.size ∧ bf < wr.heap.size) := Lib.hid ⟨hbn, hbf⟩
            have HDI : Hid (Ints .i64 wr A D) := Lib.hid (HDD.out.chg0 hC5 (fun hl b o e => HNE.out hl b o e))
            have d2 : decide ((j : Int) < (L.length : Int)) = true := decide_eq_true (by omega)
            have d2' : decide (j < L.length) = true := decide_eq_true hlt
            clear hp hx hxo hrn hrf hvf hA5 hC5 hf0 hf1 hn0 hn1 hbn hbf hSf hFl
            subst hAn
            generalize p.2 = pf at *
            generalize hkp : keepF D j x = kp at *
            generalize hxl : x.b.length = xl at *
            generalize hxs : x.s = xs at *
            have HKP := Lib.hid hkp
            have HXL := Lib.hid hxl
            have HXS := Lib.hid hxs
            clear hkp hxl hxs
            have HSZX : Hid ((strOfNums x.b).size = xl) := Lib.hid (by rw [str_size]; exact HXL.out)
            have HEXT : Hid ((strOfNums x.b).extract 0 (xs + kp) = strOfNums (x.b.take (xs + kp))) := Lib.hid (str_cut _ _)
            generalize strOfNums x.b = sx at *
            go_upto_region 13 with (fail)
            refine wp_region_ph (by kernel_rfl) [11, 12] [.span 0 1, .span 0 1, .span 0 1, .span 0 1, .span 0 1, .span 0 1, .span 0 1, .span 0 1, .span 0 1, .span 0 1, .span 0 1, .phase 0, .phase 1] [fun z9 => z9 = .pointer (some ⟨q.p, 0, none⟩), fun z9 => z9 = .pointer (some ⟨q.p, 0, none⟩), fun z9 => z9 = .pointer (some ⟨q.p, 1, none⟩), fun z9 => z9 = .slice (some ⟨bf, of, none⟩) S.files.length cf, fun z9 => z9 = .slice (some ⟨bn, on, none⟩) L.length c6n, fun z9 => z9 = .int .i64 (j : Int), fun z9 => z9 = .pointer (some ⟨bn, on + j * 2, none⟩), fun z9 => z9 = .pointer (some ⟨bn, on + j * 2 + 1, none⟩), fun z9 => z9 = .int .i64 (pf : Int), fun z9 => z9 = .pointer (some ⟨bf, of + pf * 2, none⟩), fun z9 => z9 = .agg #[.string sx, .int .i64 (xs : Int)], fun _ => True, fun _ => True] (I13 wr sx (xs : Int)) (by kernel_rfl) (by kernel_rfl) (by kernel_rfl) (by kernel_rfl) (by kernel_rfl) (by kernel_rfl) rfl rfl ((show wr.drew = wr.drew from rfl)) ?steps ?done
            case steps =>
              refine ⟨?_, ?_, ?_, ?_, ?_, ?_, ?_, ?_, ?_, ?_, ?_, ?_, ?_, trivial⟩
              · intro us au w6 k0 hlo hhi ha hd hst hI
                have q0 := slot_far (t := 0) (v := .pointer (some ⟨q.p, 0, none⟩)) ha (by kernel_rfl) (by kernel_rfl)
                have p0 := slot_norm q0
                clear ha hd hst
                exact StepI.pure (v := .pointer (some ⟨q.p, 0, none⟩)) rfl rfl (by go_simp) ⟨rfl, hI⟩
              · intro us au w6 k1 hlo hhi ha hd hst hI
                have e0 := hd 0 _ (by kernel_rfl) rfl
                have q61 := slot_at (t := 61) 0 ha (by kernel_rfl) (by kernel_rfl) (by kernel_rfl) e0
                have p61 := slot_norm q61
                clear ha hd hst
                exact StepI.pure (v := .pointer (some ⟨q.p, 0, none⟩)) rfl rfl (by go_simp) ⟨rfl, hI⟩
              · intro us au w6 k2 hlo hhi ha hd hst hI
                have e1 := hd 1 _ (by kernel_rfl) rfl
                have q62 := slot_at (t := 62) 1 ha (by kernel_rfl) (by kernel_rfl) (by kernel_rfl) e1
                have p62 := slot_norm q62
                clear ha hd hst
                exact StepI.pure (v := .pointer (some ⟨q.p, 1, none⟩)) rfl rfl (by go_simp) ⟨rfl, hI⟩
              · intro us au w6 k3 hlo hhi ha hd hst hI
                have e2 := hd 2 _ (by kernel_rfl) rfl
                have q63 := slot_at (t := 63) 2 ha (by kernel_rfl) (by kernel_rfl) (by kernel_rfl) e2
                have p63 := slot_norm q63
                clear ha hd hst
                have kk : w6.cell? ⟨q.p, 1, none⟩ = some (.slice (some ⟨bf, of, none⟩) S.files.length cf) := by rw [← HVF.out, ← HQV.out.2]; exact (HA5.out.below (I13.low hI)).c1
                exact StepI.pure (v := .slice (some ⟨bf, of, none⟩) S.files.length cf) rfl rfl (by go_simp) ⟨rfl, hI⟩
              · intro us au w6 k4 hlo hhi ha hd hst hI
                have q6 := slot_far (t := 6) (v := .slice (some ⟨bn, on, none⟩) L.length c6n) ha (by kernel_rfl) (by kernel_rfl)
                have p6 := slot_norm q6
                clear ha hd hst
                exact StepI.pure (v := .slice (some ⟨bn, on, none⟩) L.length c6n) rfl rfl (by go_simp) ⟨rfl, hI⟩
              · intro us au w6 k5 hlo hhi ha hd hst hI
                have q8 := slot_far (t := 8) (v := .int .i64 (j : Int)) ha (by kernel_rfl) (by kernel_rfl)
                have p8 := slot_norm q8
                clear ha hd hst
                exact StepI.pure (v := .int .i64 (j : Int)) rfl rfl (by go_simp) ⟨rfl, hI⟩
              · intro us au w6 k6 hlo hhi ha hd hst hI
                have e4 := hd 4 _ (by kernel_rfl) rfl
                have e5 := hd 5 _ (by kernel_rfl) rfl
                have q65 := slot_at (t := 65) 4 ha (by kernel_rfl) (by kernel_rfl) (by kernel_rfl) e4
                have p65 := slot_norm q65
                have q66 := slot_at (t := 66) 5 ha (by kernel_rfl) (by kernel_rfl) (by kernel_rfl) e5
                have p66 := slot_norm q66
                clear ha hd hst
                have hjj := hlt
                exact StepI.pure (v := .pointer (some ⟨bn, on + j * 2, none⟩)) rfl rfl (by go_simp) ⟨rfl, hI⟩
              · intro us au w6 k7 hlo hhi ha hd hst hI
                have e6 := hd 6 _ (by kernel_rfl) rfl
                have q67 := slot_at (t := 67) 6 ha (by kernel_rfl) (by kernel_rfl) (by kernel_rfl) e6
                have p67 := slot_norm q67
                clear ha hd hst
                exact StepI.pure (v := .pointer (some ⟨bn, on + j * 2 + 1, none⟩)) rfl rfl (by go_simp) ⟨rfl, hI⟩
              · intro us au w6 k8 hlo hhi ha hd hst hI
                have e7 := hd 7 _ (by kernel_rfl) rfl
                have q68 := slot_at (t := 68) 7 ha (by kernel_rfl) (by kernel_rfl) (by kernel_rfl) e7
                have p68 := slot_norm q68
                clear ha hd hst
                have kk := ((I13.low hI).cell (p := ⟨bn, on + j * 2 + 1, none⟩) HLT.out.1).trans HN1.out
                exact StepI.pure (v := .int .i64 (pf : Int)) rfl rfl (by go_simp) ⟨rfl, hI⟩
              · intro us au w6 k9 hlo hhi ha hd hst hI
                have e3 := hd 3 _ (by kernel_rfl) rfl
                have e8 := hd 8 _ (by kernel_rfl) rfl
                have q64 := slot_at (t := 64) 3 ha (by kernel_rfl) (by kernel_rfl) (by kernel_rfl) e3
                have p64 := slot_norm q64
                have q69 := slot_at (t := 69) 8 ha (by kernel_rfl) (by kernel_rfl) (by kernel_rfl) e8
                have p69 := slot_norm q69
                clear ha hd hst
                have hpp := hpf
                exact StepI.pure (v := .pointer (some ⟨bf, of + pf * 2, none⟩)) rfl rfl (by go_simp) ⟨rfl, hI⟩
              · intro us au w6 k10 hlo hhi ha hd hst hI
                have e9 := hd 9 _ (by kernel_rfl) rfl
                have q70 := slot_at (t := 70) 9 ha (by kernel_rfl) (by kernel_rfl) (by kernel_rfl) e9
                have p70 := slot_norm q70
                clear ha hd hst
                have ka := ((I13.low hI).cell (p := ⟨bf, of + pf * 2, none⟩) HLT.out.2).trans HF0.out
                have kb := ((I13.low hI).cell (p := ⟨bf, of + pf * 2 + 1, none⟩) HLT.out.2).trans HF1.out
                exact StepI.pure (v := .agg #[.string sx, .int .i64 (xs : Int)]) rfl rfl (by go_simp) ⟨rfl, hI⟩
              · intro us au w6 ha hd hst hI
                clear ha hd hst
                obtain rfl : w6 = wr.drew := hI
                exact StepI.runs (v := .pointer (some ⟨wr.heap.size, 0, none⟩)) (w' := wr.drew.alloc (.cells #[.string ⟨#[]⟩, .int .i64 0] 105)) rfl rfl (by go_simp) ⟨trivial, rfl, rfl⟩
              · intro us au w6 ha hd hst hI
                obtain ⟨_⟩ := hd 11 _ (by kernel_rfl) rfl
                have e10 := hd 10 _ (by kernel_rfl) rfl
                have q9 := slot_at (t := 9) 11 ha (by kernel_rfl) (by kernel_rfl) (by kernel_rfl) (Eq.refl (us 11))
                have p9 := slot_norm q9
                have q71 := slot_at (t := 71) 10 ha (by kernel_rfl) (by kernel_rfl) (by kernel_rfl) e10
                have p71 := slot_norm q71
                clear ha hd hst
                obtain ⟨hu11, rfl⟩ : _ ∧ w6 = _ := hI
                rw [hu11] at p9
                have hcl := flG_new wr.drew ⟨#[]⟩ 0
                rw [show wr.drew.heap.size = wr.heap.size from rfl] at hcl
                have ka := hcl.cell 0 (by decide)
                have kb := hcl.cell 1 (by decide)
                have fa := hcl.frozen 0
                have fb := hcl.frozen 1
                exact StepI.stored (w' := ((wr.drew.alloc (.cells #[.string ⟨#[]⟩, .int .i64 0] 105)).setCell ⟨wr.heap.size, 0, none⟩ (.string sx)).setCell ⟨wr.heap.size, 1, none⟩ (.int .i64 (xs : Int))) rfl rfl (by go_simp) ⟨trivial, hu11, ((((Below.refl _ _).drew.alloc (Nat.le_refl _) _).setCell (Nat.le_refl _) _).setCell (Nat.le_refl _) _), flG_set hcl sx (xs : Int)⟩
            case done =>
              intro us w6 hI hd
              have hB6 := I13.low hI
              obtain ⟨hu11, _, hcl⟩ : _ ∧ _ ∧ _ := hI
              simp only [putAll]
              go_simp
              obtain ⟨gx, hgx⟩ : ∃ gx, gx = wr.heap.size := ⟨_, rfl⟩
              rw [← hgx] at hcl ⊢
              have HGX := Lib.hid hgx
              have HB6 := Lib.hid hB6
              have HCL := Lib.hid hcl
              clear hB6 hcl hu11 hd hgx
              have ca : w6.cell? ⟨gx, 0, none⟩ = some (.string sx) := HCL.out.cell 0 (by decide)
              have cb : w6.cell? ⟨gx, 1, none⟩ = some (.int .i64 (xs : Int)) := HCL.out.cell 1 (by decide)
              have hsz := HSZX.out
              go_upto_if 75 with (fail)
              go_cut [10] (fun v10 wz => v10 = .int .i64 kp ∧ ∃ nq, wz = w6.drewN nq)
              case first => as_aux_lemma =>
                by_cases hd : j < n
                · obtain ⟨d, hdi⟩ : ∃ d, D[j]? = some d := ⟨_, List.getElem?_eq_getElem (by rw [HN.out]; exact hd)⟩
                  obtain ⟨gd, od, rfl, hgd, hcd⟩ := HDI.out (by rw [HN.out]; omega)
                  have rd0 : wr.cell? ⟨gd, od + j, none⟩ = some (.int .i64 d) := by
                    rw [hcd j (by rw [HN.out]; exact hd), List.getD_eq_getElem?_getD, hdi]
                    rfl
                  have rd := (HB6.out.cell (p := ⟨gd, od + j, none⟩) hgd).trans rd0
                  have hkd : kp = (min (max d 0) ((xl : Int) - xs)).toNat := by
                    rw [HKF.out, hdi]
                  have hxx := HXO.out.1
                  have hx2 := HXO.out.2
                  have e1 : max d 0 = ((max d 0).toNat : Int) := by omega
                  generalize hdm : (max d 0).toNat = dm at *
                  have hsub : IntKind.i64.wrap ((xl : Int) - (xs : Int)) = ((xl - xs : Nat) : Int) := by rw [IntWalk.i64_in _ (by omega)]; omega
                  have hdf : ((xl - xs : Nat) : Int) = (xl : Int) - xs := by omega
                  generalize hdg : xl - xs = df at *
                  have e2 : min (dm : Int) (df : Int) = (kp : Int) := by omega
                  have e2' : min dm df = kp := by omega
                  have d3 : decide (j < n) = true := decide_eq_true hd
                  have d3' : decide ((j : Int) < (n : Int)) = true := decide_eq_true (by omega)
                  clear hkd hdm hdf hdg hcd hgd hdi hxx hx2 rd0
                  go_wp2_with fail
                  go_quiet (fail)
                  go_wp2_with fail
                  go_meet
                  exact ⟨rfl, _, rfl⟩
                · have hkd : kp = 0 := by
                    rw [HKF.out, List.getElem?_eq_none (by rw [HN.out]; omega)]
                  have d3 : decide (j < n) = false := decide_eq_false hd
                  have d3' : decide ((j : Int) < (n : Int)) = false := decide_eq_false (by omega)
                  subst hkd
                  go_wp2
                  go_meet
                  exact ⟨rfl, 0, rfl⟩
              case rest =>
                obtain ⟨rfl, nq, rfl⟩ := hcut
                have hzx : xs + kp ≤ xl := hk1
                have hz1 : ((xs + kp : Nat) : Int) = (xs : Int) + kp := by omega
                have hzb := HXO.out.2
                have hadd : IntKind.i64.wrap ((xs : Int) + (kp : Int)) = ((xs + kp : Nat) : Int) := by rw [IntWalk.i64_in _ (by omega)]; omega
                have hex1 := HEXT.out
                have hs9 : (sx.extract 0 (xs + kp)).size = xs + kp := by rw [ByteArray.size_extract]; omega
                generalize hzz : xs + kp = z at *
                have HZ := Lib.hid hzz
                have HEX2 := Lib.hid hex1
                clear hex1
                generalize hex : sx.extract 0 z = s9 at *
                have s1 : z ≤ sx.size := by omega
                have ca6 : (w6.drewN nq).cell? ⟨gx, 0, none⟩ = some (.string sx) := ca
                have cb6 : (w6.drewN nq).cell? ⟨gx, 1, none⟩ = some (.int .i64 (xs : Int)) := cb
                have fa6 : (w6.drewN nq).frozen? ⟨gx, 0, none⟩ = false := HCL.out.frozen 0
                have fb6 : (w6.drewN nq).frozen? ⟨gx, 1, none⟩ = false := HCL.out.frozen 1
                have HCL7 : Hid (Cel (((w6.drewN nq).setCell ⟨gx, 0, none⟩ (.string s9)).setCell ⟨gx, 1, none⟩ (.int .i64 (z : Int))) gx 105 2 (flG s9 (z : Int))) := Lib.hid (flG_set (HCL.out.same rfl) s9 (z : Int))
                have HB7 : Hid (Below wr.heap.size wr (((w6.drewN nq).setCell ⟨gx, 0, none⟩ (.string s9)).setCell ⟨gx, 1, none⟩ (.int .i64 (z : Int)))) := Lib.hid (((below_dN HB6.out nq).setCell (by rw [HGX.out]; exact Nat.le_refl _) _).setCell (by rw [HGX.out]; exact Nat.le_refl _) _)
                have HS9 := Lib.hid hs9
                clear hzz hk1 hz1 hzx
                go_upto_region 19 with (fail)
                generalize ((w6.drewN nq).setCell ⟨gx, 0, none⟩ (.string s9)).setCell ⟨gx, 1, none⟩ (.int .i64 (z : Int)) = w7 at *
                have HGB : Hid (wr.heap.size ≤ gx) := Lib.hid (by rw [HGX.out]; exact Nat.le_refl _)
                have HFR : Hid (w7.drew.frozen? ⟨bf, of + pf * 2, none⟩ = false ∧ w7.drew.frozen? ⟨bf, of + pf * 2 + 1, none⟩ = false) := Lib.hid (by
                  have hr7 := HRF.out.keptB HB7.out
                  have h2 : ∀ j, j < 2 → pf * 2 + j < (flsV Fi).length := fun j hj => by rw [flsV_len, HFL2.out]; omega
                  have e0 := (OwnS.free hr7 (h2 0 (by decide))).1
                  have e1 := (OwnS.free hr7 (h2 1 (by decide))).1
                  rw [← Nat.add_assoc] at e1
                  exact ⟨e0, e1⟩)
                clear ca cb ca6 cb6 fa6 fb6 hsz hadd hex hs9 s1 hzb
                refine wp_region_ph (by kernel_rfl) [11] [.span 0 0, .span 0 0, .span 0 0, .span 0 0, .span 0 0, .span 0 0, .span 0 0, .span 0 0, .span 0 0, .span 0 0, .span 0 0, .phase 0] [fun z9 => z9 = .pointer (some ⟨q.p, 0, none⟩), fun z9 => z9 = .pointer (some ⟨q.p, 0, none⟩), fun z9 => z9 = .pointer (some ⟨q.p, 1, none⟩), fun z9 => z9 = .slice (some ⟨bf, of, none⟩) S.files.length cf, fun z9 => z9 = .slice (some ⟨bn, on, none⟩) L.length c6n, fun z9 => z9 = .int .i64 (j : Int), fun z9 => z9 = .pointer (some ⟨bn, on + j * 2, none⟩), fun z9 => z9 = .pointer (some ⟨bn, on + j * 2 + 1, none⟩), fun z9 => z9 = .int .i64 (pf : Int), fun z9 => z9 = .agg #[.string s9, .int .i64 (z : Int)], fun z9 => z9 = .pointer (some ⟨bf, of + pf * 2, none⟩), fun _ => True] (I19 w7 bf (of + pf * 2) s9 (z : Int)) (by kernel_rfl) (by kernel_rfl) (by kernel_rfl) (by kernel_rfl) (by kernel_rfl) (by kernel_rfl) rfl rfl ((show w7.drew = w7.drew from rfl)) ?steps ?done
                case steps =>
                  refine ⟨?_, ?_, ?_, ?_, ?_, ?_, ?_, ?_, ?_, ?_, ?_, ?_, trivial⟩
                  · intro us au w8 k0 hlo hhi ha hd hst hI
                    obtain rfl : k0 = 0 := by omega
                    have q0 := slot_far (t := 0) (v := .pointer (some ⟨q.p, 0, none⟩)) ha (by kernel_rfl) (by kernel_rfl)
                    have p0 := slot_norm q0
                    clear ha hd hst
                    exact StepI.pure (v := .pointer (some ⟨q.p, 0, none⟩)) rfl rfl (by go_simp) ⟨rfl, hI⟩
                  · intro us au w8 k1 hlo hhi ha hd hst hI
                    obtain rfl : k1 = 0 := by omega
                    have e0 := hd 0 _ (by kernel_rfl) rfl
                    have q100 := slot_at (t := 100) 0 ha (by kernel_rfl) (by kernel_rfl) (by kernel_rfl) e0
                    have p100 := slot_norm q100
                    clear ha hd hst
                    exact StepI.pure (v := .pointer (some ⟨q.p, 0, none⟩)) rfl rfl (by go_simp) ⟨rfl, hI⟩
                  · intro us au w8 k2 hlo hhi ha hd hst hI
                    obtain rfl : k2 = 0 := by omega
                    have e1 := hd 1 _ (by kernel_rfl) rfl
                    have q101 := slot_at (t := 101) 1 ha (by kernel_rfl) (by kernel_rfl) (by kernel_rfl) e1
                    have p101 := slot_norm q101
                    clear ha hd hst
                    exact StepI.pure (v := .pointer (some ⟨q.p, 1, none⟩)) rfl rfl (by go_simp) ⟨rfl, hI⟩
                  · intro us au w8 k3 hlo hhi ha hd hst hI
                    obtain rfl : k3 = 0 := by omega
                    have e2 := hd 2 _ (by kernel_rfl) rfl
                    have q102 := slot_at (t := 102) 2 ha (by kernel_rfl) (by kernel_rfl) (by kernel_rfl) e2
                    have p102 := slot_norm q102
                    clear ha hd hst
                    have kk : w8.cell? ⟨q.p, 1, none⟩ = some (.slice (some ⟨bf, of, none⟩) S.files.length cf) := by obtain rfl : w8 = w7.drew := hI; rw [← HVF.out, ← HQV.out.2]; exact (HA5.out.below HB7.out).drew.c1
                    exact StepI.pure (v := .slice (some ⟨bf, of, none⟩) S.files.length cf) rfl rfl (by go_simp) ⟨rfl, hI⟩
                  · intro us au w8 k4 hlo hhi ha hd hst hI
                    obtain rfl : k4 = 0 := by omega
                    have q6 := slot_far (t := 6) (v := .slice (some ⟨bn, on, none⟩) L.length c6n) ha (by kernel_rfl) (by kernel_rfl)
                    have p6 := slot_norm q6
                    clear ha hd hst
                    exact StepI.pure (v := .slice (some ⟨bn, on, none⟩) L.length c6n) rfl rfl (by go_simp) ⟨rfl, hI⟩
                  · intro us au w8 k5 hlo hhi ha hd hst hI
                    obtain rfl : k5 = 0 := by omega
                    have q8 := slot_far (t := 8) (v := .int .i64 (j : Int)) ha (by kernel_rfl) (by kernel_rfl)
                    have p8 := slot_norm q8
                    clear ha hd hst
                    exact StepI.pure (v := .int .i64 (j : Int)) rfl rfl (by go_simp) ⟨rfl, hI⟩
                  · intro us au w8 k6 hlo hhi ha hd hst hI
                    obtain rfl : k6 = 0 := by omega
                    have e4 := hd 4 _ (by kernel_rfl) rfl
                    have e5 := hd 5 _ (by kernel_rfl) rfl
                    have q104 := slot_at (t := 104) 4 ha (by kernel_rfl) (by kernel_rfl) (by kernel_rfl) e4
                    have p104 := slot_norm q104
                    have q105 := slot_at (t := 105) 5 ha (by kernel_rfl) (by kernel_rfl) (by kernel_rfl) e5
                    have p105 := slot_norm q105
                    clear ha hd hst
                    have hjj := hlt
                    exact StepI.pure (v := .pointer (some ⟨bn, on + j * 2, none⟩)) rfl rfl (by go_simp) ⟨rfl, hI⟩
                  · intro us au w8 k7 hlo hhi ha hd hst hI
                    obtain rfl : k7 = 0 := by omega
                    have e6 := hd 6 _ (by kernel_rfl) rfl
                    have q106 := slot_at (t := 106) 6 ha (by kernel_rfl) (by kernel_rfl) (by kernel_rfl) e6
                    have p106 := slot_norm q106
                    clear ha hd hst
                    exact StepI.pure (v := .pointer (some ⟨bn, on + j * 2 + 1, none⟩)) rfl rfl (by go_simp) ⟨rfl, hI⟩
                  · intro us au w8 k8 hlo hhi ha hd hst hI
                    obtain rfl : k8 = 0 := by omega
                    have e7 := hd 7 _ (by kernel_rfl) rfl
                    have q107 := slot_at (t := 107) 7 ha (by kernel_rfl) (by kernel_rfl) (by kernel_rfl) e7
                    have p107 := slot_norm q107
                    clear ha hd hst
                    have kk : w8.cell? ⟨bn, on + j * 2 + 1, none⟩ = some (.int .i64 (pf : Int)) := by obtain rfl : w8 = w7.drew := hI; exact (HB7.out.cell (p := ⟨bn, on + j * 2 + 1, none⟩) HLT.out.1).trans HN1.out
                    exact StepI.pure (v := .int .i64 (pf : Int)) rfl rfl (by go_simp) ⟨rfl, hI⟩
                  · intro us au w8 k9 hlo hhi ha hd hst hI
                    obtain rfl : k9 = 0 := by omega
                    have q9 := slot_far (t := 9) (v := .pointer (some ⟨gx, 0, none⟩)) ha (by kernel_rfl) (by kernel_rfl)
                    have p9 := slot_norm q9
                    clear ha hd hst
                    have ka : w8.cell? ⟨gx, 0, none⟩ = some (.string s9) := by obtain rfl : w8 = w7.drew := hI; exact HCL7.out.cell 0 (by decide)
                    have kb : w8.cell? ⟨gx, 1, none⟩ = some (.int .i64 (z : Int)) := by obtain rfl : w8 = w7.drew := hI; exact HCL7.out.cell 1 (by decide)
                    exact StepI.pure (v := .agg #[.string s9, .int .i64 (z : Int)]) rfl rfl (by go_simp) ⟨rfl, hI⟩
                  · intro us au w8 k10 hlo hhi ha hd hst hI
                    obtain rfl : k10 = 0 := by omega
                    have e3 := hd 3 _ (by kernel_rfl) rfl
                    have e8 := hd 8 _ (by kernel_rfl) rfl
                    have q103 := slot_at (t := 103) 3 ha (by kernel_rfl) (by kernel_rfl) (by kernel_rfl) e3
                    have p103 := slot_norm q103
                    have q108 := slot_at (t := 108) 8 ha (by kernel_rfl) (by kernel_rfl) (by kernel_rfl) e8
                    have p108 := slot_norm q108
                    clear ha hd hst
                    have hpp := hpf
                    exact StepI.pure (v := .pointer (some ⟨bf, of + pf * 2, none⟩)) rfl rfl (by go_simp) ⟨rfl, hI⟩
                  · intro us au w8 ha hd hst hI
                    have e10 := hd 10 _ (by kernel_rfl) rfl
                    have e9 := hd 9 _ (by kernel_rfl) rfl
                    have q110 := slot_at (t := 110) 10 ha (by kernel_rfl) (by kernel_rfl) (by kernel_rfl) e10
                    have p110 := slot_norm q110
                    have q109 := slot_at (t := 109) 9 ha (by kernel_rfl) (by kernel_rfl) (by kernel_rfl) e9
                    have p109 := slot_norm q109
                    clear ha hd hst
                    obtain rfl : w8 = w7.drew := hI
                    have ka : w7.drew.cell? ⟨bf, of + pf * 2, none⟩ = some (.string sx) := (HB7.out.cell (p := ⟨bf, of + pf * 2, none⟩) HLT.out.2).trans HF0.out
                    have kb : w7.drew.cell? ⟨bf, of + pf * 2 + 1, none⟩ = some (.int .i64 (xs : Int)) := (HB7.out.cell (p := ⟨bf, of + pf * 2 + 1, none⟩) HLT.out.2).trans HF1.out
                    have fa := HFR.out.1
                    have fb := HFR.out.2
                    have kb2 : w7.cell? ⟨bf, of + pf * 2 + 1, none⟩ = some (.int .i64 (xs : Int)) := kb
                    have fb2 : w7.frozen? ⟨bf, of + pf * 2 + 1, none⟩ = false := fb
                    exact StepI.stored (w' := (w7.drew.setCell ⟨bf, of + pf * 2, none⟩ (.string s9)).setCell ⟨bf, of + pf * 2 + 1, none⟩ (.int .i64 (z : Int))) rfl rfl (by go_simp) ⟨trivial, rfl⟩
                case done =>
                  intro us w8 hI hd
                  obtain rfl : w8 = (w7.drew.setCell ⟨bf, of + pf * 2, none⟩ (.string s9)).setCell ⟨bf, of + pf * 2 + 1, none⟩ (.int .i64 (z : Int)) := hI
                  have hA7 := (HA5.out.below HB7.out).drew
                  have hx1 : (Sx Fi).files[pf]? = some x := by rw [HSF.out]; exact HX.out
                  have hv1 : q1.vf = .slice (some ⟨bf, of, none⟩) (Sx Fi).files.length cf := by rw [HSF.out, HFL2.out]; exact HVF.out
                  obtain ⟨hB1, hC1⟩ := hA7.stFile (f := fun y => { y with b := x.b.take z }) (j := 0) (u := .string s9) hv1 hx1 (by decide) (by rw [HEX2.out]; rfl)
                  obtain ⟨hB2, hC2⟩ := hB1.stFile (i := pf) (x := { x with b := x.b.take z }) (f := fun y => { y with s := z }) (j := 1) (u := .int .i64 (z : Int)) (c := cf) (b := bf) (o := of) (by show q1.vf = .slice _ ((Sx Fi).files.modify pf _).length cf; rw [List.length_modify]; exact hv1) (by show ((Sx Fi).files.modify pf _)[pf]? = _; rw [List.getElem?_modify, hx1]; simp) (by decide) rfl
                  have hfin : ({ { Sx Fi with files := (Sx Fi).files.modify pf (fun y => { y with b := x.b.take z }) } with files := ((Sx Fi).files.modify pf (fun y => { y with b := x.b.take z })).modify pf (fun y => { y with s := z }) } : Fs) = Sx (cutsF D 0 (L.take (j + 1)) S.files) := by
                    have e1 : ((Sx Fi).files.modify pf (fun y => { y with b := x.b.take z })).modify pf (fun y => { y with s := z }) = Fi.modify pf (cutF D j) := by
                      rw [HSF.out, modify_set _ Fi pf x HX.out, modify_set (cutF D j) Fi pf x HX.out, modify_set _ (Fi.set pf _) pf { x with b := x.b.take z } (by rw [List.getElem?_set_self (List.getElem?_eq_some_iff.1 HX.out).1]), List.set_set, HCU.out]
                      first | done | rfl | (rw [HXS.out]; done) | (rw [HXS.out]; rfl) | (rw [HXS.out, HKP.out, HZ.out]; first | done | rfl)
                    rw [HCT.out, ← e1, HSX.out, HSX.out]
                  have hC7 : Chg F w w7 := (HC5.out).trans (Chg.of_below (S := F) HB7.out) (fun _ _ h => h)
                  have hCC : Chg F w ((w7.drew.setCell ⟨bf, of + pf * 2, none⟩ (.string s9)).setCell ⟨bf, of + pf * 2 + 1, none⟩ (.int .i64 (z : Int))) := (hC7.drew.trans hC1 (fun k hk h => h.elim id (fun h => by omega))).trans hC2 (fun k hk h => h.elim id (fun h => by omega))
                  have HRA : Hid (RfAt ((w7.drew.setCell ⟨bf, of + pf * 2, none⟩ (.string s9)).setCell ⟨bf, of + pf * 2 + 1, none⟩ (.int .i64 (z : Int))) (fun k => F k ∨ w.heap.size ≤ k) q1 (Sx (cutsF D 0 (L.take (j + 1)) S.files))) := Lib.hid (by rw [← hfin]; exact hB2)
                  have HRC := Lib.hid hCC
                  clear hA7 hx1 hv1 hB1 hC1 hB2 hC2 hfin hC7 hCC
                  simp only [putAll]
                  go_simp
                  go_wp2
                  go_roundw
                  case rel => exact ⟨j + 1, rfl, hlt, HRA.out, HRC.out⟩
                  case measure => simp [intOf]; omega
          · obtain rfl : j = L.length := by omega
            have d2 : decide ((L.length : Int) < (L.length : Int)) = false := decide_eq_false (by omega)
            have d2' : decide (L.length < L.length) = false := decide_eq_false (by omega)
            have HA5 := Lib.hid hA5
            have HC5 := Lib.hid hC5
            clear hA5 hC5
            go_wp2
            refine ⟨rfl, _, results_none rfl _ _ _, ?_⟩
            rw [HPO.out, HCRX.out]
            refine ⟨rfl, q1, ?_, HQV.out.2, HC5.out⟩
            have := HA5.out
            rw [List.take_length] at this
            exact this
end Go.Proofs.Ytmoaabjiokjjlaa
