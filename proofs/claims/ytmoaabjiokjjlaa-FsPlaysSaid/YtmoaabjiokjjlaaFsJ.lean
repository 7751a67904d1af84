/- Remove, Rename, Create. -/
import Derived.Test.YtmoaabjiokjjlaaFsI
namespace Go.Proofs.Ytmoaabjiokjjlaa
open Go.RowKit Go.Maps
set_option linter.unusedVariables false
set_option linter.unusedSimpArgs false

def ToPost (F : Nat → Prop) (p : Nat) (r : Int × Fs) (w : World) (e : Ending) (w' : World) : Prop :=
  e = .returned (.int .i64 r.1) ∧ FsTo F p w r.2 w'
theorem FsTo.pre {w w1 w' : World} {F : Nat → Prop} {p : Nat} {S : Fs} (hb : Below w.heap.size w w1) (h : FsTo F p w1 S w') : FsTo F p w S w' := by
  obtain ⟨q', hA, hp, hC⟩ := h
  exact ⟨q', hA.mono fun k hk => hk.elim .inl (fun hk => .inr (Nat.le_trans hb.size hk)), hp, (Chg.of_below (S := F) hb).trans hC (fun _ _ h => h)⟩
theorem okN_len {s : Nm} (h : okN s = true) : 1 ≤ s.length ∧ s.length ≤ 200 := by
  unfold okN at h
  simp only [Bool.and_eq_true, decide_eq_true_eq] at h
  exact ⟨h.1, h.2.1⟩
theorem named_zero {S : Fs} {l : List Nm} (h : namedF S l = 0) : ∀ s ∈ l, okN s = true := by
  unfold namedF at h
  split at h
  · exact absurd h (by decide)
  · split at h
    · rename_i ha
      exact List.all_eq_true.1 ha
    · exact absurd h (by decide)
theorem of_named {S : Fs} {n : Nm} (h : ofF S n = 0) : okN n = true := by
  unfold ofF at h
  split at h
  · rename_i hn
    exact absurd h hn
  · rename_i hn
    exact named_zero (S := S) (by simpa using hn) n (by simp)
set_option maxRecDepth 100000 in
set_option maxHeartbeats 2000000 in
theorem remove_any (w : World) (F : Nat → Prop) (q : Pl) (S : Fs) (N : Nat) (h : FsAt w F q S) (hI : Inv N 16777216 S) (hN : N ≤ 1000000) (s : ByteArray) (hs : s.size ≤ 9223372036854775807) :
    Calls Try.prog 18 #[ptrV q.p, .string s] w (ToPost F q.p (removeF S s.data.toList) w) := by
  have HOF := Lib.hid (of_any w F q S h s hs)
  have HCH := Lib.hid (fun (W : World) (hA : FsAt W F q S) (hn : s.data.toList.length ≤ 200) => change_any W F q S N (.remove s.data.toList) hA hI hN trivial (fun i hi => by cases hi) hn)
  have HPO : Hid (∀ e w', ToPost F q.p (removeF S s.data.toList) w e w' = (e = .returned (.int .i64 (removeF S s.data.toList).1) ∧ FsTo F q.p w (removeF S s.data.toList).2 w')) := Lib.hid (fun _ _ => rfl)
  have HSY : Hid (removeF S s.data.toList = if ofF S s.data.toList ≠ 0 then (ofF S s.data.toList, S) else if burnOk S = false then (50, burnF S) else (0, changeF (burnF S) (.remove s.data.toList))) := Lib.hid rfl
  have HNM : Hid (ofF S s.data.toList = 0 → s.data.toList.length ≤ 200) := Lib.hid (fun h => (okN_len (of_named h)).2)
  generalize ToPost F q.p (removeF S s.data.toList) w = POST at *
  have HH := Lib.hid h
  unfold OfPost at HOF
  unfold ChangePost at HCH
  have HBK : Hid (bkN s.data.toList = s) := Lib.hid (bkN_of s)
  simp only [chV] at HCH
  rw [HBK.out] at HCH
  generalize ofF S s.data.toList = of at *
  clear h hI hs
  unfold ptrV at *
  go_enter Try.func18, Try.ntmps18
  go_wp2_with fail
  refine HOF.out.mono ?_
  rintro e w1 ⟨hb, ⟨hne, rfl⟩ | ⟨rfl, i, hg, rfl⟩⟩
  · have q1 : (of != 0) = true := by simp [hne]
    have HS : Hid (removeF S s.data.toList = (of, S)) := Lib.hid (by rw [HSY.out, if_pos hne])
    have HB := Lib.hid hb
    clear hne hb
    go_wp2
    rw [HPO.out, HS.out]
    exact ⟨rfl, q, (HH.out.below HB.out).mono fun k hk => .inl hk, rfl, Chg.of_below HB.out⟩
  · have HB := Lib.hid hb
    have HC := Lib.hid (HCH.out w1 (HH.out.below hb) (HNM.out rfl))
    have HS : Hid (removeF S s.data.toList = (if burnOk S then 0 else 50, if burnOk S then changeF (burnF S) (.remove s.data.toList) else burnF S)) := Lib.hid (by rw [HSY.out, if_neg (by decide)]; cases burnOk S <;> rfl)
    clear hb hg HCH
    generalize (if burnOk S = true then (0 : Int) else 50) = rv at *
    go_wp2_with (go_at_call 33; refine HC.out.mono ?_; rintro e w2 ⟨rfl, hF⟩; have HF := Lib.hid hF; clear hF)
    rw [HPO.out, HS.out]
    exact ⟨rfl, HF.out.pre HB.out⟩
theorem strA_two (w : World) (s t : ByteArray) : StrA (w.alloc (.cells #[.string s, .string t] 9)) (some ⟨w.heap.size, 0, none⟩) [s, t] := fun _ =>
  ⟨w.heap.size, 0, rfl, by simp, fun i u h => by
    rcases i with _ | _ | i
    · injection h with h
      subst h
      rw [World.cell?_alloc_at _ _ _ _ (by simp)]; rfl
    · injection h with h
      subst h
      rw [World.cell?_alloc_at _ _ _ _ (by simp)]; rfl
    · simp at h⟩
set_option maxRecDepth 100000 in
set_option maxHeartbeats 2000000 in
theorem rename_any (w : World) (F : Nat → Prop) (q : Pl) (S : Fs) (N : Nat) (h : FsAt w F q S) (hI : Inv N 16777216 S) (hN : N ≤ 1000000) (s t : ByteArray) (hs : s.size ≤ 9223372036854775807) (ht : t.size ≤ 9223372036854775807) :
    Calls Try.prog 17 #[ptrV q.p, .string s, .string t] w (ToPost F q.p (renameF S s.data.toList t.data.toList) w) := by
  have hl0 : Below w.heap.size w (w.alloc (.cells #[.string s, .string t] 9)) := (Below.refl _ _).alloc (Nat.le_refl _) _
  have h0 := h.below hl0
  have HNM := Lib.hid (named_any _ F q S h0 (some ⟨w.heap.size, 0, none⟩) 2 2 [s, t] (strA_two w s t) rfl (by decide) (by intro u hu; rcases List.mem_cons.1 hu with rfl | hu; exact hs; rw [List.mem_singleton.1 hu]; exact ht))
  have HLK := Lib.hid (h0.now.look s hs)
  have c1 := h0.c1
  have HCH := Lib.hid (fun (f : Nat) (h1 : getN S.now s.data.toList = some f) (h2 : s.data.toList ≠ t.data.toList) (h3 : s.data.toList.length ≤ 200) (h4 : t.data.toList.length ≤ 200) => change_any _ F q S N (.rename s.data.toList t.data.toList f) h0 hI hN ⟨h1, h2⟩ (fun i hi => by cases hi) ⟨h3, h4⟩)
  have HBN := Lib.hid (burn_any _ F q S h0 hI.fus)
  have HPO : Hid (∀ e w', ToPost F q.p (renameF S s.data.toList t.data.toList) w e w' = (e = .returned (.int .i64 (renameF S s.data.toList t.data.toList).1) ∧ FsTo F q.p w (renameF S s.data.toList t.data.toList).2 w')) := Lib.hid (fun _ _ => rfl)
  generalize ToPost F q.p (renameF S s.data.toList t.data.toList) w = POST at *
  have hrn : renameF S s.data.toList t.data.toList = if namedF S [s.data.toList, t.data.toList] ≠ 0 then (namedF S [s.data.toList, t.data.toList], S) else match getN S.now s.data.toList with | none => (61, S) | some f => if burnOk S = false then (50, burnF S) else if s.data.toList = t.data.toList then (0, burnF S) else (0, changeF (burnF S) (.rename s.data.toList t.data.toList f)) := rfl
  have HRN := Lib.hid hrn
  have HL := Lib.hid hl0
  have HH := Lib.hid h0
  change Hid (Calls _ _ _ _ fun e w' => e = .returned (.int .i64 (namedF S [s.data.toList, t.data.toList])) ∧ w' = _) at HNM
  have HZ : Hid (namedF S [s.data.toList, t.data.toList] = 0 → s.data.toList.length ≤ 200 ∧ t.data.toList.length ≤ 200) := Lib.hid (fun h => ⟨(okN_len (named_zero h _ (by simp))).2, (okN_len (named_zero h _ (by simp))).2⟩)
  unfold ChangePost at HCH
  unfold BurnPost at HBN
  have HK : Hid (bkN s.data.toList = s) := Lib.hid (bkN_of s)
  have HK2 : Hid (bkN t.data.toList = t) := Lib.hid (bkN_of t)
  simp only [chV] at HCH
  rw [HK.out, HK2.out] at HCH
  have HST : Hid (s.data.toList = t.data.toList ↔ s = t) := Lib.hid ⟨fun h => by rw [← bkN_of s, h, bkN_of], fun h => by rw [h]⟩
  have HTL : Hid (∀ x : ByteArray, x.toList = x.data.toList) := Lib.hid (fun x => Lib.toList_data x)
  clear h h0 hl0 hrn hs ht hI
  generalize namedF S [s.data.toList, t.data.toList] = nm at *
  unfold ptrV at *
  go_enter Try.func17, Try.ntmps17
  go_upto_region 2 with (go_at_call 32; refine HNM.out.mono ?_; rintro e w1 ⟨rfl, rfl⟩)
  generalize w.alloc (.cells #[.string s, .string t] 9) = w1 at *
  by_cases h0 : nm = 0
  · subst h0
    have hlk := HLK.out
    obtain ⟨z1, z2⟩ := HZ.out rfl
    cases hg : getN S.now s.data.toList with
    | none =>
      rw [hg] at hlk
      unfold optV at hlk
      have HO : Hid (renameF S s.data.toList t.data.toList = (61, S)) := Lib.hid (by rw [HRN.out, if_neg (by decide), hg])
      clear hg z1 z2
      go_wp2
      rw [HPO.out, HO.out]
      exact ⟨rfl, q, HH.out.mono fun k hk => .inl hk, rfl, Chg.of_below HL.out⟩
    | some f =>
      rw [hg] at hlk
      unfold optV ptrV at hlk
      by_cases he : s.data.toList = t.data.toList
      · have HO : Hid (renameF S s.data.toList t.data.toList = (if burnOk S then 0 else 50, burnF S)) := Lib.hid (by rw [HRN.out, if_neg (by decide), hg]; simp only; rw [if_pos he]; cases burnOk S <;> rfl)
        have est : s = t := HST.out.1 he
        have q1 : (s.toList == t.toList) = true := by rw [est]; exact beq_self_eq_true _
        clear hg he z1 z2 est HCH
        generalize (if burnOk S = true then (0 : Int) else 50) = rv at *
        go_wp2_with (go_at_call 35; refine HBN.out.mono ?_; rintro e w2 ⟨rfl, hA, hC⟩; have HF := Lib.hid (burn_to HL.out hA hC); clear hA hC)
        rw [HPO.out, HO.out]
        exact ⟨rfl, HF.out⟩
      · have HO : Hid (renameF S s.data.toList t.data.toList = (if burnOk S then 0 else 50, if burnOk S then changeF (burnF S) (.rename s.data.toList t.data.toList f) else burnF S)) := Lib.hid (by rw [HRN.out, if_neg (by decide), hg]; simp only; rw [if_neg he]; cases burnOk S <;> rfl)
        have q1 : (s.toList == t.toList) = false := by rw [beq_eq_false_iff_ne, HTL.out, HTL.out]; exact he
        have HC := Lib.hid (HCH.out f hg he z1 z2)
        clear hg he z1 z2 HCH HBN
        generalize (if burnOk S = true then (0 : Int) else 50) = rv at *
        go_wp2_with (go_at_call 33; refine HC.out.mono ?_; rintro e w2 ⟨rfl, hF⟩; have HF := Lib.hid hF; clear hF)
        rw [HPO.out, HO.out]
        exact ⟨rfl, HF.out.pre HL.out⟩
  · have q0 : (nm == 0) = false := by rw [beq_eq_false_iff_ne]; exact h0
    have q1 : (nm != 0) = true := by simp [h0]
    have HO : Hid (renameF S s.data.toList t.data.toList = (nm, S)) := Lib.hid (by rw [HRN.out, if_pos h0])
    clear h0
    go_wp2
    rw [HPO.out, HO.out]
    exact ⟨rfl, q, HH.out.mono fun k hk => .inl hk, rfl, Chg.of_below HL.out⟩
end Go.Proofs.Ytmoaabjiokjjlaa
