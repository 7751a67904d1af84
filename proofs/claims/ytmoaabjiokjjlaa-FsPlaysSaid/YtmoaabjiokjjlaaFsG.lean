/- New; SyncNames. -/
import Derived.Test.YtmoaabjiokjjlaaFsF
namespace Go.Proofs.Ytmoaabjiokjjlaa
open Go.RowKit Go.Maps
set_option linter.unusedVariables false
set_option linter.unusedSimpArgs false

section
variable {w w' : World} {F F' : Nat → Prop} {q : Pl} {S S' : Fs} {N M : Nat}
/-- The struct has changed, and its maps and changes with it; the files are as they were. -/
theorem FsAt.reP (h : FsAt w F q S) {mn ml : Nat} {vc : Value} (hw : ∀ k, k ≠ q.p → k < w.heap.size → w'.heap[k]? = w.heap[k]?)
    (hc : Cel w' q.p 61 6 (fsF { q with mn := mn, ml := ml, vc := vc } S')) (hn : MapN w' mn q.fb S'.now) (hl : MapN w' ml q.fb S'.last) (ho : OwnS w' 0 73 1 vc S'.wait.length (S'.wait.map (chV q.fb)))
    (hf : S'.files = S.files) (hm : mn ≠ ml) (h1 : ∀ p ∈ S'.last, q.lv p.2) (h2 : ∀ c ∈ S'.wait, ∀ i, chId c = some i → q.lv i) (h3 : ∀ c ∈ S'.wait, Nms c)
    (m0 : ∀ k, F k → F' k) (m1 : F' mn) (m2 : F' ml) (m3 : ∀ k, vc.ownBlock = some k → F' k) : FsAt w' F' { q with mn := mn, ml := ml, vc := vc } S' := by
  refine ⟨hc, hn, hl, ho, fun i hi => ?_, h.inj, h.rows, hm, h1, h2, h3, ⟨m0 _ h.mem.p, m1, m2, m3, fun i hi => m0 _ (h.mem.fb i hi), fun i k hi hk => m0 _ (h.mem.fv i k hi hk)⟩⟩
  rw [hf]
  obtain ⟨x, hx, hf⟩ := h.file i hi
  exact ⟨x, hx, FlAt.to h hw hf (kd_ne (h.kf hi) h.kp (by decide)) fun e => kd_ne (h.kr hi e) h.kp (by decide) rfl⟩
end
theorem clone_map (w : World) (g : Nat) (fb : Nat → Nat) (l : Ns) (h : MapN w g fb l) :
    Calls Try.prog 36 #[.map (some g)] w fun e w' => e = .returned (.map (some w.heap.size)) ∧ MapN w' w.heap.size fb l ∧ Below w.heap.size w w' :=
  (AnyW.maps_Clone_owns Try.cloneA 9 ptrElem g l.length (dataN fb l) w h).mono fun e w' ⟨he, h1, _, hb⟩ => ⟨he, h1, hb⟩
def SNPost (F : Nat → Prop) (p : Nat) (S : Fs) (w : World) (e : Ending) (w' : World) : Prop :=
  e = .returned (.int .i64 (syncNamesF S).1) ∧ FsTo F p w (syncNamesF S).2 w'
set_option maxRecDepth 100000 in
set_option maxHeartbeats 2000000 in
theorem syncNames_any (w : World) (F : Nat → Prop) (q : Pl) (S : Fs) (N : Nat) (h : FsAt w F q S) (hI : Inv N 16777216 S) :
    Calls Try.prog 21 #[ptrV q.p] w (SNPost F q.p S w) := by
  have HB := Lib.hid (burn_any w F q S h hI.fus)
  have HPO : Hid (∀ e w', SNPost F q.p S w e w' = (e = .returned (.int .i64 (syncNamesF S).1) ∧ FsTo F q.p w (syncNamesF S).2 w')) := Lib.hid (fun _ _ => rfl)
  generalize SNPost F q.p S w = POST at *
  unfold BurnPost at HB
  have c5 := h.c5
  have HH := Lib.hid h
  have HLV := Lib.hid (h.lvn hI)
  clear h hI
  unfold ptrV at *
  cases hd : S.dead
  · have HD := Lib.hid hd
    rw [hd] at c5
    clear hd
    cases hb : burnOk S
    · rw [hb] at HB
      have HS : Hid (syncNamesF S = (50, burnF S)) := Lib.hid (by unfold syncNamesF; rw [HD.out, hb]; rfl)
      clear hb
      go_enter Try.func21, Try.ntmps21
      go_wp2_with fail
      refine HB.out.mono ?_
      rintro e w1 ⟨rfl, hA, hC⟩
      have HF : Hid (FsTo F q.p w (burnF S) w1) := Lib.hid ⟨q, hA.mono fun k hk => .inl hk, rfl, hC.mono fun k _ hk => by rw [hk]; exact hA.mem.p⟩
      clear hA hC
      simp only [Bool.false_eq_true, if_false]
      go_wp2
      rw [HPO.out, HS.out]
      exact ⟨rfl, HF.out⟩
    · rw [hb] at HB
      have HS : Hid (syncNamesF S = (0, { burnF S with last := S.now, wait := [] })) := Lib.hid (by unfold syncNamesF; rw [HD.out, hb]; rfl)
      clear hb
      go_enter Try.func21, Try.ntmps21
      go_wp2_with fail
      refine HB.out.mono ?_
      rintro e w1 ⟨rfl, hA, hC⟩
      have c1 := hA.c1
      have HC := Lib.hid hC
      have HA := Lib.hid hA
      have HCM := Lib.hid (clone_map w1 q.mn q.fb S.now hA.now)
      clear hA hC c5
      go_wp2_with fail
      refine HCM.out.mono ?_
      rintro e w2 ⟨rfl, hm2, hb2⟩
      have hA2 := HA.out.below hb2
      have f2 := hA2.fz 2
      have f3 := hA2.fz 3
      obtain ⟨z2, y2⟩ : ∃ z, w2.cell? ⟨q.p, 2, none⟩ = some z := ⟨_, hA2.c2⟩
      obtain ⟨z3, y3⟩ : ∃ z, w2.cell? ⟨q.p, 3, none⟩ = some z := ⟨_, hA2.c3⟩
      have HM2 := Lib.hid hm2
      have HB2 := Lib.hid hb2
      have HA2 := Lib.hid hA2
      clear hm2 hb2 hA2 c1
      go_wp2
      rw [HPO.out, HS.out]
      have hsz : w1.heap.size ≤ w2.heap.size := HB2.out.size
      have hws : w.heap.size ≤ w1.heap.size := HC.out.size
      have hpl : q.p < w1.heap.size := HA.out.cel.blk
      have hne : w1.heap.size ≠ q.p := by omega
      have hw : ∀ k, k ≠ q.p → ((w2.setCell ⟨q.p, 2, none⟩ (.map (some w1.heap.size))).setCell ⟨q.p, 3, none⟩ (.slice none 0 0)).heap[k]? = w2.heap[k]? := fun k hk =>
        (Below.heap_setCell _ _ _ _ hk).trans (Below.heap_setCell _ _ _ _ hk)
      have hF := HA2.out.reP (S' := { burnF S with last := S.now, wait := [] }) (F' := fun k => F k ∨ w.heap.size ≤ k) (mn := q.mn) (ml := w1.heap.size) (vc := .slice none 0 0) (fun k hk _ => hw k hk)
        (((HA2.out.cel.set 2 (.map (some w1.heap.size))).set 3 (.slice none 0 0)).congr fun i hi => by
          have : i = 0 ∨ i = 1 ∨ i = 2 ∨ i = 3 ∨ i = 4 ∨ i = 5 := by omega
          rcases this with rfl | rfl | rfl | rfl | rfl | rfl <;> rfl)
        (HA2.out.now.same (hw _ (kd_ne HA2.out.kn HA2.out.kp (by decide)))) (HM2.out.same (hw _ hne)) (OwnS.nil _ _ _ _) rfl (by have := HA.out.now.lt; omega) HLV.out (by intro c hc; cases hc) (by intro c hc; cases hc)
        (fun k hk => .inl hk) (.inl HA2.out.mem.mn) (.inr hws) (fun k hk => by cases hk)
      refine ⟨rfl, _, hF, rfl, ?_⟩
      have hc1 : Chg F w w2 := (HC.out.mono fun k _ hk => by rw [hk]; exact HA.out.mem.p).trans (Chg.of_below (S := F) HB2.out) (fun _ _ h => h)
      exact Chg.setCell (Chg.setCell hc1 (a := ⟨q.p, 2, none⟩) (.inl HA.out.mem.p) _) (a := ⟨q.p, 3, none⟩) (.inl HA.out.mem.p) _
  · have HS : Hid (syncNamesF S = (50, S)) := Lib.hid (by unfold syncNamesF; rw [hd]; rfl)
    rw [hd] at c5
    clear hd
    go_enter Try.func21, Try.ntmps21
    go_wp2
    rw [HPO.out, HS.out]
    exact ⟨rfl, FsTo.refl HH.out⟩
/-- A new file system. -/
def NewPost (k : Int) (w : World) (e : Ending) (w' : World) : Prop :=
  Below w.heap.size w w' ∧ ((k < 0 ∨ 16777216 < k) ∧ e = .returned (.tuple #[.pointer none, .int .i64 1]) ∨ (0 ≤ k ∧ k ≤ 16777216) ∧ ∃ q, e = .returned (.tuple #[ptrV q.p, .int .i64 0]) ∧ FsAt w' (fun k => w.heap.size ≤ k) q (newF k))
def newW (w : World) (k : Int) : World := ((w.alloc (.map #[] 0)).alloc (.map #[] 0)).alloc (.cells #[.int .i64 k, .map (some w.heap.size), .map (some (w.heap.size + 1)), .slice none 0 0, .int .i64 (-1), .bool false] 61)
theorem newW_ok (w : World) (k : Int) : Below w.heap.size w (newW w k) ∧ FsAt (newW w k) (fun k => w.heap.size ≤ k) ⟨w.heap.size + 1 + 1, w.heap.size, w.heap.size + 1, .slice none 0 0, fun _ => 0, fun _ => .slice none 0 0, fun _ => False⟩ (newF k) := by
  have e1 : (w.alloc (.map #[] 0)).heap.size = w.heap.size + 1 := by simp
  have e2 : ((w.alloc (.map #[] 0)).alloc (.map #[] 0)).heap.size = w.heap.size + 1 + 1 := by simp
  have hb : Below w.heap.size w (newW w k) := (((Below.refl _ _).alloc (Nat.le_refl _) _).alloc (by rw [e1]; omega) _).alloc (by rw [e2]; omega) _
  have m1 : MapN (w.alloc (.map #[] 0)) w.heap.size (fun _ => 0) [] := MapN.new w _
  have m2 : MapN ((w.alloc (.map #[] 0)).alloc (.map #[] 0)) (w.alloc (.map #[] 0)).heap.size (fun _ => 0) [] := MapN.new _ _
  rw [e1] at m2
  have hc := Cel.new ((w.alloc (.map #[] 0)).alloc (.map #[] 0)) 61 #[.int .i64 k, .map (some w.heap.size), .map (some (w.heap.size + 1)), .slice none 0 0, .int .i64 (-1), .bool false] (fsF ⟨w.heap.size + 1 + 1, w.heap.size, w.heap.size + 1, .slice none 0 0, fun _ => 0, fun _ => .slice none 0 0, fun _ => False⟩ (newF k)) (fun i hi => by
    have hi' : i < 6 := hi
    have : i = 0 ∨ i = 1 ∨ i = 2 ∨ i = 3 ∨ i = 4 ∨ i = 5 := by omega
    rcases this with rfl | rfl | rfl | rfl | rfl | rfl <;> rfl)
  rw [e2] at hc
  refine ⟨hb, hc, (m1.alloc _).alloc _, m2.alloc _, OwnS.nil _ _ _ _, fun i hi => hi.elim, fun i j hi => hi.elim, fun i j k hi => hi.elim, (by show w.heap.size ≠ w.heap.size + 1; omega), (by intro p hp; cases hp), (by intro p hp; cases hp), (by intro p hp; cases hp), ⟨(by show w.heap.size ≤ w.heap.size + 1 + 1; omega), Nat.le_refl _, (by show w.heap.size ≤ w.heap.size + 1; omega), (fun k hk => by cases hk), fun i hi => hi.elim, fun i k hi => hi.elim⟩⟩
set_option maxRecDepth 100000 in
set_option maxHeartbeats 2000000 in
theorem fsNew_any (w : World) (k : Int) : Calls Try.prog 9 #[.int .i64 k] w (NewPost k w) := by
  have HPO : Hid (∀ e w', NewPost k w e w' = (Below w.heap.size w w' ∧ ((k < 0 ∨ 16777216 < k) ∧ e = .returned (.tuple #[.pointer none, .int .i64 1]) ∨ (0 ≤ k ∧ k ≤ 16777216) ∧ ∃ q, e = .returned (.tuple #[ptrV q.p, .int .i64 0]) ∧ FsAt w' (fun k => w.heap.size ≤ k) q (newF k)))) := Lib.hid (fun _ _ => rfl)
  generalize NewPost k w = POST at *
  by_cases h1 : k < 0
  · have d1 : decide (k < 0) = true := decide_eq_true h1
    have H1 := Lib.hid h1
    clear h1
    go_enter Try.func9, Try.ntmps9
    go_wp2
    rw [HPO.out]
    exact ⟨Below.refl _ _, .inl ⟨.inl H1.out, rfl⟩⟩
  · have d1 : decide (k < 0) = false := decide_eq_false h1
    by_cases h2 : 16777216 < k
    · have d2 : decide (k > 16777216) = true := decide_eq_true h2
      have H2 := Lib.hid h2
      clear h1 h2
      go_enter Try.func9, Try.ntmps9
      go_wp2
      rw [HPO.out]
      exact ⟨Below.refl _ _, .inl ⟨.inr H2.out, rfl⟩⟩
    · have d2 : decide (k > 16777216) = false := decide_eq_false h2
      have H2 : Hid (0 ≤ k ∧ k ≤ 16777216) := Lib.hid (by omega)
      clear h1 h2
      have hmk := @run_makeMap Try.prog
      go_enter Try.func9, Try.ntmps9
      go_wp2
      rw [HPO.out]
      have hn := newW_ok w k
      exact ⟨hn.1, .inr ⟨H2.out, _, rfl, hn.2⟩⟩
end Go.Proofs.Ytmoaabjiokjjlaa
