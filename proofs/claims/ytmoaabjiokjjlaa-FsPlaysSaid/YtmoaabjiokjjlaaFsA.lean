/- A file system's parts are apart; burn, Fuse, Dead. -/
import Derived.Test.YtmoaabjiokjjlaaFsM
namespace Go.Proofs.Ytmoaabjiokjjlaa
open Go.RowKit
set_option linter.unusedVariables false
set_option linter.unusedSimpArgs false

/-- What kind of block lies there. -/
def kd (w : World) (k : Nat) : Nat := match w.heap[k]? with | some (.cells _ t _) => t + 1 | _ => 0
theorem Cel.kd {w : World} {g n : Nat} {t : TypeId} {f : Nat → Value} (h : Cel w g t n f) : kd w g = t + 1 := by
  obtain ⟨cs, hc, _⟩ := h
  unfold Ytmoaabjiokjjlaa.kd
  rw [hc]
theorem OwnS.kd {w : World} {base size n : Nat} {e : TypeId} {v : Value} {xs : List Value} (h : OwnS w base e size v n xs) {k : Nat} (hk : v.ownBlock = some k) : kd w k = e + 1 := by
  rcases h.2 with ⟨rfl, _⟩ | ⟨g, off, cap, cur, rfl, _, ⟨fr, hh, _⟩, _⟩
  · cases hk
  · simp [Value.ownBlock] at hk
    subst hk
    unfold Ytmoaabjiokjjlaa.kd
    rw [hh]
theorem MapN.kd {w : World} {g : Nat} {fb : Nat → Nat} {l : Ns} (h : MapN w g fb l) : kd w g = 0 := by
  obtain ⟨es, clock, hb, _⟩ := h
  unfold Ytmoaabjiokjjlaa.kd
  rw [hb]
section
variable {w w' : World} {F F' : Nat → Prop} {q : Pl} {S S' : Fs} {N M : Nat}
theorem FsAt.kp (h : FsAt w F q S) : kd w q.p = 61 + 1 := h.cel.kd
theorem FsAt.kn (h : FsAt w F q S) : kd w q.mn = 0 := h.now.kd
theorem FsAt.kl (h : FsAt w F q S) : kd w q.ml = 0 := h.last.kd
theorem FsAt.kv (h : FsAt w F q S) {k : Nat} (hk : q.vc.ownBlock = some k) : kd w k = 73 + 1 := h.wait.kd hk
theorem FsAt.kf (h : FsAt w F q S) {i : Nat} (hi : q.lv i) : kd w (q.fb i) = 66 + 1 := by
  obtain ⟨x, _, hx⟩ := h.file i hi
  exact hx.cel.kd
theorem FsAt.kr (h : FsAt w F q S) {i k : Nat} (hi : q.lv i) (hk : (q.fv i).ownBlock = some k) : kd w k = 5 + 1 := by
  obtain ⟨x, _, hx⟩ := h.file i hi
  exact hx.own.kd hk
/-- Blocks of unlike kinds are not one. -/
theorem kd_ne {a b x y : Nat} (ha : kd w a = x) (hb : kd w b = y) (h : x ≠ y) : a ≠ b := fun e => h (by rw [← ha, e, hb])
theorem FlAt.to (h : FsAt w F q S) {b : Nat} (hw : ∀ k, k ≠ b → k < w.heap.size → w'.heap[k]? = w.heap[k]?) {i : Nat} {x : Fl} (hx : FlAt w (q.fb i) (q.fv i) x) (h1 : q.fb i ≠ b) (h2 : (q.fv i).ownBlock ≠ some b) : FlAt w' (q.fb i) (q.fv i) x :=
  hx.same (hw _ h1 hx.cel.blk) fun k hk => hw k (fun e => h2 (by rw [← e]; exact hk)) (hx.own.lt k hk).2
/-- The struct alone has changed. -/
theorem FsAt.stP (h : FsAt w F q S) (hw : ∀ k, k ≠ q.p → k < w.heap.size → w'.heap[k]? = w.heap[k]?) (hc : Cel w' q.p 61 6 (fsF q S')) (e1 : S'.now = S.now) (e2 : S'.last = S.last) (e3 : S'.wait = S.wait) (e4 : S'.files = S.files) : FsAt w' F q S' := by
  refine ⟨hc, ?_, ?_, ?_, fun i hi => ?_, h.inj, h.rows, h.maps, by rw [e2]; exact h.lvl, by rw [e3]; exact h.lvw, by rw [e3]; exact h.nms, h.mem⟩
  · rw [e1]; exact h.now.same (hw _ (kd_ne h.kn h.kp (by decide)) h.now.lt)
  · rw [e2]; exact h.last.same (hw _ (kd_ne h.kl h.kp (by decide)) h.last.lt)
  · rw [e3]; exact h.wait.heap fun k hk => hw k (kd_ne (h.kv hk) h.kp (by decide)) (h.wait.lt k hk).2
  · rw [e4]
    obtain ⟨x, hx, hf⟩ := h.file i hi
    exact ⟨x, hx, FlAt.to h hw hf (kd_ne (h.kf hi) h.kp (by decide)) fun e => kd_ne (h.kr hi e) h.kp (by decide) rfl⟩
theorem FsAt.set4 (h : FsAt w F q S) (x : Int) : FsAt (w.setCell ⟨q.p, 4, none⟩ (.int .i64 x)) F q { S with fuse := x } :=
  h.stP (fun k hk _ => Below.heap_setCell _ _ _ _ hk) ((h.cel.set 4 _).congr fun i hi => by
    have : i = 0 ∨ i = 1 ∨ i = 2 ∨ i = 3 ∨ i = 4 ∨ i = 5 := by omega
    rcases this with rfl | rfl | rfl | rfl | rfl | rfl <;> rfl) rfl rfl rfl rfl
theorem FsAt.set5 (h : FsAt w F q S) (b : Bool) : FsAt (w.setCell ⟨q.p, 5, none⟩ (.bool b)) F q { S with dead := b } :=
  h.stP (fun k hk _ => Below.heap_setCell _ _ _ _ hk) ((h.cel.set 5 _).congr fun i hi => by
    have : i = 0 ∨ i = 1 ∨ i = 2 ∨ i = 3 ∨ i = 4 ∨ i = 5 := by omega
    rcases this with rfl | rfl | rfl | rfl | rfl | rfl <;> rfl) rfl rfl rfl rfl
theorem FsAt.drew (h : FsAt w F q S) : FsAt w.drew F q S := h.same fun _ _ _ => rfl
theorem FsAt.drewN (h : FsAt w F q S) (n : Nat) : FsAt (w.drewN n) F q S := h.same fun _ _ _ => rfl
end
def BurnPost (F : Nat → Prop) (q : Pl) (S : Fs) (w : World) (e : Ending) (w' : World) : Prop :=
  e = .returned (.int .i64 (if burnOk S then 0 else 50)) ∧ FsAt w' F q (burnF S) ∧ Chg (fun k => k = q.p) w w'
set_option maxRecDepth 100000 in
set_option maxHeartbeats 1000000 in
theorem burn_any (w : World) (F : Nat → Prop) (q : Pl) (S : Fs) (h : FsAt w F q S) (hf : -1 ≤ S.fuse ∧ S.fuse ≤ 9223372036854775807) :
    Calls Try.prog 35 #[ptrV q.p] w (BurnPost F q S w) := by
  have H := Lib.hid h
  have c4 := h.c4
  have z4 := h.fz 4
  have z5 := h.fz 5
  have HP : Hid (∀ e w', BurnPost F q S w e w' = (e = .returned (.int .i64 (if burnOk S then 0 else 50)) ∧ FsAt w' F q (burnF S) ∧ Chg (fun k => k = q.p) w w')) := Lib.hid (fun _ _ => rfl)
  obtain ⟨b5, c5⟩ : ∃ v, w.cell? ⟨q.p, 5, none⟩ = some v := ⟨_, h.c5⟩
  unfold ptrV
  clear h
  generalize BurnPost F q S w = POST at *
  by_cases h0 : S.fuse = 0
  · have HB : Hid (burnOk S = false ∧ burnF S = { S with dead := true }) := Lib.hid (by
      refine ⟨by unfold burnOk; simp [h0], ?_⟩
      unfold burnF
      rw [if_pos h0, if_pos h0]
      obtain ⟨a, b, c, d, e, f, g⟩ := S
      simp at h0
      subst h0
      rfl)
    rw [h0] at c4
    clear h0 hf
    go_enter Try.func35, Try.ntmps35
    go_wp2
    rw [HP.out, HB.out.1, HB.out.2]
    exact ⟨rfl, H.out.set5 true, Chg.setCell (S := fun k => k = q.p) (Chg.refl _ _) (a := ⟨q.p, 5, none⟩) (.inl rfl) _⟩
  · have q0 : (S.fuse == 0) = false := by rw [beq_eq_false_iff_ne]; exact h0
    have HB : Hid (burnOk S = true ∧ burnF S = { S with fuse := max (S.fuse - 1) (-1) }) := Lib.hid (by
      refine ⟨by unfold burnOk; simp [h0], ?_⟩
      unfold burnF
      rw [if_neg h0, if_neg h0])
    have hw : IntKind.i64.wrap (S.fuse - 1) = S.fuse - 1 := IntWalk.i64_in _ (by omega)
    generalize S.fuse = fu at *
    by_cases h1 : fu - 1 < -1
    · have e1 : (if fu - 1 < -1 then (-1 : Int) else fu - 1) = -1 := if_pos h1
      have HM : Hid (max (fu - 1) (-1) = -1) := Lib.hid (by omega)
      clear hf h0
      go_enter Try.func35, Try.ntmps35
      go_wp2
      rw [HP.out, HB.out.1, HB.out.2, HM.out]
      exact ⟨rfl, H.out.set4 (-1), Chg.setCell (S := fun k => k = q.p) (Chg.refl _ _) (a := ⟨q.p, 4, none⟩) (.inl rfl) _⟩
    · have e1 : (if fu - 1 < -1 then (-1 : Int) else fu - 1) = fu - 1 := if_neg h1
      have HM : Hid (max (fu - 1) (-1) = fu - 1) := Lib.hid (by omega)
      clear hf h0
      go_enter Try.func35, Try.ntmps35
      go_wp2
      rw [HP.out, HB.out.1, HB.out.2, HM.out]
      exact ⟨rfl, H.out.set4 (fu - 1), Chg.setCell (S := fun k => k = q.p) (Chg.refl _ _) (a := ⟨q.p, 4, none⟩) (.inl rfl) _⟩
set_option maxRecDepth 100000 in
set_option maxHeartbeats 1000000 in
theorem fuse_any (w : World) (F : Nat → Prop) (q : Pl) (S : Fs) (k : Int) (h : FsAt w F q S) :
    Calls Try.prog 22 #[ptrV q.p, .int .i64 k] w fun e w' => e = .returned (.tuple #[]) ∧ FsAt w' F q (fuseF S k) ∧ Chg (fun k => k = q.p) w w' := by
  have H := Lib.hid h
  have z4 := h.fz 4
  obtain ⟨b4, c4⟩ : ∃ v, w.cell? ⟨q.p, 4, none⟩ = some v := ⟨_, h.c4⟩
  unfold ptrV
  clear h
  by_cases h1 : k < -1
  · have HM : Hid (max k (-1) = -1) := Lib.hid (by omega)
    go_enter Try.func22, Try.ntmps22
    go_wp2
    refine ⟨rfl, _, results_none rfl _ _ _, ?_⟩
    refine ⟨rfl, ?_, Chg.setCell (S := fun k => k = q.p) (Chg.refl _ _) (a := ⟨q.p, 4, none⟩) (.inl rfl) _⟩
    unfold fuseF
    rw [HM.out]
    exact H.out.set4 (-1)
  · have HM : Hid (max k (-1) = k) := Lib.hid (by omega)
    go_enter Try.func22, Try.ntmps22
    go_wp2
    refine ⟨rfl, _, results_none rfl _ _ _, ?_⟩
    refine ⟨rfl, ?_, Chg.setCell (S := fun k => k = q.p) (Chg.refl _ _) (a := ⟨q.p, 4, none⟩) (.inl rfl) _⟩
    unfold fuseF
    rw [HM.out]
    exact H.out.set4 k
theorem dead_any (w : World) (F : Nat → Prop) (q : Pl) (S : Fs) (h : FsAt w F q S) :
    Calls Try.prog 23 #[ptrV q.p] w fun e w' => e = .returned (.bool S.dead) ∧ w' = w := by
  have c5 := h.c5
  unfold ptrV
  clear h
  go_enter Try.func23, Try.ntmps23
  go_wp2
  go_ret
  exact ⟨rfl, rfl⟩
end Go.Proofs.Ytmoaabjiokjjlaa
