/- Sync, Append. -/
import Derived.Test.YtmoaabjiokjjlaaFsG
namespace Go.Proofs.Ytmoaabjiokjjlaa
open Go.RowKit Go.Maps
set_option linter.unusedVariables false
set_option linter.unusedSimpArgs false

def updF {α : Type} (f : Nat → α) (i : Nat) (v : α) : Nat → α := fun j => if j = i then v else f j
theorem modify_set (g : Fl → Fl) : ∀ (l : List Fl) (i : Nat) (x : Fl), l[i]? = some x → l.modify i g = l.set i (g x)
  | [], _, _, h => by simp at h
  | y :: r, 0, x, h => by simp at h; subst h; rfl
  | y :: r, i + 1, x, h => by
    rw [List.modify_succ_cons, List.set_cons_succ, modify_set g r i x (by simpa using h)]
theorem modF_at {S : Fs} {n : Nm} {i : Nat} {x : Fl} (g : Fl → Fl) (h : getN S.now n = some i) (hx : S.files[i]? = some x) : modF S n g = { S with files := S.files.set i (g x) } := by
  unfold modF
  rw [h]
  simp only
  rw [modify_set g _ _ _ hx]
section
variable {w w' : World} {F F' : Nat → Prop} {q : Pl} {S S' : Fs} {N M : Nat}
theorem FsAt.lvt (h : FsAt w F q S) {i : Nat} (hi : q.lv i) : i < S.files.length := by
  obtain ⟨x, hx, _⟩ := h.file i hi
  exact (List.getElem?_eq_some_iff.1 hx).1
/-- One file has changed. -/
theorem FsAt.stFile (h : FsAt w F q S) {i : Nat} (hi : q.lv i) {v : Value} {x : Fl} (hw : ∀ k, k < w.heap.size → k ≠ q.fb i → (q.fv i).ownBlock ≠ some k → w'.heap[k]? = w.heap[k]?)
    (hf : FlAt w' (q.fb i) v x) (hv : ∀ k, v.ownBlock = some k → (q.fv i).ownBlock = some k ∨ w.heap.size ≤ k) :
    FsAt w' (fun k => F k ∨ w.heap.size ≤ k) { q with fv := updF q.fv i v } { S with files := S.files.set i x } := by
  have hil := h.lvt hi
  refine ⟨h.cel.same (hw _ h.cel.blk (kd_ne h.kp (h.kf hi) (by decide)) (fun e => kd_ne (h.kr hi e) h.kp (by decide) rfl)),
    h.now.same (hw _ h.now.lt (kd_ne h.kn (h.kf hi) (by decide)) (fun e => kd_ne (h.kr hi e) h.kn (by decide) rfl)),
    h.last.same (hw _ h.last.lt (kd_ne h.kl (h.kf hi) (by decide)) (fun e => kd_ne (h.kr hi e) h.kl (by decide) rfl)),
    h.wait.heap fun k hk => hw k (h.wait.lt k hk).2 (kd_ne (h.kv hk) (h.kf hi) (by decide)) (fun e => kd_ne (h.kr hi e) (h.kv hk) (by decide) rfl), fun j hj => ?_, h.inj, fun a b k ha hb h1 h2 => ?_, h.maps, h.lvl, h.lvw, h.nms, ?_⟩
  · by_cases e : j = i
    · subst e
      exact ⟨x, by rw [List.getElem?_set_self hil], by show FlAt w' (q.fb j) (updF q.fv j v j) x; unfold updF; rw [if_pos rfl]; exact hf⟩
    · obtain ⟨y, hy, hfy⟩ := h.file j hj
      refine ⟨y, by rw [List.getElem?_set_ne (Ne.symm e)]; exact hy, ?_⟩
      show FlAt w' (q.fb j) (updF q.fv i v j) y
      unfold updF
      rw [if_neg e]
      exact hfy.same (hw _ hfy.cel.blk (fun e1 => e (h.inj j i hj hi e1)) (fun e1 => kd_ne (h.kr hi e1) (h.kf hj) (by decide) rfl)) fun k hk => hw k (hfy.own.lt k hk).2 (kd_ne (h.kr hj hk) (h.kf hi) (by decide)) (fun e1 => e (h.rows j i k hj hi hk e1))
  · have key : ∀ j k, q.lv j → (updF q.fv i v j).ownBlock = some k → j = i ∨ (q.fv j).ownBlock = some k := fun j k hj hk => by
      unfold updF at hk
      split at hk
      · exact .inl (by assumption)
      · exact .inr hk
    have one : ∀ j k, q.lv j → (q.fv j).ownBlock = some k → v.ownBlock = some k → j = i := fun j k hj hk hvk => by
      rcases hv k hvk with h3 | h3
      · exact h.rows j i k hj hi hk h3
      · obtain ⟨y, _, hfy⟩ := h.file j hj
        have := (hfy.own.lt k hk).2
        omega
    have vat : ∀ j k, j = i → (updF q.fv i v j).ownBlock = some k → v.ownBlock = some k := fun j k e hk => by
      unfold updF at hk
      rwa [if_pos e] at hk
    rcases key a k ha h1 with ea | ea
    · rcases key b k hb h2 with eb | eb
      · rw [ea, eb]
      · rw [ea]; exact (one b k hb eb (vat a k ea h1)).symm
    · rcases key b k hb h2 with eb | eb
      · rw [eb]; exact one a k ha ea (vat b k eb h2)
      · exact h.rows a b k ha hb ea eb
  · refine ⟨.inl h.mem.p, .inl h.mem.mn, .inl h.mem.ml, fun k hk => .inl (h.mem.vc k hk), fun j hj => .inl (h.mem.fb j hj), fun j k hj hk => ?_⟩
    have hk' : (updF q.fv i v j).ownBlock = some k := hk
    unfold updF at hk'
    split at hk'
    · rcases hv k hk' with h3 | h3
      · exact .inl (h.mem.fv i k hi h3)
      · exact .inr h3
    · exact .inl (h.mem.fv j k hj hk')
end
def SyncPost (F : Nat → Prop) (p : Nat) (S : Fs) (n : Nm) (w : World) (e : Ending) (w' : World) : Prop :=
  e = .returned (.int .i64 (syncF S n).1) ∧ FsTo F p w (syncF S n).2 w'
theorem flF_s (v : Value) (x : Fl) (n : Nat) (j : Nat) (hj : j < 2) : (if j = 1 then Value.int .i64 (n : Int) else flF v x j) = flF v { x with s := n } j := by
  have : j = 0 ∨ j = 1 := by omega
  rcases this with rfl | rfl <;> rfl
theorem flF_b (v v' : Value) (x : Fl) (b : List Int) (j : Nat) (hj : j < 2) : (if j = 0 then v' else flF v x j) = flF v' { x with b := b } j := by
  have : j = 0 ∨ j = 1 := by omega
  rcases this with rfl | rfl <;> rfl
theorem burn_to {w w' w1 : World} {F : Nat → Prop} {q : Pl} {S : Fs} (hb : Below w.heap.size w w1) (hA : FsAt w' F q S) (hC : Chg (fun k => k = q.p) w1 w') : FsTo F q.p w S w' :=
  ⟨q, hA.mono fun k hk => .inl hk, rfl, (Chg.of_below (S := F) hb).trans (hC.mono fun k _ hk => by rw [hk]; exact hA.mem.p) (fun _ _ h => h)⟩
set_option maxRecDepth 100000 in
set_option maxHeartbeats 2000000 in
theorem sync_any (w : World) (F : Nat → Prop) (q : Pl) (S : Fs) (N : Nat) (h : FsAt w F q S) (hI : Inv N 16777216 S) (s : ByteArray) (hs : s.size ≤ 9223372036854775807) :
    Calls Try.prog 20 #[ptrV q.p, .string s] w (SyncPost F q.p S s.data.toList w) := by
  have HOF := Lib.hid (of_any w F q S h s hs)
  have HBN := Lib.hid (fun (W : World) (hA : FsAt W F q S) => burn_any W F q S hA hI.fus)
  have HPO : Hid (∀ e w', SyncPost F q.p S s.data.toList w e w' = (e = .returned (.int .i64 (syncF S s.data.toList).1) ∧ FsTo F q.p w (syncF S s.data.toList).2 w')) := Lib.hid (fun _ _ => rfl)
  have HSY : Hid (syncF S s.data.toList = if ofF S s.data.toList ≠ 0 then (ofF S s.data.toList, S) else if burnOk S = false then (50, burnF S) else (0, modF (burnF S) s.data.toList fun y => { y with s := y.b.length })) := Lib.hid rfl
  generalize SyncPost F q.p S s.data.toList w = POST at *
  have HH := Lib.hid h
  have HI := Lib.hid hI
  unfold OfPost at HOF
  unfold BurnPost at HBN
  generalize ofF S s.data.toList = of at *
  clear h hI hs
  unfold ptrV at *
  go_enter Try.func20, Try.ntmps20
  go_wp2_with fail
  refine HOF.out.mono ?_
  rintro e w1 ⟨hb, ⟨hne, rfl⟩ | ⟨rfl, i, hg, rfl⟩⟩
  · have q1 : (of == 0) = false := by rw [beq_eq_false_iff_ne]; exact hne
    have HS : Hid (syncF S s.data.toList = (of, S)) := Lib.hid (by rw [HSY.out, if_pos hne])
    have HB := Lib.hid hb
    clear hne hb
    go_wp2
    rw [HPO.out, HS.out]
    exact ⟨rfl, q, (HH.out.below HB.out).mono fun k hk => .inl hk, rfl, Chg.of_below HB.out⟩
  · have HB := Lib.hid hb
    have HBC := Lib.hid (HBN.out w1 (HH.out.below hb))
    have hlv := HH.out.get HI.out hg
    have HG := Lib.hid hg
    clear hb hg
    cases hbo : burnOk S
    · rw [hbo] at HBC
      have HS : Hid (syncF S s.data.toList = (50, burnF S)) := Lib.hid (by rw [HSY.out, if_neg (by decide), if_pos hbo])
      clear hbo
      simp only [Bool.false_eq_true, if_false] at HBC
      go_wp2_with fail
      refine HBC.out.mono ?_
      rintro e w2 ⟨rfl, hA, hC⟩
      have HF := Lib.hid (burn_to HB.out hA hC)
      clear hA hC
      go_wp2
      rw [HPO.out, HS.out]
      exact ⟨rfl, HF.out⟩
    · rw [hbo] at HBC
      have HS : Hid (syncF S s.data.toList = (0, modF (burnF S) s.data.toList fun y => { y with s := y.b.length })) := Lib.hid (by rw [HSY.out, if_neg (by decide), if_neg (by rw [hbo]; decide)])
      clear hbo
      simp only [if_true] at HBC
      go_wp2_with fail
      refine HBC.out.mono ?_
      rintro e w2 ⟨rfl, hA, hC⟩
      obtain ⟨x, hx, hf⟩ := hA.file i hlv
      obtain ⟨A, c, hv⟩ := hf.own.shape
      have c0 : w2.cell? ⟨q.fb i, 0, none⟩ = some (.slice A x.b.length c) := (hf.cel.cell 0 (by decide)).trans (by show some (q.fv i) = _; rw [hv])
      have f1 := hf.cel.frozen 1
      obtain ⟨z1, c1⟩ : ∃ z, w2.cell? ⟨q.fb i, 1, none⟩ = some z := ⟨_, hf.cel.cell 1 (by decide)⟩
      have HF := Lib.hid hf
      have HX := Lib.hid hx
      have HA := Lib.hid hA
      have HC := Lib.hid hC
      have HLV := Lib.hid hlv
      clear hf hx hA hC hv hlv
      go_wp2
      rw [HPO.out, HS.out]
      refine ⟨rfl, ?_⟩
      have hne : (q.fv i).ownBlock ≠ some (q.fb i) := fun e => kd_ne (HA.out.kr HLV.out e) (HA.out.kf HLV.out) (by decide) rfl
      have hst := HA.out.stFile HLV.out (w' := w2.setCell ⟨q.fb i, 1, none⟩ (.int .i64 (x.b.length : Int))) (v := q.fv i) (x := { x with s := x.b.length }) (fun k _ h1 _ => Below.heap_setCell _ _ _ _ h1)
        ⟨(HF.out.cel.set 1 _).congr (flF_s _ _ _), HF.out.own.setFar hne _⟩ (fun k hk => .inl hk)
      have he := modF_at (S := burnF S) (fun y : Fl => { y with s := y.b.length }) HG.out HX.out
      rw [he]
      have hc1 : Chg F w w2 := (Chg.of_below (S := F) HB.out).trans (HC.out.mono fun k _ hk => by rw [hk]; exact HA.out.mem.p) (fun _ _ h => h)
      exact ⟨_, hst.mono fun k hk => hk.elim .inl (fun hk => .inr (Nat.le_trans hc1.size hk)), rfl, Chg.setCell hc1 (a := ⟨q.fb i, 1, none⟩) (.inl (HA.out.mem.fb i HLV.out)) _⟩
end Go.Proofs.Ytmoaabjiokjjlaa
