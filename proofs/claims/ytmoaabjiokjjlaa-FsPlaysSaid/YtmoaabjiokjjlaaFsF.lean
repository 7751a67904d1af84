/- A change of names: change. -/
import Derived.Test.YtmoaabjiokjjlaaFsE
import Derived.Deep.CutBlock
namespace Go.Proofs.Ytmoaabjiokjjlaa
open Go.RowKit Go.Maps
set_option linter.unusedVariables false
set_option linter.unusedSimpArgs false

section
variable {w w' : World} {F F' : Nat → Prop} {q : Pl} {S S' : Fs} {N M : Nat}
theorem own_len (A : Option Addr) (n c n' c' : Nat) : (Value.slice A n c).ownBlock = (Value.slice A n' c').ownBlock := by cases A <;> rfl
/-- The names' map alone has changed. -/
theorem FsAt.stNow (h : FsAt w F q S) {l : Ns} (hm : MapN w' q.mn q.fb l) (hc : Chg (fun k => k = q.mn) w w') : FsAt w' F q { S with now := l } := by
  have hw : ∀ k, k ≠ q.mn → k < w.heap.size → w'.heap[k]? = w.heap[k]? := fun k hk hl => hc.block k hl hk
  refine ⟨h.cel.same (hw _ (kd_ne h.kp h.kn (by decide)) h.cel.blk), hm, h.last.same (hw _ (Ne.symm h.maps) h.last.lt), h.wait.heap fun k hk => hw k (kd_ne (h.kv hk) h.kn (by decide)) (h.wait.lt k hk).2, fun i hi => ?_, h.inj, h.rows, h.maps, h.lvl, h.lvw, h.nms, h.mem⟩
  obtain ⟨x, hx, hf⟩ := h.file i hi
  exact ⟨x, hx, FlAt.to h hw hf (kd_ne (h.kf hi) h.kn (by decide)) fun e => kd_ne (h.kr hi e) h.kn (by decide) rfl⟩
/-- A change is laid behind the changes. -/
theorem FsAt.stWait (h : FsAt w F q S) {v : Value} {c : Ch} (hg : w.grownBy w' q.vc.ownBlock) (ho : OwnS w' 0 73 1 v (S.wait.length + 1) (S.wait.map (chV q.fb) ++ [chV q.fb c]))
    (hv : ∀ k, v.ownBlock = some k → q.vc.ownBlock = some k ∨ w.heap.size ≤ k) (hc : ∀ i, chId c = some i → q.lv i) (hn : Nms c) :
    FsAt (w'.setCell ⟨q.p, 3, none⟩ v) (fun k => F k ∨ w.heap.size ≤ k) { q with vc := v } { S with wait := S.wait ++ [c] } := by
  have hw : ∀ k, k < w.heap.size → q.vc.ownBlock ≠ some k → k ≠ q.p → (w'.setCell ⟨q.p, 3, none⟩ v).heap[k]? = w.heap[k]? := fun k hk h1 h2 => (Below.heap_setCell _ _ _ _ h2).trans (hg.block k hk (Ne.symm h1))
  have hpv : q.vc.ownBlock ≠ some q.p := fun e => kd_ne (h.kv e) h.kp (by decide) rfl
  have hvp : v.ownBlock ≠ some q.p := fun e => by
    rcases hv _ e with h1 | h1
    · exact hpv h1
    · have := h.cel.blk
      omega
  have hcel : Cel w' q.p 61 6 (fsF q S) := h.cel.grown hg hpv
  refine ⟨(hcel.set 3 v).congr fun i hi => ?_, ?_, ?_, ?_, fun i hi => ?_, h.inj, h.rows, h.maps, h.lvl, fun d hd i hi => ?_, fun d hd => ?_, ?_⟩
  · have : i = 0 ∨ i = 1 ∨ i = 2 ∨ i = 3 ∨ i = 4 ∨ i = 5 := by omega
    rcases this with rfl | rfl | rfl | rfl | rfl | rfl <;> rfl
  · exact h.now.same (hw _ h.now.lt (fun e => kd_ne (h.kv e) h.kn (by decide) rfl) (kd_ne h.kn h.kp (by decide)))
  · exact h.last.same (hw _ h.last.lt (fun e => kd_ne (h.kv e) h.kl (by decide) rfl) (kd_ne h.kl h.kp (by decide)))
  · show OwnS _ 0 _ 1 v (S.wait ++ [c]).length ((S.wait ++ [c]).map (chV q.fb))
    rw [List.length_append, List.map_append]
    exact ho.heap fun k hk => Below.heap_setCell _ _ _ _ (fun e => hvp (by rw [hk]; exact congrArg some e))
  · obtain ⟨x, hx, hf⟩ := h.file i hi
    refine ⟨x, hx, hf.same (hw _ hf.cel.blk (fun e => kd_ne (h.kv e) (h.kf hi) (by decide) rfl) (kd_ne (h.kf hi) h.kp (by decide))) fun k hk => hw k (hf.own.lt k hk).2 (fun e => kd_ne (h.kv e) (h.kr hi hk) (by decide) rfl) (kd_ne (h.kr hi hk) h.kp (by decide))⟩
  · rcases List.mem_append.1 hd with hd | hd
    · exact h.lvw d hd i hi
    · rw [List.mem_singleton.1 hd] at hi; exact hc i hi
  · rcases List.mem_append.1 hd with hd | hd
    · exact h.nms d hd
    · rw [List.mem_singleton.1 hd]; exact hn
  · refine ⟨.inl h.mem.p, .inl h.mem.mn, .inl h.mem.ml, fun k hk => ?_, fun i hi => .inl (h.mem.fb i hi), fun i k hi hk => .inl (h.mem.fv i k hi hk)⟩
    rcases hv k hk with h1 | h1
    · exact .inl (h.mem.vc k h1)
    · exact .inr h1
end
/-- What 'apply' answers by way of the interface. -/
def ApM (fb : Nat → Nat) (l : Ns) (c : Ch) : Prop :=
  ∃ t x f r, chV fb c = .iface t x ∧ (∀ W, (method (Try.prog.types.size + Made.depth) t x "stemma/fs.apply").run Try.prog W = .ok (f, r) W) ∧ (∀ W, (nilAhead (Try.prog.types.size + Made.depth) t x "stemma/fs.apply").run Try.prog W = .ok (some false) W) ∧ (∀ W y, (callFunc f #[r, y]).run Try.prog W = .ok (.enter f #[r, y]) W) ∧ ∀ g W, MapN W g fb l → Calls Try.prog f #[r, .map (some g)] W (ApplyPost g fb l c W)
theorem apply_any (fb : Nat → Nat) (l : Ns) (n : Nat) (c : Ch) (hl : l.length < 1000000000) (hc : okC n l c) (hn : Nms c) : ApM fb l c := by
  cases c with
  | create m f => exact ⟨_, _, 105, .agg #[.string (bkN m), ptrV (fb f)], rfl, fun W => by kernel_rfl, fun W => by kernel_rfl, fun W y => enters_of Try.func105 (by kernel_rfl) rfl _ _, fun g W h => create_apply W g fb l m f h hl hn⟩
  | rename a b f => exact ⟨_, _, 106, .agg #[.string (bkN a), .string (bkN b)], rfl, fun W => by kernel_rfl, fun W => by kernel_rfl, fun W y => enters_of Try.func106 (by kernel_rfl) rfl _ _, fun g W h => rename_apply W g fb l a b f h hl hn.1 hn.2 hc.1⟩
  | remove m => exact ⟨_, _, 107, .agg #[.string (bkN m)], rfl, fun W => by kernel_rfl, fun W => by kernel_rfl, fun W y => enters_of Try.func107 (by kernel_rfl) rfl _ _, fun g W h => remove_apply W g fb l m h hn⟩
theorem mdepth : Try.prog.types.size + Made.depth = 252 := by kernel_rfl
theorem info_ch : (Try.prog.info? 73).map (fun i => (i.zero, i.size, i.bytes)) = some (some .nilIface, 1, 16) := by kernel_rfl
def ChangePost (F : Nat → Prop) (p : Nat) (S : Fs) (c : Ch) (w : World) (e : Ending) (w' : World) : Prop :=
  e = .returned (.int .i64 (if burnOk S then 0 else 50)) ∧ FsTo F p w (if burnOk S then changeF (burnF S) c else burnF S) w'
set_option maxRecDepth 100000 in
set_option maxHeartbeats 2000000 in
theorem change_any (w : World) (F : Nat → Prop) (q : Pl) (S : Fs) (N : Nat) (c : Ch) (h : FsAt w F q S) (hI : Inv N 16777216 S) (hN : N ≤ 1000000) (hc : okC S.files.length S.now c) (hl : ∀ i, chId c = some i → q.lv i) (hn : Nms c) :
    Calls Try.prog 33 #[ptrV q.p, chV q.fb c] w (ChangePost F q.p S c w) := by
  obtain ⟨i0, hi, hz0, hz1, hz2⟩ := info_parts info_ch
  have HB := Lib.hid (burn_any w F q S h hI.fus)
  have hAM := apply_any q.fb S.now S.files.length c (by have := hI.lenNow; omega) hc hn
  obtain ⟨t, x, f, r, hcv, hme, hni, hca, hap⟩ := hAM
  have HAP := Lib.hid hap
  have HCV := Lib.hid hcv
  have HN := Lib.hid hI.lenNow
  have HW := Lib.hid hI.wt
  have HNN := Lib.hid hN
  have HL := Lib.hid hl
  have HNM := Lib.hid hn
  have HPO : Hid (∀ e w', ChangePost F q.p S c w e w' = (e = .returned (.int .i64 (if burnOk S then 0 else 50)) ∧ FsTo F q.p w (if burnOk S then changeF (burnF S) c else burnF S) w')) := Lib.hid (fun _ _ => rfl)
  generalize ChangePost F q.p S c w = POST at *
  unfold BurnPost at HB
  rw [hcv]
  clear h hI hap hcv hc hl hn hN
  unfold ptrV at *
  go_enter Try.func33, Try.ntmps33
  cases hb : burnOk S
  · rw [hb] at HB
    have HBK := Lib.hid hb
    clear hb
    go_wp2_with fail
    refine HB.out.mono ?_
    rintro e w1 ⟨rfl, hA, hC⟩
    have HF : Hid (FsTo F q.p w (burnF S) w1) := Lib.hid ⟨q, hA.mono fun k hk => .inl hk, rfl, hC.mono fun k _ hk => by rw [hk]; exact hA.mem.p⟩
    clear hA hC
    simp only [Bool.false_eq_true, if_false]
    go_wp2
    rw [HPO.out, HBK.out]
    exact ⟨rfl, HF.out⟩
  · rw [hb] at HB
    have HBK := Lib.hid hb
    clear hb
    go_wp2_with fail
    refine HB.out.mono ?_
    rintro e w1 ⟨rfl, hA, hC⟩
    have c1 := hA.c1
    have HA := Lib.hid hA
    have HC := Lib.hid hC
    have HCA := Lib.hid (HAP.out q.mn w1.drew hA.drew.now)
    unfold ApplyPost at HCA
    have HCD := Lib.hid ((Chg.refl (fun k => k = q.p ∨ k = q.mn) w1).drew)
    clear hA hC
    rw [mdepth] at hme hni
    go_upto_region 4 with (fail)
    go_cut [] (fun wx => FsAt wx F q { burnF S with now := applyC S.now c } ∧ Chg (fun k => k = q.p ∨ k = q.mn) w wx)
    case first => as_aux_lemma =>
      go_region_with (refine HCA.out.mono ?_; rintro e w2 ⟨rfl, hm2, hc2⟩)
      all_goals (go_wp2_with fail; go_meet; exact ⟨HA.out.drew.stNow hm2 hc2, (HC.out.mono (fun k _ hk => .inl hk)).trans (HCD.out.trans hc2 (fun k _ hk => .inr hk)) (fun k _ hk => hk)⟩)
    case rest =>
      obtain ⟨hA2, hC2⟩ := hcut
      clear c1 HCA HCD HA HC hme hni
      obtain ⟨A, cc, hvc⟩ := hA2.wait.shape
      have c3 := hA2.c3
      have HO := hA2.wait
      rw [hvc] at c3 HO
      have hwx : Below wc.heap.size wc (wc.alloc (.cells #[.iface t x] 73)) := (Below.refl _ _).alloc (Nat.le_refl _) _
      have HOA := Lib.hid (HO.alloc (.cells #[.iface t x] 73))
      have HSR := Lib.hid (Src.one_new (P := Try.prog) (w := wc) (u := .iface t x) (t := 73) rfl)
      have hlw : S.wait.length ≤ 1000000 := Nat.le_trans HW.out HNN.out
      have hvo : q.vc.ownBlock ≠ some q.p := fun e => kd_ne (hA2.kv e) hA2.kp (by decide) rfl
      have HVO : Hid (∀ n c' : Nat, (Value.slice A n c').ownBlock ≠ some q.p) := Lib.hid (fun n c' e => hvo (by rw [hvc, own_len A _ _ n c']; exact e))
      have HVE : Hid (∀ n c' : Nat, (Value.slice A n c').ownBlock = q.vc.ownBlock) := Lib.hid (fun n c' => by rw [hvc]; exact own_len A _ _ _ _)
      have HA2 := Lib.hid hA2
      have HC2 := Lib.hid hC2
      have HVC := Lib.hid hvc
      have HBX := Lib.hid hwx
      have hbz : (0 : Nat) ≤ (wc.alloc (.cells #[.iface t x] 73)).heap.size := Nat.zero_le _
      clear hA2 hC2 HO hvc hwx hvo
      change Hid (OwnS _ 0 _ 1 (.slice A S.wait.length cc) S.wait.length (S.wait.map (chV q.fb))) at HOA
      change wc.cell? _ = some (.slice A S.wait.length cc) at c3
      generalize hwl : S.wait.length = wl at *
      have hm1 : wl + 1 ≤ maxLen := by unfold maxLen; omega
      have hb1 : (wl + 1) * 16 ≤ 140737488355328 := by omega
      have HWL := Lib.hid hwl
      clear hwl
      have HCL : Hid (∀ w9, (wc.alloc (.cells #[.iface t x] 73)).grownBy w9 (Value.slice A wl cc).ownBlock → Cel w9 q.p 61 6 (fsF q { burnF S with now := applyC S.now c })) := Lib.hid (fun w9 hg9 => (HA2.out.cel.below HBX.out HA2.out.cel.blk).grown hg9 (HVO.out _ _))
      go_wp2_with (at_builtin; go_loud (refine wpList_append_S rfl (.tmp 24) (.tmp 26) 59 59 rfl i0 .nilIface 16 (.slice 73) Try.underlying59 Try.underlying59 (fun _ h => by cases h) hi hz0 hz1 hz2 rfl rfl rfl HOA.out HSR.out hm1 hb1 hbz ?_); intro A9 c9 w9 ho9 hg9 hw9; have f3 := (HCL.out w9 hg9).frozen 3; have y3 := (HCL.out w9 hg9).cell 3 (by decide))
      rw [HPO.out, HBK.out, if_pos rfl, if_pos rfl]
      have hgw : wc.grownBy w9 q.vc.ownBlock := by
        rw [← HVE.out wl cc]
        exact World.grownBy.andThen (World.grownBy_alloc wc _ _) hg9 (fun j hj => .inr hj)
      have hvv : ∀ k, (Value.slice A9 (wl + 1) c9).ownBlock = some k → q.vc.ownBlock = some k ∨ wc.heap.size ≤ k := by
        intro k hk
        rcases hw9 with h | h
        · left; rw [← HVE.out wl cc]; exact h.symm.trans hk
        · right
          rw [h] at hk
          injection hk with hk
          have : (wc.alloc (.cells #[.iface t x] 73)).heap.size = wc.heap.size + 1 := by simp
          omega
      have hst := HA2.out.stWait (v := .slice A9 (wl + 1) c9) (c := c) hgw (by rw [HCV.out]; show OwnS _ 0 _ 1 _ (S.wait.length + 1) (S.wait.map (chV q.fb) ++ _); rw [HWL.out]; exact ho9) hvv HL.out HNM.out
      have hcg : Chg F w wc := HC2.out.mono fun k _ hk => by
        rcases hk with rfl | rfl
        · exact HA2.out.mem.p
        · exact HA2.out.mem.mn
      refine ⟨rfl, _, hst.mono fun k hk => ?_, rfl, ?_⟩
      · rcases hk with hk | hk
        · exact .inl hk
        · exact .inr (Nat.le_trans hcg.size hk)
      · exact Chg.setCell (hcg.trans (Chg.of_grown (S := F) hgw (fun k hk => HA2.out.mem.vc k hk)) (fun _ _ h => h)) (a := ⟨q.p, 3, none⟩) (.inl HA2.out.mem.p) _
end Go.Proofs.Ytmoaabjiokjjlaa
