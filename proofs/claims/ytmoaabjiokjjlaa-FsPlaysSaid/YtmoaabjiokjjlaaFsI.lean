/- Append. -/
import Derived.Test.YtmoaabjiokjjlaaFsH
namespace Go.Proofs.Ytmoaabjiokjjlaa
open Go.RowKit Go.Maps
set_option linter.unusedVariables false
set_option linter.unusedSimpArgs false

theorem Ints.chg0 {S : Nat → Prop} {w w1 : World} {k : IntKind} {A : Option Addr} {xs : List Int} (h : Ints k w A xs) (hc : Chg S w w1) (hn : 0 < xs.length → ∀ b o, A = some ⟨b, o, none⟩ → ¬ S b) : Ints k w1 A xs := fun hl => (h.chg hc (hn hl)) hl
theorem Ints.lt0 {w : World} {k : IntKind} {A : Option Addr} {xs : List Int} (h : Ints k w A xs) (hl : 0 < xs.length) (b o : Nat) (e : A = some ⟨b, o, none⟩) : b < w.heap.size := by
  obtain ⟨b', o', e', hlt, _⟩ := h hl
  rw [e] at e'
  injection e' with e'
  injection e' with e1
  rw [e1]; exact hlt
def AppPost (F : Nat → Prop) (p : Nat) (S : Fs) (n : Nm) (xs : List Int) (w : World) (e : Ending) (w' : World) : Prop :=
  e = .returned (.int .i64 (appendF S n xs).1) ∧ FsTo F p w (appendF S n xs).2 w'
set_option maxRecDepth 100000 in
set_option maxHeartbeats 4000000 in
theorem append_any (w : World) (F : Nat → Prop) (q : Pl) (S : Fs) (N : Nat) (h : FsAt w F q S) (hI : Inv N 16777216 S) (hN : N ≤ 1000000) (s : ByteArray) (hs : s.size ≤ 9223372036854775807)
    (A : Option Addr) (n c : Nat) (xs : List Int) (hx : Ints .u8 w A xs) (hn : xs.length = n) (hnb : n ≤ 9223372036854775807) (hA : 0 < xs.length → ∀ b o, A = some ⟨b, o, none⟩ → ¬ F b) :
    Calls Try.prog 11 #[ptrV q.p, .string s, .slice A n c] w (AppPost F q.p S s.data.toList xs w) := by
  obtain ⟨i0, hi0, hz0, hz1, hz2⟩ := info_parts info_u8'
  have HOF := Lib.hid (of_any w F q S h s hs)
  have HBN := Lib.hid (fun (W : World) (hA : FsAt W F q S) => burn_any W F q S hA hI.fus)
  have HUS := Lib.hid (fun (W : World) (hA : FsAt W F q S) => used_any W F q S N hA hI hN)
  have HPO : Hid (∀ e w', AppPost F q.p S s.data.toList xs w e w' = (e = .returned (.int .i64 (appendF S s.data.toList xs).1) ∧ FsTo F q.p w (appendF S s.data.toList xs).2 w')) := Lib.hid (fun _ _ => rfl)
  have HSY : Hid (appendF S s.data.toList xs = if ofF S s.data.toList ≠ 0 then (ofF S s.data.toList, S) else if (xs.length : Int) > S.quota - usedF S then (60, S) else if burnOk S = false then (50, burnF S) else (0, modF (burnF S) s.data.toList fun y => { y with b := y.b ++ xs })) := Lib.hid rfl
  generalize AppPost F q.p S s.data.toList xs w = POST at *
  have HH := Lib.hid h
  have HI := Lib.hid hI
  have HXS := Lib.hid hx
  have HNE : Hid (0 < xs.length → ∀ b o, A = some ⟨b, o, none⟩ → b ≠ q.p) := Lib.hid (fun hl b o e e2 => hA hl b o e (e2 ▸ h.mem.p))
  have HN := Lib.hid hn
  have hub : usedF S ≤ 16777216000000 := Nat.le_trans hI.used (Nat.mul_le_mul_right _ hN)
  have hquo := hI.quo
  have hle : ∀ i, getN S.now s.data.toList = some i → lenF S i ≤ usedF S := fun i hg => lenF_le hI.upNow hg
  have HLE := Lib.hid hle
  rw [hn] at HSY
  unfold OfPost at HOF
  unfold BurnPost at HBN
  generalize ofF S s.data.toList = of at *
  generalize usedF S = us at *
  generalize hqu : S.quota = qu at *
  have HQU := Lib.hid hqu
  clear h hI hs hx hA hn hle hqu
  unfold ptrV at *
  go_enter Try.func11, Try.ntmps11
  go_wp2_with fail
  refine HOF.out.mono ?_
  rintro e w1 ⟨hb, ⟨hne, rfl⟩ | ⟨rfl, i, hg, rfl⟩⟩
  · have q1 : (of != 0) = true := by simp [hne]
    have HS : Hid (appendF S s.data.toList xs = (of, S)) := Lib.hid (by rw [HSY.out, if_pos hne])
    have HB := Lib.hid hb
    clear hne hb
    go_wp2
    rw [HPO.out, HS.out]
    exact ⟨rfl, q, (HH.out.below HB.out).mono fun k hk => .inl hk, rfl, Chg.of_below HB.out⟩
  · have HB := Lib.hid hb
    have hA1 := HH.out.below hb
    have HLV := Lib.hid (HH.out.get HI.out hg)
    have c0 : w1.cell? ⟨q.p, 0, none⟩ = some (.int .i64 qu) := by rw [← HQU.out]; exact hA1.c0
    have HUC := Lib.hid (HUS.out w1.drew hA1.drew)
    have HA1 := Lib.hid hA1
    have HG := Lib.hid hg
    have hsub : IntKind.i64.wrap (qu - (us : Int)) = qu - (us : Int) := IntWalk.i64_in _ (by omega)
    clear hb hg hA1
    go_upto_region 4 with (fail)
    go_cut [28] (fun v wx => v = .bool (decide ((n : Int) > qu - us)) ∧ Below w.heap.size w wx)
    case first => as_aux_lemma =>
      go_region_with (go_at_call 16; refine HUC.out.mono ?_; rintro e w2 ⟨rfl, hb2⟩; have c02 : w2.cell? ⟨q.p, 0, none⟩ = some (.int .i64 qu) := (hb2.cell (p := ⟨q.p, 0, none⟩) HA1.out.cel.blk).trans c0)
      all_goals (go_wp2_with fail; go_meet; exact ⟨rfl, HB.out.trans ((((Below.refl w1.heap.size w1).drew).trans hb2).mono HB.out.size)⟩)
    case rest =>
      obtain ⟨rfl, hbc⟩ := hcut
      clear c0 HUC hsub
      have hA2 := HH.out.below hbc
      have HBC := Lib.hid (HBN.out wc hA2)
      have HA2 := Lib.hid hA2
      have HBD := Lib.hid hbc
      clear hA2 hbc
      by_cases hq : (n : Int) > qu - us
      · have d1 : decide ((n : Int) > qu - us) = true := decide_eq_true hq
        have HS : Hid (appendF S s.data.toList xs = (60, S)) := Lib.hid (by rw [HSY.out, if_neg (by decide), if_pos hq])
        rw [d1]
        clear hq d1
        go_wp2
        rw [HPO.out, HS.out]
        exact ⟨rfl, q, HA2.out.mono fun k hk => .inl hk, rfl, Chg.of_below HBD.out⟩
      · have d1 : decide ((n : Int) > qu - us) = false := decide_eq_false hq
        rw [d1]
        cases hbo : burnOk S
        · rw [hbo] at HBC
          have HS : Hid (appendF S s.data.toList xs = (50, burnF S)) := Lib.hid (by rw [HSY.out, if_neg (by decide), if_neg hq, if_pos hbo])
          clear hbo hq d1
          simp only [Bool.false_eq_true, if_false] at HBC
          go_wp2_with fail
          refine HBC.out.mono ?_
          rintro e w2 ⟨rfl, hA, hC⟩
          have HF := Lib.hid (burn_to HBD.out hA hC)
          clear hA hC
          go_wp2
          rw [HPO.out, HS.out]
          exact ⟨rfl, HF.out⟩
        · rw [hbo] at HBC
          have HS : Hid (appendF S s.data.toList xs = (0, modF (burnF S) s.data.toList fun y => { y with b := y.b ++ xs })) := Lib.hid (by rw [HSY.out, if_neg (by decide), if_neg hq, if_neg (by rw [hbo]; decide)])
          have HQ := Lib.hid hq
          clear hbo d1 hq
          simp only [if_true] at HBC
          go_wp2_with fail
          refine HBC.out.mono ?_
          rintro e w2 ⟨rfl, hA, hC⟩
          obtain ⟨x, hx, hf⟩ := hA.file i HLV.out
          obtain ⟨B, cc, hv⟩ := hf.own.shape
          have c0 : w2.cell? ⟨q.fb i, 0, none⟩ = some (.slice B x.b.length cc) := (hf.cel.cell 0 (by decide)).trans (by show some (q.fv i) = _; rw [hv])
          have ho := hf.own
          rw [hv] at ho
          have HO := Lib.hid ho
          have hll : lenF S i = x.b.length := by
            unfold lenF
            rw [show S.files[i]? = some x from hx]
            rfl
          have hxl : x.b.length + n ≤ 16777216 := by
            have h1 := HLE.out i HG.out
            have h2 := HQ.out
            rw [hll] at h1
            omega
          have hxi : Ints .u8 w2 A xs := (HXS.out.below HBD.out).chg0 hC (fun hl b o e1 e2 => HNE.out hl b o e1 e2)
          have hsr := Src.ints (P := Try.prog) (c := c) hxi
          rw [HN.out] at hsr
          have HSR := Lib.hid hsr
          have hne : (q.fv i).ownBlock ≠ some (q.fb i) := fun e => kd_ne (hA.kr HLV.out e) (hA.kf HLV.out) (by decide) rfl
          have HVE : Hid (∀ n c' : Nat, (Value.slice B n c').ownBlock = (q.fv i).ownBlock) := Lib.hid (fun n c' => by rw [hv]; exact own_len B _ _ _ _)
          have HVO : Hid (∀ n c' : Nat, (Value.slice B n c').ownBlock ≠ some (q.fb i)) := Lib.hid (fun n c' e => hne (by rw [← HVE.out n c']; exact e))
          have HF := Lib.hid hf
          have HX := Lib.hid hx
          have HA := Lib.hid hA
          have HC := Lib.hid hC
          have hbz : (0 : Nat) ≤ w2.heap.size := Nat.zero_le _
          clear hf hx hA hC hv hxi hsr hll hne ho HBN HUS HOF HBC
          generalize hxb : x.b.length = xl at *
          have HXB := Lib.hid hxb
          have hm1 : xl + n ≤ maxLen := by unfold maxLen; omega
          have hb1 : (xl + n) * 1 ≤ 140737488355328 := by omega
          clear hxb
          have HCL : Hid (∀ w9, w2.grownBy w9 (Value.slice B xl cc).ownBlock → Cel w9 (q.fb i) 66 2 (flF (q.fv i) x)) := Lib.hid (fun w9 hg9 => HF.out.cel.grown hg9 (HVO.out _ _))
          generalize hfg : q.fb i = fg at *
          have HFG := Lib.hid hfg
          clear hfg
          go_wp2_with (at_builtin; go_loud (refine wpList_append_S rfl (.tmp 38) (.tmp 39) 27 27 rfl i0 (.int .u8 0) 1 (.slice 5) Try.underlying27 Try.underlying27 (fun _ h => by cases h) hi0 hz0 hz1 hz2 rfl rfl rfl HO.out HSR.out hm1 hb1 hbz ?_); intro A9 c9 w9 ho9 hg9 hw9; have f0 := (HCL.out w9 hg9).frozen 0; have y0 := (HCL.out w9 hg9).cell 0 (by decide))
          rw [HPO.out, HS.out]
          refine ⟨rfl, ?_⟩
          have hgw : w2.grownBy w9 (q.fv i).ownBlock := by rw [← HVE.out xl cc]; exact hg9
          have hvv : ∀ k, (Value.slice A9 (xl + n) c9).ownBlock = some k → (q.fv i).ownBlock = some k ∨ w2.heap.size ≤ k := by
            intro k hk
            rcases hw9 with h | h
            · left; rw [← HVE.out xl cc]; exact h.symm.trans hk
            · right
              rw [h] at hk
              injection hk with hk
              omega
          have hov : (Value.slice A9 (xl + n) c9).ownBlock ≠ some fg := fun e => by
            rcases hvv fg e with h | h
            · exact HVO.out 0 0 (by rw [HVE.out]; exact h)
            · have := HF.out.cel.blk; omega
          have hst := HA.out.stFile HLV.out (w' := w9.setCell ⟨fg, 0, none⟩ (.slice A9 (xl + n) c9)) (v := .slice A9 (xl + n) c9) (x := { x with b := x.b ++ xs })
            (fun k hk h1 h2 => (Below.heap_setCell _ _ _ _ (by rw [← HFG.out]; exact h1)).trans (hgw.block k hk (fun e => h2 e.symm)))
            (by
              rw [HFG.out]
              refine ⟨((HCL.out w9 hg9).set 0 _).congr (flF_b _ _ _ _), ?_⟩
              have := ho9.setFar (a := ⟨fg, 0, none⟩) hov (.slice A9 (xl + n) c9)
              show OwnS _ 0 _ 1 _ (x.b ++ xs).length ((x.b ++ xs).map (Value.int .u8))
              rw [List.length_append, HXB.out, HN.out, List.map_append]
              exact this) hvv
          have he := modF_at (S := burnF S) (fun y : Fl => { y with b := y.b ++ xs }) HG.out HX.out
          rw [he]
          have hc1 : Chg F w w2 := (Chg.of_below (S := F) HBD.out).trans (HC.out.mono fun k _ hk => by rw [hk]; exact HA.out.mem.p) (fun _ _ h => h)
          have hc2 : Chg F w w9 := hc1.trans (Chg.of_grown (S := F) hgw (fun k hk => HA.out.mem.fv i k HLV.out hk)) (fun _ _ h => h)
          exact ⟨_, hst.mono fun k hk => hk.elim .inl (fun hk => .inr (Nat.le_trans hc1.size hk)), rfl, Chg.setCell hc2 (a := ⟨fg, 0, none⟩) (.inl (by rw [← HFG.out]; exact HA.out.mem.fb i HLV.out)) _⟩
end Go.Proofs.Ytmoaabjiokjjlaa
