/- Crash. -/
import Derived.Test.YtmoaabjiokjjlaaFsN
namespace Go.Proofs.Ytmoaabjiokjjlaa
open Go.RowKit Go.Maps
set_option linter.unusedVariables false
set_option linter.unusedSimpArgs false

theorem cutsF_snoc (D : List Int) (p : Nm × Nat) : ∀ (l : Ns) (i : Nat) (F : List Fl), cutsF D i (l ++ [p]) F = (cutsF D i l F).modify p.2 (cutF D (i + l.length))
  | [], i, F => rfl
  | x :: r, i, F => by
    rw [List.cons_append, cutsF, cutsF, cutsF_snoc D p r (i + 1)]
    congr 2
    simp; omega
theorem okW_at {n : Nat} : ∀ {W : List Ch} {l : Ns} {k : Nat} {c : Ch}, okW n l W → W[k]? = some c → okC n (repl l (W.take k)) c
  | [], _, _, _, _, h => by simp at h
  | d :: W, l, 0, c, hW, h => by
    simp at h; subst h
    exact hW.1
  | d :: W, l, k + 1, c, hW, h => okW_at (W := W) (l := applyC l d) hW.2 (by simpa using h)
theorem repl_take_succ {l : Ns} {W : List Ch} {k : Nat} {c : Ch} (h : W[k]? = some c) : repl l (W.take (k + 1)) = applyC (repl l (W.take k)) c := by
  rw [List.take_add_one, h]
  exact repl_snoc _ _ _
section
variable {w w' : World} {F F' : Nat → Prop} {q : Pl} {S S' : Fs} {N M : Nat}
theorem FsAt.inF (h : FsAt w F' q S) (hm : q.In F) : FsAt w F q S := ⟨h.cel, h.now, h.last, h.wait, h.file, h.inj, h.rows, h.maps, h.lvl, h.lvw, h.nms, hm⟩
/-- One file has changed, within its own row. -/
theorem FsAt.stIn (h : FsAt w F q S) {i : Nat} (hi : q.lv i) {v : Value} {x : Fl} (hw : ∀ k, k < w.heap.size → k ≠ q.fb i → (q.fv i).ownBlock ≠ some k → w'.heap[k]? = w.heap[k]?)
    (hf : FlAt w' (q.fb i) v x) (hv : ∀ k, v.ownBlock = some k → (q.fv i).ownBlock = some k) :
    FsAt w' F { q with fv := updF q.fv i v } { S with files := S.files.set i x } := by
  refine (h.stFile hi hw hf (fun k hk => .inl (hv k hk))).inF ⟨h.mem.p, h.mem.mn, h.mem.ml, h.mem.vc, h.mem.fb, fun j k hj hk => ?_⟩
  have hk' : (updF q.fv i v j).ownBlock = some k := hk
  unfold updF at hk'
  split at hk'
  · exact h.mem.fv i k hi (hv k hk')
  · exact h.mem.fv j k hj hk'
end
theorem OwnS.cutTo {w : World} {base n c k : Nat} {e : TypeId} {A : Option Addr} {xs : List Value} (h : OwnS w base e 1 (.slice A n c) n xs) (hk : k ≤ n) : OwnS w base e 1 (.slice A k c) k (xs.take k) := by
  have hl := h.1
  refine ⟨by rw [List.length_take, hl]; omega, ?_⟩
  rcases h.2 with ⟨hv, rfl⟩ | ⟨g, off, cap, cur, hv, hb, hg, hn, hm, hs, ht⟩
  · injection hv with hA _ hc
    subst hA; subst hc
    exact .inl ⟨by rw [show k = 0 by omega], by omega⟩
  · injection hv with hA _ hc
    subst hA; subst hc
    refine .inr ⟨g, off, c, cur, rfl, hb, hg, by omega, hm, hs, ?_⟩
    rw [← ht, List.take_take]
    congr 1
    omega
def CrashPost (F : Nat → Prop) (p : Nat) (S : Fs) (k : Int) (D : List Int) (w : World) (e : Ending) (w' : World) : Prop :=
  e = .returned (.tuple #[]) ∧ FsTo F p w (crashF S k D) w'
set_option maxRecDepth 100000 in
set_option maxHeartbeats 4000000 in
theorem crash_any (w : World) (F : Nat → Prop) (q : Pl) (S : Fs) (N : Nat) (h : FsAt w F q S) (hI : Inv N 16777216 S) (hN : N ≤ 1000000) (k : Int)
    (A : Option Addr) (n c : Nat) (D : List Int) (hD : Ints .i64 w A D) (hn : D.length = n) (hnb : n ≤ 9223372036854775807) (hA : 0 < D.length → ∀ b o, A = some ⟨b, o, none⟩ → ¬ F b) :
    Calls Try.prog 12 #[ptrV q.p, .int .i64 k, .slice A n c] w (CrashPost F q.p S k D w) := by
  have HPO : Hid (∀ e w', CrashPost F q.p S k D w e w' = (e = .returned (.tuple #[]) ∧ FsTo F q.p w (crashF S k D) w')) := Lib.hid (fun _ _ => rfl)
  generalize CrashPost F q.p S k D w = POST at *
  have HH := Lib.hid h
  have HI := Lib.hid hI
  have HDD := Lib.hid hD
  have HNE := Lib.hid hA
  have HN := Lib.hid hn
  have HNN := Lib.hid hN
  have c2 := h.c2
  have HCL := Lib.hid (clone_map w q.ml q.fb S.last h.last)
  clear h hI hD hA hn hN
  unfold ptrV at *
  go_enter Try.func12, Try.ntmps12
  go_wp2_with fail
  refine HCL.out.mono ?_
  rintro e w1 ⟨rfl, hm, hb⟩
  have h1 := HH.out.below hb
  have f1 := h1.fz 1
  obtain ⟨z1, y1⟩ : ∃ z, w1.cell? ⟨q.p, 1, none⟩ = some z := ⟨_, h1.c1⟩
  have HB := Lib.hid hb
  have H1 := Lib.hid h1
  have HM := Lib.hid hm
  clear hm hb h1 c2
  go_upto_region 1 with (fail)
  have hpl : q.p < w1.heap.size := H1.out.cel.blk
  have hwl : q.p < w.heap.size := HH.out.cel.blk
  have H2 : Hid (FsAt (w1.setCell ⟨q.p, 1, none⟩ (.map (some w.heap.size))) (fun k => F k ∨ w.heap.size ≤ k) { q with mn := w.heap.size, ml := q.ml, vc := q.vc } { S with now := S.last }) := Lib.hid (by
    have hw : ∀ k, k ≠ q.p → (w1.setCell ⟨q.p, 1, none⟩ (.map (some w.heap.size))).heap[k]? = w1.heap[k]? := fun k hk => Below.heap_setCell _ _ _ _ hk
    refine H1.out.reP (fun k hk _ => hw k hk) ((H1.out.cel.set 1 _).congr fun i hi => ?_) (HM.out.same (hw _ (by omega))) (H1.out.last.same (hw _ (kd_ne H1.out.kl H1.out.kp (by decide)))) (H1.out.wait.setFar (fun e => kd_ne (H1.out.kv e) H1.out.kp (by decide) rfl) _) rfl ?_ H1.out.lvl H1.out.lvw H1.out.nms (fun k hk => .inl hk) (.inr (Nat.le_refl _)) (.inl H1.out.mem.ml) (fun k hk => .inl (H1.out.mem.vc k hk))
    · have : i = 0 ∨ i = 1 ∨ i = 2 ∨ i = 3 ∨ i = 4 ∨ i = 5 := by omega
      rcases this with rfl | rfl | rfl | rfl | rfl | rfl <;> rfl
    · have := HH.out.last.lt; omega)
  have HC2 : Hid (Chg F w (w1.setCell ⟨q.p, 1, none⟩ (.map (some w.heap.size)))) := Lib.hid (Chg.setCell (Chg.of_below HB.out) (a := ⟨q.p, 1, none⟩) (.inl HH.out.mem.p) _)
  generalize w1.setCell ⟨q.p, 1, none⟩ (.map (some w.heap.size)) = w2 at *
  have hmn : w.heap.size < w2.heap.size := H2.out.now.lt
  clear HB H1 HM HCL f1 y1 hpl
  obtain ⟨Aw, cw, hvc⟩ := H2.out.wait.shape
  have c3 := H2.out.c3
  have hcw := H2.out.wait
  rw [hvc] at hcw c3
  have hcap : S.wait.length ≤ cw := hcw.cap
  have hwt : S.wait.length ≤ 1000000 := Nat.le_trans HI.out.wt HNN.out
  have hcm : cw ≤ 9223372036854775807 := by
    rcases hcw.2 with ⟨hv, _⟩ | ⟨g', off, cap, cur, hv, _, _, _, hm', _⟩
    · injection hv with _ _ hc; omega
    · injection hv with _ _ hc
      unfold maxLen at hm'
      omega
  have HVC := Lib.hid hvc
  have HWC := Lib.hid hcw
  generalize hm : (min (max k 0) S.wait.length).toNat = m at *
  generalize hwl2 : S.wait.length = wl at *
  have e1 : max k 0 = ((max k 0).toNat : Int) := by omega
  generalize hkm : (max k 0).toNat = km at *
  have hmwl : m ≤ wl := by omega
  have e2 : min (km : Int) (wl : Int) = (m : Int) := by omega
  have e2' : min km wl = m := by omega
  have s1 : (m : Int) ≤ (cw : Int) := by omega
  have s2 : m ≤ cw := by omega
  have HM := Lib.hid hm
  have HWL := Lib.hid hwl2
  have HMW := Lib.hid hmwl
  clear hm hwl2 hkm hcap hwt hcm hvc hcw hmwl
  change w2.cell? _ = some (.slice Aw wl cw) at c3
  change w2.cell? ⟨q.p, 3, none⟩ = _ at c3
  go_cut [32, 33, 34] (fun v32 v33 v34 wx => v32 = .slice Aw m cw ∧ v33 = .int .i64 m ∧ v34 = .int .i64 0 ∧ ∃ nq, wx = w2.drewN nq)
  case first => as_aux_lemma =>
    go_quiet (fail)
    go_wp2_with fail
    go_meet
    exact ⟨rfl, by first | rfl | (congr 1; omega), rfl, _, rfl⟩
  case rest =>
    obtain ⟨rfl, rfl, rfl, nq, rfl⟩ := hcut
    clear e1 e2 e2' s1 s2 c3
    have H3 := Lib.hid (H2.out.drewN nq)
    have HC3 := Lib.hid (HC2.out.drewN nq)
    have hmn3 : w.heap.size < (w2.drewN nq).heap.size := hmn
    generalize w2.drewN nq = w3 at *
    clear H2 HC2 hmn
    go_wp2
    go_loopw [34, 7] (fun vi _ wr => ∃ j : Nat, vi = .int .i64 j ∧ j ≤ m ∧ FsAt wr (fun k => F k ∨ w.heap.size ≤ k) { q with mn := w.heap.size, ml := q.ml, vc := q.vc } { S with now := repl S.last (S.wait.take j) } ∧ Chg (fun k => k = w.heap.size) w3 wr) (fun vi _ _ => m - (intOf vi).toNat)
    case atStart => exact ⟨0, rfl, Nat.zero_le _, H3.out, Chg.refl _ _⟩
    case round =>
      obtain ⟨j, rfl, hj, hA, hC⟩ := hrel
      by_cases hlt : j < m
      · have hwlen : S.wait.length = wl := HWL.out
        obtain ⟨ch, hch⟩ : ∃ ch, S.wait[j]? = some ch := ⟨_, List.getElem?_eq_getElem (by rw [hwlen]; have := HMW.out; omega)⟩
        have hok := okW_at HI.out.ok hch
        have hnm := HH.out.nms ch (List.mem_of_getElem? hch)
        have hln := HI.out.len j
        have hNN := HNN.out
        obtain ⟨t, x, f, r, hcv, hme, hni, hca, hap⟩ := apply_any q.fb (repl S.last (S.wait.take j)) _ ch (by omega) hok hnm
        have hwa := hA.wait
        change OwnS wr 0 _ 1 q.vc S.wait.length (S.wait.map (chV q.fb)) at hwa
        rw [show q.vc = .slice Aw wl cw from HVC.out, hwlen] at hwa
        obtain ⟨g, off, c', hv, _, hgl, hcell⟩ := hwa.cells (by rw [List.length_map, hwlen]; have := HMW.out; omega)
        injection hv with hAw _ hcc
        subst hAw
        subst hcc
        have r0 : wr.cell? ⟨g, off + j, none⟩ = some (.iface t x) := by
          rw [hcell j (by rw [List.length_map, hwlen]; have := HMW.out; omega), List.getElem?_map, hch, ← hcv]
          rfl
        have c1 := hA.c1
        change wr.cell? ⟨q.p, 1, none⟩ = some (.map (some w.heap.size)) at c1
        have HCA := Lib.hid (hap w.heap.size wr.drew hA.drew.now)
        unfold ApplyPost at HCA
        have HCD := Lib.hid ((Chg.refl (fun k => k = w.heap.size) wr).drew)
        have HA := Lib.hid hA
        have HC := Lib.hid hC
        have HRP := Lib.hid (repl_take_succ (l := S.last) hch)
        have d2 : decide ((j : Int) < (m : Int)) = true := decide_eq_true (by omega)
        have d2' : decide (j < m) = true := decide_eq_true hlt
        have hjm : m ≤ 1000000 := by
          have h1 := HMW.out
          have h2 := HI.out.wt
          omega
        clear hok hnm hln hNN hcv hap hwa hcell hgl hA hC hch hwlen
        rw [mdepth] at hme hni
        go_upto_region 4 with (fail)
        go_region_with (refine HCA.out.mono ?_; rintro e w4 ⟨rfl, hm4, hc4⟩; rw [← HRP.out] at hm4; have HA5 := Lib.hid (HA.out.drew.stNow hm4 hc4); have HC5 := Lib.hid (HC.out.trans (HCD.out.trans hc4 (fun _ _ h => h)) (fun _ _ h => h)); clear hm4 hc4)
        all_goals (go_wp2; go_roundw; (case rel => exact ⟨j + 1, rfl, by omega, HA5.out, HC5.out⟩); (case measure => simp [intOf]; omega))
      · obtain rfl : j = m := by omega
        have d2 : decide ((j : Int) < (j : Int)) = false := decide_eq_false (by omega)
        have d2' : decide (j < j) = false := decide_eq_false (by omega)
        have HUP : Hid (Up (repl S.last (S.wait.take j))) := Lib.hid (repl_up HI.out.up _)
        have HLN : Hid ((repl S.last (S.wait.take j)).length ≤ N) := Lib.hid (HI.out.len j)
        have HA := Lib.hid hA.bound
        have HC : Hid (Chg (fun k => F k ∨ w.heap.size ≤ k) w wr) := Lib.hid ((HC3.out.mono (fun k _ hk => .inl hk)).trans hC (fun k _ hk => .inr (Nat.le_of_eq hk.symm)))
        have HSO := Lib.hid (sortedN_any wr _ _ _ N hA HUP.out HLN.out HNN.out)
        have HCF : Hid (∀ (w' : World), FsTo F q.p w { S with now := repl S.last (S.wait.take j), last := repl S.last (S.wait.take j), wait := [], dead := false, fuse := -1, files := cutsF D 0 (repl S.last (S.wait.take j)) S.files } w' → FsTo F q.p w (crashF S k D) w') := Lib.hid (fun w' h => by
          have e : (min (max k 0) S.wait.length).toNat = j := by
            have h1 := HM.out
            have h2 := HWL.out
            rw [h2]
            exact h1
          unfold crashF
          rw [e]
          exact h)
        have hlsz : (repl S.last (S.wait.take j)).length ≤ 1000000 := Nat.le_trans HLN.out HNN.out
        have HLV : Hid (∀ p ∈ repl S.last (S.wait.take j), q.lv p.2) := Lib.hid (lv_repl HI.out.up (okW_take j HI.out.ok) HH.out.lvl (fun c hc => HH.out.lvw c (List.mem_of_mem_take hc)))
        have HNL : Hid ((nmL (repl S.last (S.wait.take j))).length = (repl S.last (S.wait.take j)).length) := Lib.hid (by unfold nmL; rw [List.length_map])
        have HSY : Hid (∀ x ∈ S.files, x.s ≤ x.b.length ∧ x.b.length ≤ 16777216) := Lib.hid (fun x hx => ⟨HI.out.syn x hx, HI.out.big x hx⟩)
        change Hid (Calls _ _ #[ptrV q.p] _ _) at HSO
        unfold ptrV at HSO
        clear hA hC H3 HC3 HM HWL HWC HVC HMW d2 d2' hj
        generalize repl S.last (S.wait.take j) = L at *
        generalize wr = wb at *
        change Hid (FsAt wb (fun k => (F k ∨ w.heap.size ≤ k) ∧ k < wb.heap.size) { q with mn := w.heap.size, ml := q.ml, vc := q.vc } { S with now := L }) at HA
        change Hid (Calls _ _ _ _ fun e w' => ∃ A c, e = .returned (.slice A L.length c) ∧ OwnS w' wb.heap.size _ 1 (.slice A L.length c) L.length (nmVs (nmL L)) ∧ Below wb.heap.size wb w') at HSO
        generalize hlz : L.length = lz at *
        have HLZ := Lib.hid hlz
        clear hlz
        go_wp2_with (go_at_call 37; refine HSO.out.mono ?_; rintro e w4 ⟨O, co, rfl, ho, hb⟩; have HO := Lib.hid ho; have HB := Lib.hid hb; clear ho hb)
        go_loopw [51] (fun vi wr => ∃ (i : Nat) (fv : Nat → Value), vi = .int .i64 i ∧ i ≤ lz ∧ FsAt wr (fun k => (F k ∨ w.heap.size ≤ k) ∧ k < wb.heap.size) { q with mn := w.heap.size, ml := q.ml, vc := q.vc, fv := fv } { S with now := L, files := cutsF D 0 (L.take i) S.files } ∧ Chg (fun k => (F k ∨ w.heap.size ≤ k) ∧ k < wb.heap.size) w4 wr) (fun vi _ => lz - (intOf vi).toNat)
        case atStart => exact ⟨0, q.fv, rfl, Nat.zero_le _, HA.out.below HB.out, Chg.refl _ _⟩
        case round =>
          obtain ⟨i, fv, rfl, hi, hA5, hC5⟩ := hrel
          by_cases hlt : i < lz
          ·
            obtain ⟨p, hp⟩ : ∃ p, L[i]? = some p := ⟨_, List.getElem?_eq_getElem (by rw [HLZ.out]; exact hlt)⟩
            obtain ⟨s, f⟩ := p
            have hmem : (s, f) ∈ L := List.mem_of_getElem? hp
            have hlvf := HLV.out _ hmem
            have hgs : getN L s = some f := (getN_some HUP.out).2 hmem
            have hsl : s.length ≤ 9223372036854775807 := by
              have h1 := strKeys_le hA5.now Try.underlying9 s (by rw [strKeys_data]; exact List.mem_map.2 ⟨_, hmem, rfl⟩)
              unfold maxLen at h1
              omega
            have hlk := hA5.now.look (bkN s) (by rw [bkN_size]; exact hsl)
            rw [bkN_list, hgs] at hlk
            obtain ⟨g, off, c', hv, hgb, hgl, hcell⟩ := HO.out.cells (by rw [nmVs_len, HNL.out]; omega)
            injection hv with hOA _ hcc
            subst hOA
            subst hcc
            have r0 : wr.cell? ⟨g, off + i, none⟩ = some (.string (bkN s)) := by
              rw [World.cell?_of_block (hC5.block g hgl (fun h => by have := h.2; omega)), hcell i (by rw [nmVs_len, HNL.out]; exact hlt)]
              unfold nmVs nmL
              rw [List.getElem?_map, List.getElem?_map, hp]
              rfl
            have c1 := hA5.c1
            change wr.cell? ⟨q.p, 1, none⟩ = some (.map (some w.heap.size)) at c1
            obtain ⟨x, hx, hf⟩ := hA5.file f hlvf
            have hxo : x.s ≤ x.b.length ∧ x.b.length ≤ 16777216 := cutsF_ok (M := 16777216) D (L.take i) 0 S.files HSY.out x (List.mem_of_getElem? hx)
            obtain ⟨B, cc, hfv⟩ := hf.own.shape
            have c0 : wr.cell? ⟨q.fb f, 0, none⟩ = some (.slice B x.b.length cc) := (hf.cel.cell 0 (by decide)).trans (by show some (fv f) = _; rw [show fv f = .slice B x.b.length cc from hfv])
            have c1f : wr.cell? ⟨q.fb f, 1, none⟩ = some (.int .i64 (x.s : Int)) := hf.cel.cell 1 (by decide)
            have hoB := hf.own
            rw [show ({ q with mn := w.heap.size, ml := q.ml, vc := q.vc, fv := fv } : Pl).fv f = .slice B x.b.length cc from hfv] at hoB
            have hcap := hoB.cap
            have hk1 := keepF_le D i x hxo.1
            have HCT : Hid (cutsF D 0 (L.take (i + 1)) S.files = (cutsF D 0 (L.take i) S.files).set f (cutF D i x)) := Lib.hid (by
              rw [List.take_add_one, hp]
              show cutsF D 0 (L.take i ++ [(s, f)]) S.files = _
              rw [cutsF_snoc, List.length_take, HLZ.out, Nat.min_eq_left (by omega), Nat.zero_add]
              exact modify_set _ _ _ _ hx)
            have HKF : Hid (keepF D i x = match D[i]? with | none => 0 | some d => (min (max d 0) ((x.b.length : Int) - x.s)).toNat) := Lib.hid rfl
            have HCU : Hid (cutF D i x = ⟨x.b.take (x.s + keepF D i x), x.s + keepF D i x⟩) := Lib.hid rfl
            have HA5 := Lib.hid hA5
            have HC5 := Lib.hid hC5
            have HF : Hid (FlAt wr (q.fb f) (fv f) x) := Lib.hid hf
            have HX := Lib.hid hx
            have HOB := Lib.hid hoB
            have HLVF := Lib.hid hlvf
            have HFV := Lib.hid (show fv f = .slice B x.b.length cc from hfv)
            have HXB := Lib.hid hxo
            have HDI : Hid (Ints .i64 wr A D) := Lib.hid (by
              have h1 := HDD.out
              have hcw : Chg (fun k => F k ∨ w.heap.size ≤ k) w wr := (HC.out.trans (Chg.of_below (S := fun k => F k ∨ w.heap.size ≤ k) HB.out) (fun _ _ h => h)).trans HC5.out (fun _ _ h => h.1)
              intro hl
              obtain ⟨b, o, h2, h3, h4⟩ := h1 hl
              exact ⟨b, o, h2, Nat.lt_of_lt_of_le h3 hcw.size, fun y hy => (World.cell?_of_block (hcw.block b h3 (fun h => h.elim (HNE.out hl b o h2) (fun h => by omega)))).trans (h4 y hy)⟩)
            have d2 : decide ((i : Int) < (lz : Int)) = true := decide_eq_true (by omega)
            have d2' : decide (i < lz) = true := decide_eq_true hlt
            clear hp hmem hlvf hgs hsl hcell hgl hgb hx hf hfv hoB hA5 hC5
            unfold optV ptrV at hlk
            change (Instr.lookup _ (.map (some w.heap.size)) _ false).run _ wr = .ok (.pointer (some ⟨q.fb f, 0, none⟩)) wr at hlk
            generalize hkp : keepF D i x = kp at *
            generalize hxl : x.b.length = xl at *
            generalize hxs : x.s = xs at *
            have HKP := Lib.hid hkp
            have HXL := Lib.hid hxl
            have HXS := Lib.hid hxs
            clear hkp hxl hxs
            generalize hfg : q.fb f = fg at *
            have HFG := Lib.hid hfg
            clear hfg
            go_upto_if 65 with (fail)
            go_cut [11] (fun v11 wx => v11 = .int .i64 kp ∧ ∃ nq, wx = wr.drewN nq)
            case first => as_aux_lemma =>
              by_cases hd : i < n
              · obtain ⟨d, hdi⟩ : ∃ d, D[i]? = some d := ⟨_, List.getElem?_eq_getElem (by rw [HN.out]; exact hd)⟩
                obtain ⟨gd, od, rfl, hgd, hcd⟩ := HDI.out (by rw [HN.out]; omega)
                have rd : wr.cell? ⟨gd, od + i, none⟩ = some (.int .i64 d) := by
                  rw [hcd i (by rw [HN.out]; exact hd), List.getD_eq_getElem?_getD, hdi]
                  rfl
                have hkd : kp = (min (max d 0) ((xl : Int) - xs)).toNat := by
                  rw [HKF.out, hdi]
                have hxx := HXB.out.1
                have hx2 := HXB.out.2
                have e1 : max d 0 = ((max d 0).toNat : Int) := by omega
                generalize hdm : (max d 0).toNat = dm at *
                have hsub : IntKind.i64.wrap ((xl : Int) - (xs : Int)) = ((xl - xs : Nat) : Int) := by rw [IntWalk.i64_in _ (by omega)]; omega
                have hdf : ((xl - xs : Nat) : Int) = (xl : Int) - xs := by omega
                generalize hdg : xl - xs = df at *
                have e2 : min (dm : Int) (df : Int) = (kp : Int) := by omega
                have e2' : min dm df = kp := by omega
                have d3 : decide (i < n) = true := decide_eq_true hd
                have d3' : decide ((i : Int) < (n : Int)) = true := decide_eq_true (by omega)
                clear hkd hdm hdf hdg hcd hgd hdi hxx hx2
                go_wp2_with fail
                go_quiet (fail)
                go_wp2_with fail
                go_meet
                exact ⟨rfl, _, rfl⟩
              · have hkd : kp = 0 := by
                  rw [HKF.out, List.getElem?_eq_none (by rw [HN.out]; omega)]
                have d3 : decide (i < n) = false := decide_eq_false hd
                have d3' : decide ((i : Int) < (n : Int)) = false := decide_eq_false (by omega)
                subst hkd
                go_wp2
                go_meet
                exact ⟨rfl, 0, rfl⟩
            case rest =>
              obtain ⟨rfl, nq, rfl⟩ := hcut
              have HA6 := Lib.hid (HA5.out.drewN nq)
              have HC6 := Lib.hid (HC5.out.drewN nq)
              have HF6 : Hid (FlAt (wr.drewN nq) fg (fv f) x) := Lib.hid (HF.out.same rfl fun _ _ => rfl)
              have hzx : xs + kp ≤ xl := hk1
              have hz1 : ((xs + kp : Nat) : Int) = (xs : Int) + kp := by omega
              have hzb := HXB.out.2
              have hadd : IntKind.i64.wrap ((xs : Int) + (kp : Int)) = ((xs + kp : Nat) : Int) := by rw [IntWalk.i64_in _ (by omega)]; omega
              generalize hzz : xs + kp = z at *
              have HZ := Lib.hid hzz
              have s1 : z ≤ cc := by omega
              have s2 : (z : Int) ≤ (cc : Int) := by omega
              have hcm : cc ≤ 9223372036854775807 := by
                rcases HOB.out.2 with ⟨hv, _⟩ | ⟨g', off', cap, cur, hv, _, _, _, hm', _⟩
                · injection hv with _ _ hc; omega
                · injection hv with _ _ hc
                  unfold maxLen at hm'
                  omega
              have HZX := Lib.hid hzx
              have c06 : (wr.drewN nq).cell? ⟨fg, 0, none⟩ = some (.slice B xl cc) := c0
              have c16 : (wr.drewN nq).cell? ⟨fg, 1, none⟩ = some (.int .i64 (xs : Int)) := c1f
              clear HA5 HC5 HF HDI HKF hk1 hz1 hzb hzz c0 c1f r0 c1 hlk hcap hzx HKP
              generalize wr.drewN nq = w6 at *
              have HCP : Hid (Calls Try.prog 38 #[.slice B z cc] w6.drew fun e w' => e = .returned (.slice B z z) ∧ w' = w6.drew) := Lib.hid ((clip_any B z cc w6.drew s1 hcm).mono fun e w' h => ⟨h.1, h.2.symm⟩)
              have f0 : w6.drew.frozen? ⟨fg, 0, none⟩ = false := HF6.out.cel.drew.frozen 0
              have c0d : w6.drew.cell? ⟨fg, 0, none⟩ = some (.slice B xl cc) := c06
              have HCS := Lib.hid ((HF6.out.cel.drew.set 0 (.slice B z z)).congr (f' := flF (.slice B z z) x) (flF_b (fv f) (.slice B z z) x x.b))
              go_upto_region 13 with (fail)
              go_still_tail 13, (by kernel_rfl)
              still_call HCP.out
              repeat still_step
              refine wpStill_nil ?_
              change wpList _ _ _ _ _ w6.drew
              have hcs : Cel (w6.setCell ⟨fg, 0, none⟩ (.slice B z z)) fg 66 2 (flF (.slice B z z) x) := HCS.out
              have c07 : (w6.setCell ⟨fg, 0, none⟩ (.slice B z z)).cell? ⟨fg, 0, none⟩ = some (.slice B z z) := hcs.cell 0 (by decide)
              have f17 : (w6.setCell ⟨fg, 0, none⟩ (.slice B z z)).frozen? ⟨fg, 1, none⟩ = false := hcs.frozen 1
              obtain ⟨z1, c17⟩ : ∃ y, (w6.setCell ⟨fg, 0, none⟩ (.slice B z z)).cell? ⟨fg, 1, none⟩ = some y := ⟨_, hcs.cell 1 (by decide)⟩
              clear hcs
              have HAD := Lib.hid HA6.out.drew
              have hne : (Value.slice B z z).ownBlock ≠ some fg := fun e => by
                have e' : (fv f).ownBlock = some (q.fb f) := by rw [HFV.out, HFG.out, own_len B _ _ z z]; exact e
                exact kd_ne (HA6.out.kr HLVF.out e') (HA6.out.kf HLVF.out) (by decide) rfl
              have HW : Hid (OwnS w6 0 5 1 (.slice B z z) z ((x.b.take z).map (Value.int .u8))) := Lib.hid (by
                have h1 := HF6.out.own
                rw [HFV.out, HXL.out] at h1
                have h2 := (h1.cutTo HZX.out).clip
                rw [← List.map_take] at h2
                exact h2)
              have HFL : Hid (FlAt ((w6.drew.setCell ⟨fg, 0, none⟩ (.slice B z z)).setCell ⟨fg, 1, none⟩ (.int .i64 (z : Int))) fg (.slice B z z) (cutF D i x)) := Lib.hid (by
                rw [HCU.out]
                refine ⟨(HCS.out.set 1 _).congr (flF_s _ x z), ?_⟩
                have hl : (x.b.take z).length = z := by rw [List.length_take, HXL.out]; exact Nat.min_eq_left HZX.out
                show OwnS _ 0 _ 1 _ (x.b.take z).length ((x.b.take z).map (Value.int .u8))
                rw [hl]
                exact ((HW.out.drew).setFar (a := ⟨fg, 0, none⟩) hne _).setFar (a := ⟨fg, 1, none⟩) hne _)
              have HST : Hid (FsAt ((w6.drew.setCell ⟨fg, 0, none⟩ (.slice B z z)).setCell ⟨fg, 1, none⟩ (.int .i64 (z : Int))) (fun k => (F k ∨ w.heap.size ≤ k) ∧ k < wb.heap.size) { q with mn := w.heap.size, ml := q.ml, vc := q.vc, fv := updF fv f (.slice B z z) } { S with now := L, files := cutsF D 0 (L.take (i + 1)) S.files }) := Lib.hid (by
                have h1 := HAD.out.stIn HLVF.out (v := .slice B z z) (x := cutF D i x) (w' := (w6.drew.setCell ⟨fg, 0, none⟩ (.slice B z z)).setCell ⟨fg, 1, none⟩ (.int .i64 (z : Int)))
                  (fun k _ h2 _ => (Below.heap_setCell _ _ _ _ (by rw [← HFG.out]; exact h2)).trans (Below.heap_setCell _ _ _ _ (by rw [← HFG.out]; exact h2))) (by rw [HFG.out]; exact HFL.out)
                  (fun k hk => by show (fv f).ownBlock = some k; rw [HFV.out, own_len B _ _ z z]; exact hk)
                rw [HCT.out]
                exact h1)
              have HCH : Hid (Chg (fun k => (F k ∨ w.heap.size ≤ k) ∧ k < wb.heap.size) w4 ((w6.drew.setCell ⟨fg, 0, none⟩ (.slice B z z)).setCell ⟨fg, 1, none⟩ (.int .i64 (z : Int)))) := Lib.hid (by
                have hm := HA6.out.mem.fb f HLVF.out
                rw [HFG.out] at hm
                exact Chg.setCell (Chg.setCell HC6.out.drew (a := ⟨fg, 0, none⟩) (.inl hm) _) (a := ⟨fg, 1, none⟩) (.inl hm) _)
              clear hne HW HFL HAD HCS HF6
              go_wp2
              go_roundw
              case rel => exact ⟨i + 1, _, rfl, by omega, HST.out, HCH.out⟩
              case measure => simp [intOf]; omega
          · obtain rfl : i = lz := by omega
            have d2 : decide ((i : Int) < (i : Int)) = false := decide_eq_false (by omega)
            have d2' : decide (i < i) = false := decide_eq_false (by omega)
            rw [List.take_of_length_le (by rw [HLZ.out]; exact Nat.le_refl _)] at hA5
            have HA5 := Lib.hid hA5
            have HC5 : Hid (Chg (fun k => F k ∨ w.heap.size ≤ k) w wr) := Lib.hid ((HC.out.trans (Chg.of_below (S := fun k => F k ∨ w.heap.size ≤ k) HB.out) (fun _ _ h => h)).trans hC5 (fun _ _ h => h.1))
            clear hA5 hC5
            have hmw : w.heap.size < wr.heap.size := HA5.out.now.lt
            have c1 := HA5.out.c1
            change wr.cell? ⟨q.p, 1, none⟩ = some (.map (some w.heap.size)) at c1
            have HCM := Lib.hid (clone_map wr w.heap.size q.fb L HA5.out.now)
            clear HDD HNE HUP HSY HLN HNL
            go_wp2_with fail
            refine HCM.out.mono ?_
            rintro e w7 ⟨rfl, hm7, hb7⟩
            have hA7 := HA5.out.below hb7
            have f2 := hA7.fz 2
            have f3 := hA7.fz 3
            have f4 := hA7.fz 4
            have f5 := hA7.fz 5
            obtain ⟨z2, y2⟩ : ∃ z, w7.cell? ⟨q.p, 2, none⟩ = some z := ⟨_, hA7.c2⟩
            obtain ⟨z3, y3⟩ : ∃ z, w7.cell? ⟨q.p, 3, none⟩ = some z := ⟨_, hA7.c3⟩
            obtain ⟨z4, y4⟩ : ∃ z, w7.cell? ⟨q.p, 4, none⟩ = some z := ⟨_, hA7.c4⟩
            obtain ⟨z5, y5⟩ : ∃ z, w7.cell? ⟨q.p, 5, none⟩ = some z := ⟨_, hA7.c5⟩
            have HM7 := Lib.hid hm7
            have HB7 := Lib.hid hb7
            have HA7 := Lib.hid hA7
            clear hm7 hb7 hA7 c1
            change w7.frozen? ⟨q.p, 2, none⟩ = false at f2
            change w7.frozen? ⟨q.p, 3, none⟩ = false at f3
            change w7.frozen? ⟨q.p, 4, none⟩ = false at f4
            change w7.frozen? ⟨q.p, 5, none⟩ = false at f5
            go_wp2
            refine ⟨rfl, _, results_none rfl _ _ _, ?_⟩
            rw [HPO.out]
            refine ⟨rfl, HCF.out _ ?_⟩
            have hw : ∀ k, k ≠ q.p → ((((w7.setCell ⟨q.p, 2, none⟩ (.map (some wr.heap.size))).setCell ⟨q.p, 3, none⟩ (.slice none 0 0)).setCell ⟨q.p, 5, none⟩ (.bool false)).setCell ⟨q.p, 4, none⟩ (.int .i64 (-1))).heap[k]? = w7.heap[k]? := fun k hk =>
              (Below.heap_setCell _ _ _ _ hk).trans ((Below.heap_setCell _ _ _ _ hk).trans ((Below.heap_setCell _ _ _ _ hk).trans (Below.heap_setCell _ _ _ _ hk)))
            have hp1 : q.p < wr.heap.size := HA5.out.cel.blk
            have hF := HA7.out.reP (S' := { S with now := L, last := L, wait := [], dead := false, fuse := -1, files := cutsF D 0 L S.files }) (F' := fun k => F k ∨ w.heap.size ≤ k) (mn := w.heap.size) (ml := wr.heap.size) (vc := .slice none 0 0) (fun k hk _ => hw k hk)
              (((((HA7.out.cel.set 2 (.map (some wr.heap.size))).set 3 (.slice none 0 0)).set 5 (.bool false)).set 4 (.int .i64 (-1))).congr fun i hi => by
                have : i = 0 ∨ i = 1 ∨ i = 2 ∨ i = 3 ∨ i = 4 ∨ i = 5 := by omega
                rcases this with rfl | rfl | rfl | rfl | rfl | rfl <;> rfl)
              (HA7.out.now.same (hw _ (kd_ne HA7.out.kn HA7.out.kp (by decide)))) (HM7.out.same (hw _ (by omega))) (OwnS.nil _ _ _ _) rfl (by omega) HLV.out (by intro c hc; cases hc) (by intro c hc; cases hc)
              (fun k hk => hk.1) (.inr (Nat.le_refl _)) (.inr (Nat.le_of_lt hmw)) (fun k hk => by cases hk)
            have hc1 : Chg F w w7 := (HC5.out.trans (Chg.of_below (S := fun k => F k ∨ w.heap.size ≤ k) HB7.out) (fun _ _ h => h)).mono (fun k hk h => h.elim id (fun h => by omega))
            exact ⟨_, hF, rfl, Chg.setCell (Chg.setCell (Chg.setCell (Chg.setCell hc1 (a := ⟨q.p, 2, none⟩) (.inl HH.out.mem.p) _) (a := ⟨q.p, 3, none⟩) (.inl HH.out.mem.p) _) (a := ⟨q.p, 5, none⟩) (.inl HH.out.mem.p) _) (a := ⟨q.p, 4, none⟩) (.inl HH.out.mem.p) _⟩
end Go.Proofs.Ytmoaabjiokjjlaa
