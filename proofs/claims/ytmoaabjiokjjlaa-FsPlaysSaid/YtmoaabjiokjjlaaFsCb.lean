/- The closure of Copy: a file's twin (printed by genfsc.py out of XFsCb.src). -/
import Derived.Test.YtmoaabjiokjjlaaFsCa
import Derived.Test.YtmoaabjiokjjlaaRelT
import Derived.Test.YtmoaabjiokjjlaaPh
namespace Go.Proofs.Ytmoaabjiokjjlaa
open Go.RowKit Go.Maps
set_option linter.unusedVariables false
set_option linter.unusedSimpArgs false
section
variable {P : Program} {ops : Array Oper} {Q : Exit → Act → World → Prop}
theorem StepR.runs {Rel : World → World → Prop} {p : Value → World → Prop} {i : Nat} {o : Oper} {a : Act} {w w' : World} {v : Value} (ho : ops[i]? = some o) (hg : Region.wanted o (yielded ops a.tmps) = true)
    (he : (execOp a.eval o).run P w = .ok (.value v) w') (hR : Rel w w') (hp : p v w') : StepR P ops Q Rel p i o a w := fun K hK => by
  unfold wpOp
  simp only [ho, hg, if_true]
  exact .inl (by unfold Oper.wp; rw [he]; exact hK v w' hR hp)
theorem StepR.stored {Rel : World → World → Prop} {p : Value → World → Prop} {i : Nat} {o : Oper} {a : Act} {w w' : World} (ho : ops[i]? = some o) (hg : Region.wanted o (yielded ops a.tmps) = true)
    (he : (execOp a.eval o).run P w = .ok .skip w') (hR : Rel w w') (hp : p undef w') : StepR P ops Q Rel p i o a w := fun K hK => by
  unfold wpOp
  simp only [ho, hg, if_true]
  refine .inl ?_
  unfold Oper.wp
  rw [he]
  exact hK undef w' hR hp
end
theorem RelB.alloc (w : World) (o : Obj) : RelB w (w.alloc o) := (Below.refl _ _).alloc (Nat.le_refl _) _
theorem OwnS.keptB {w w' : World} {base size n : Nat} {e : TypeId} {v : Value} {xs : List Value} (h : OwnS w base e size v n xs) (hb : Below w.heap.size w w') : OwnS w' base e size v n xs := h.heap fun k hk => hb.block k (h.lt k hk).2
/-- A clone of bytes; the file's two cells; the new file. -/
def VCl (b : Nat) (xs : List Int) (v : Value) (w : World) : Prop := ∃ A c, v = .slice A xs.length c ∧ OwnS w b 5 1 (.slice A xs.length c) xs.length (xs.map (Value.int .u8))
theorem VCl.mono (b : Nat) (xs : List Int) : MonoB (VCl b xs) := fun _ _ _ ⟨A, c, h1, h2⟩ hR => ⟨A, c, h1, h2.keptB hR⟩
def VAg (b : Nat) (x : Fl) (v : Value) (w : World) : Prop := ∃ A c, v = .agg #[.slice A x.b.length c, .int .i64 (x.s : Int)] ∧ OwnS w b 5 1 (.slice A x.b.length c) x.b.length (x.b.map (Value.int .u8))
theorem VAg.mono (b : Nat) (x : Fl) : MonoB (VAg b x) := fun _ _ _ ⟨A, c, h1, h2⟩ hR => ⟨A, c, h1, h2.keptB hR⟩
def VBx (b : Nat) (x : Fl) (v : Value) (w : World) : Prop := ∃ g u, v = .pointer (some ⟨g, 0, none⟩) ∧ b ≤ g ∧ (∀ k, u.ownBlock = some k → b ≤ k) ∧ FlAt w g u x
theorem FlAt.below {w w' : World} {g : Nat} {u : Value} {x : Fl} (h : FlAt w g u x) (hb : Below w.heap.size w w') : FlAt w' g u x := h.same (hb.block _ h.cel.blk) fun k hk => hb.block k (h.own.lt k hk).2
theorem VBx.mono (b : Nat) (x : Fl) : MonoB (VBx b x) := fun _ _ _ ⟨g, u, h1, h2, h3, h4⟩ hR => ⟨g, u, h1, h2, h3, h4.below hR⟩
theorem VBx.new (b : Nat) (x : Fl) (A : Option Addr) (c : Nat) (w : World) (hb : b ≤ w.heap.size) (h : OwnS w b 5 1 (.slice A x.b.length c) x.b.length (x.b.map (Value.int .u8))) :
    VBx b x (.pointer (some ⟨w.heap.size, 0, none⟩)) (w.alloc (.cells #[.slice A x.b.length c, .int .i64 (x.s : Int)] 66)) :=
  ⟨_, .slice A x.b.length c, rfl, hb, fun k hk => (h.lt k hk).1, ⟨Cel.new w _ #[.slice A x.b.length c, .int .i64 (x.s : Int)] _ (fun i hi => by
    have : i = 0 ∨ i = 1 := by simp at hi; omega
    rcases this with rfl | rfl <;> rfl), (h.base_ (Nat.zero_le _)).alloc _⟩⟩
theorem keyed_ptr (w : World) : Try.prog.underlying 83 = some (.map 63 63) ∧ Try.prog.underlying 63 = some (.pointer 66) ∧ (zeroValue 63).run Try.prog w = .ok (.pointer none) w :=
  ⟨Try.underlying83, Try.underlying63, ptr_zero w⟩
theorem info_file : ∃ j, Try.prog.info? 66 = some j ∧ j.size ≠ 0 := by
  have h : (Try.prog.info? 66).map (·.size) = some 2 := by kernel_rfl
  cases hj : Try.prog.info? 66 with
  | none => rw [hj] at h; cases h
  | some j => rw [hj] at h; simp at h; exact ⟨j, rfl, by omega⟩
theorem TwAt.look {w : World} {B tg : Nat} {q : Pl} {S : Fs} {D : List Nat} {tb : Nat → Nat} {tv : Nat → Value} {F : Nat → Prop} (h : TwAt w B tg q S D tb tv) (hA : FsAt w F q S) (i : Nat) (hi : q.lv i) :
    (Instr.lookup 83 (.map (some tg)) (.pointer (some ⟨q.fb i, 0, none⟩)) false).run Try.prog w = .ok (if i ∈ D then .pointer (some ⟨tb i, 0, none⟩) else .pointer none) w := by
  obtain ⟨j, hj, hs⟩ := info_file
  obtain ⟨k1, k2, k3⟩ := keyed_ptr w
  have := h.map.look k1 k2 hj hs k3 (isRow_of hA i hi) (keys_row h hA)
  rw [look_tw h hA i hi] at this
  refine this.trans ?_
  split <;> rfl
theorem TwAt.put {w : World} {B tg : Nat} {q : Pl} {S : Fs} {D : List Nat} {tb : Nat → Nat} {tv : Nat → Value} {F : Nat → Prop} (h : TwAt w B tg q S D tb tv) (hA : FsAt w F q S) (i : Nat) (hi : q.lv i) (hD : i ∉ D) (g : Nat) :
    ∃ w', (Instr.mapUpdate 83 (.map (some tg)) (.pointer (some ⟨q.fb i, 0, none⟩)) (.pointer (some ⟨g, 0, none⟩))).run Try.prog w = .ok () w' ∧ MapP w' tg (D.map (fun i => (q.fb i, tb i)) ++ [(q.fb i, g)]) ∧ w.grownBy w' (some tg) := by
  obtain ⟨j, hj, hs⟩ := info_file
  obtain ⟨k1, k2, k3⟩ := keyed_ptr w
  exact h.map.put k1 k2 hj hs (isRow_of hA i hi) (keys_row h hA) (by rw [look_tw h hA i hi, if_neg hD])
set_option maxRecDepth 100000 in
set_option maxHeartbeats 4000000 in
theorem twin_any (w : World) (F : Nat → Prop) (q : Pl) (S : Fs) (B tg tc : Nat) (D : List Nat) (tb : Nat → Nat) (tv : Nat → Value) (hA : FsAt w F q S) (hT : TwAt w B tg q S D tb tv) (htc : Cel w tc 83 1 (fun _ => .map (some tg)))
    (hB : B ≤ w.heap.size) (i : Nat) (hi : q.lv i) (hne : tc ≠ tg) (hF : ∀ k, F k → k ≠ tg) (hsz : ∀ x, S.files[i]? = some x → x.b.length ≤ 16777216) :
    Calls Try.prog 42 #[.pointer (some ⟨q.fb i, 0, none⟩), .pointer (some ⟨tc, 0, none⟩)] w (TwPost w B tg q S D tb tv i) := by
  have HPO : Hid (∀ e w', TwPost w B tg q S D tb tv i e w' = (∃ D' tb' tv', e = .returned (ptrV (tb' i)) ∧ i ∈ D' ∧ TwAt w' B tg q S D' tb' tv' ∧ (∀ j ∈ D, j ∈ D' ∧ tb' j = tb j ∧ tv' j = tv j) ∧ Chg (fun k => k = tg) w w' ∧
    (∀ j ∈ D', j ∉ D → w.heap.size ≤ tb' j ∧ ∀ k, (tv' j).ownBlock = some k → w.heap.size ≤ k))) := Lib.hid (fun _ _ => rfl)
  generalize TwPost w B tg q S D tb tv i = POST at *
  have HA := Lib.hid hA
  have HT := Lib.hid hT
  have HTC := Lib.hid htc
  have HB := Lib.hid hB
  have HI := Lib.hid hi
  have HFT := Lib.hid hF
  have HNE := Lib.hid hne
  have hlk := hT.look hA i hi
  have k0 : w.cell? ⟨tc, 0, none⟩ = some (.map (some tg)) := htc.cell 0 (by decide)
  obtain ⟨x, hx, hf⟩ := hA.file i hi
  have hxl := hsz x hx
  have HX := Lib.hid hx
  have HF := Lib.hid hf
  clear hA hT htc hB hi hF hne hsz hx hf
  by_cases hD : i ∈ D
  · rw [if_pos hD] at hlk
    have HD := Lib.hid hD
    clear hD
    go_enter Try.func42, Try.ntmps42
    go_wp2
    rw [HPO.out]
    exact ⟨D, tb, tv, rfl, HD.out, HT.out, fun j hj => ⟨hj, rfl, rfl⟩, Chg.refl _ _, fun j h1 h2 => absurd h1 h2⟩
  · rw [if_neg hD] at hlk
    have HD := Lib.hid hD
    clear hD
    obtain ⟨A, c, hfv⟩ := HF.out.own.shape
    have HI8 : Hid (Ints .u8 w A x.b) := Lib.hid (by have h := HF.out.own; rw [hfv] at h; exact h.ints)
    have HAN : Hid (A = none → x.b.length = 0) := Lib.hid (fun h => by
      have h2 := HF.out.own
      rw [hfv, h] at h2
      rcases h2.2 with ⟨_, h3⟩ | ⟨g, off, cap, cur, hv, _⟩
      · exact h3
      · injection hv with h1; cases h1)
    have HFV := Lib.hid hfv
    clear hfv
    generalize hfb : q.fb i = fb at *
    have HFB := Lib.hid hfb
    clear hfb
    go_enter Try.func42, Try.ntmps42
    go_upto_region 2 with (fail)
    clear hlk k0
    refine wp_region_relT (by kernel_rfl) [fun v9 _ => v9 = .map (some tg), fun v9 _ => v9 = .pointer (some ⟨fb, 0, none⟩), fun v9 _ => v9 = .pointer (some ⟨fb, 0, none⟩), fun v9 _ => v9 = .pointer (some ⟨fb, 0, none⟩), fun v9 _ => v9 = .pointer (some ⟨fb, 0, none⟩), fun v9 _ => v9 = .slice A x.b.length c, VCl w.heap.size x.b, fun v9 _ => v9 = .pointer (some ⟨fb, 0, none⟩), fun v9 _ => v9 = .pointer (some ⟨fb, 0, none⟩), fun v9 _ => v9 = .pointer (some ⟨fb, 1, none⟩), fun v9 _ => v9 = .int .i64 (x.s : Int), VAg w.heap.size x, VBx w.heap.size x] (allM ⟨MonoB.eq _, MonoB.eq _, MonoB.eq _, MonoB.eq _, MonoB.eq _, MonoB.eq _, VCl.mono _ _, MonoB.eq _, MonoB.eq _, MonoB.eq _, MonoB.eq _, VAg.mono _ _, VBx.mono _ _, trivial⟩) (by kernel_rfl) (by kernel_rfl) 13 _ (by kernel_rfl) rfl (by kernel_rfl) (fun us _ W => ∃ g u, us 12 = .pointer (some ⟨g, 0, none⟩) ∧ TwAt W B tg q S (D ++ [i]) (upN tb i g) (upV tv i u) ∧ Chg (fun k => k = tg) w W ∧ w.heap.size ≤ g ∧ ∀ k, u.ownBlock = some k → w.heap.size ≤ k) ?steps ?tail ?done rfl
    case steps =>
      refine ⟨?_, ?_, ?_, ?_, ?_, ?_, ?_, ?_, ?_, ?_, ?_, ?_, ?_, trivial⟩
      · intro us au w1 ha hR hd
        have q1 := slot_far (t := 1) (v := .pointer (some ⟨tc, 0, none⟩)) ha (by kernel_rfl) (by kernel_rfl)
        have p1 := slot_norm q1
        clear ha hd
        have kk : w1.cell? ⟨tc, 0, none⟩ = some (.map (some tg)) := (HTC.out.below (RelB.undrew hR) HTC.out.blk).cell 0 (by decide)
        exact StepR.pure (v := .map (some tg)) rfl rfl (by go_simp) (RelB.refl _) rfl
      · intro us au w1 ha hR hd
        have q0 := slot_far (t := 0) (v := .pointer (some ⟨fb, 0, none⟩)) ha (by kernel_rfl) (by kernel_rfl)
        have p0 := slot_norm q0
        clear ha hd
        exact StepR.pure (v := .pointer (some ⟨fb, 0, none⟩)) rfl rfl (by go_simp) (RelB.refl _) rfl
      · intro us au w1 ha hR hd
        have q0 := slot_far (t := 0) (v := .pointer (some ⟨fb, 0, none⟩)) ha (by kernel_rfl) (by kernel_rfl)
        have p0 := slot_norm q0
        clear ha hd
        exact StepR.pure (v := .pointer (some ⟨fb, 0, none⟩)) rfl rfl (by go_simp) (RelB.refl _) rfl
      · intro us au w1 ha hR hd
        have e2 := hd 2 _ (by kernel_rfl) rfl
        have q10 := slot_at (t := 10) 2 ha (by kernel_rfl) (by kernel_rfl) (by kernel_rfl) e2
        have p10 := slot_norm q10
        clear ha hd
        exact StepR.pure (v := .pointer (some ⟨fb, 0, none⟩)) rfl rfl (by go_simp) (RelB.refl _) rfl
      · intro us au w1 ha hR hd
        have e3 := hd 3 _ (by kernel_rfl) rfl
        have q11 := slot_at (t := 11) 3 ha (by kernel_rfl) (by kernel_rfl) (by kernel_rfl) e3
        have p11 := slot_norm q11
        clear ha hd
        exact StepR.pure (v := .pointer (some ⟨fb, 0, none⟩)) rfl rfl (by go_simp) (RelB.refl _) rfl
      · intro us au w1 ha hR hd
        have e4 := hd 4 _ (by kernel_rfl) rfl
        have q12 := slot_at (t := 12) 4 ha (by kernel_rfl) (by kernel_rfl) (by kernel_rfl) e4
        have p12 := slot_norm q12
        clear ha hd
        have kk : w1.cell? ⟨fb, 0, none⟩ = some (.slice A x.b.length c) := by rw [((HF.out.below (RelB.undrew hR)).cel.cell 0 (by decide))]; show some (q.fv i) = _; rw [HFV.out]
        exact StepR.pure (v := .slice A x.b.length c) rfl rfl (by go_simp) (RelB.refl _) rfl
      · intro us au w1 ha hR hd
        have e5 := hd 5 _ (by kernel_rfl) rfl
        have q13 := slot_at (t := 13) 5 ha (by kernel_rfl) (by kernel_rfl) (by kernel_rfl) e5
        have p13 := slot_norm q13
        clear ha hd
        refine StepR.call (f := 41) (args := #[.slice A x.b.length c]) rfl rfl (by go_simp) ?_
        refine (clone_any A x.b.length c x.b w1 (HI8.out.below (RelB.undrew hR)) rfl (by omega) HAN.out).mono ?_
        rintro e w5 ⟨A5, c5, rfl, ho5, hb5⟩
        exact ⟨_, rfl, hb5, A5, c5, rfl, ho5.base_ (Below.size (RelB.undrew hR))⟩
      · intro us au w1 ha hR hd
        have q0 := slot_far (t := 0) (v := .pointer (some ⟨fb, 0, none⟩)) ha (by kernel_rfl) (by kernel_rfl)
        have p0 := slot_norm q0
        clear ha hd
        exact StepR.pure (v := .pointer (some ⟨fb, 0, none⟩)) rfl rfl (by go_simp) (RelB.refl _) rfl
      · intro us au w1 ha hR hd
        have e7 := hd 7 _ (by kernel_rfl) rfl
        have q15 := slot_at (t := 15) 7 ha (by kernel_rfl) (by kernel_rfl) (by kernel_rfl) e7
        have p15 := slot_norm q15
        clear ha hd
        exact StepR.pure (v := .pointer (some ⟨fb, 0, none⟩)) rfl rfl (by go_simp) (RelB.refl _) rfl
      · intro us au w1 ha hR hd
        have e8 := hd 8 _ (by kernel_rfl) rfl
        have q16 := slot_at (t := 16) 8 ha (by kernel_rfl) (by kernel_rfl) (by kernel_rfl) e8
        have p16 := slot_norm q16
        clear ha hd
        exact StepR.pure (v := .pointer (some ⟨fb, 1, none⟩)) rfl rfl (by go_simp) (RelB.refl _) rfl
      · intro us au w1 ha hR hd
        have e9 := hd 9 _ (by kernel_rfl) rfl
        have q17 := slot_at (t := 17) 9 ha (by kernel_rfl) (by kernel_rfl) (by kernel_rfl) e9
        have p17 := slot_norm q17
        clear ha hd
        have kk : w1.cell? ⟨fb, 1, none⟩ = some (.int .i64 (x.s : Int)) := (HF.out.below (RelB.undrew hR)).cel.cell 1 (by decide)
        exact StepR.pure (v := .int .i64 (x.s : Int)) rfl rfl (by go_simp) (RelB.refl _) rfl
      · intro us au w1 ha hR hd
        obtain ⟨A6, c6, e6, h6⟩ := hd 6 _ (by kernel_rfl) rfl
        have e10 := hd 10 _ (by kernel_rfl) rfl
        have q14 := slot_at (t := 14) 6 ha (by kernel_rfl) (by kernel_rfl) (by kernel_rfl) e6
        have p14 := slot_norm q14
        have q18 := slot_at (t := 18) 10 ha (by kernel_rfl) (by kernel_rfl) (by kernel_rfl) e10
        have p18 := slot_norm q18
        clear ha hd
        exact StepR.pure (v := .agg #[.slice A6 x.b.length c6, .int .i64 (x.s : Int)]) rfl rfl (by go_simp) (RelB.refl _) ⟨A6, c6, rfl, h6⟩
      · intro us au w1 ha hR hd
        obtain ⟨A11, c11, e11, h11⟩ := hd 11 _ (by kernel_rfl) rfl
        have q19 := slot_at (t := 19) 11 ha (by kernel_rfl) (by kernel_rfl) (by kernel_rfl) e11
        have p19 := slot_norm q19
        clear ha hd
        exact StepR.runs (w' := w1.alloc (.cells #[.slice A11 x.b.length c11, .int .i64 (x.s : Int)] 66)) rfl rfl (by go_simp) (RelB.alloc _ _) (VBx.new _ x A11 c11 w1 (Below.size (RelB.undrew hR)) h11)
    case tail =>
      intro us au w1 ha hR hd
      have e0 := hd 0 _ rfl
      have e1 := hd 1 _ rfl
      obtain ⟨g12, u12, e12, h12, i12, j12⟩ := hd 12 _ rfl
      have q8 := slot_at (t := 8) 0 ha (by kernel_rfl) (by kernel_rfl) (by kernel_rfl) e0
      have p8 := slot_norm q8
      have q9 := slot_at (t := 9) 1 ha (by kernel_rfl) (by kernel_rfl) (by kernel_rfl) e1
      have p9 := slot_norm q9
      have q20 := slot_at (t := 20) 12 ha (by kernel_rfl) (by kernel_rfl) (by kernel_rfl) e12
      have p20 := slot_norm q20
      clear ha hd
      have hT1 := HT.out.below (RelB.undrew hR)
      obtain ⟨w9, hrun, hm9, hg9⟩ := hT1.put (HA.out.below (RelB.undrew hR)) i HI.out HD.out g12
      rw [HFB.out] at hrun hm9
      have hgt : g12 ≠ tg := by have := HT.out.map.lt; omega
      have hC9 : Chg (fun k => k = tg) w w9 := (Chg.of_below (S := fun k => k = tg) (RelB.undrew hR)).trans (Chg.of_grown (S := fun k => k = tg) hg9 (fun k hk => by injection hk with hk; exact hk.symm)) (fun _ _ h => h)
      have hf9 : FlAt w9 g12 u12 x := j12.same (hg9.block _ j12.cel.blk (by intro h; injection h with h; exact hgt h)) (fun k hk => hg9.block k (j12.own.lt k hk).2 (by intro h; injection h with h; have := i12 k hk; have := HT.out.map.lt; omega))
      refine StepR.stored (w' := w9) rfl rfl (by unfold execOp; simp [q8, q9, q20, hrun]) trivial ⟨g12, u12, e12, ?_, hC9, h12, i12⟩
      refine HT.out.more HD.out HI.out HX.out (by rw [HFB.out]; exact hm9) hf9 (fun k hk hx9 => hC9.block k hk (fun e => ?_)) (Nat.le_trans HB.out h12) h12 (fun k hk => ⟨Nat.le_trans HB.out (i12 k hk), i12 k hk⟩)
      obtain ⟨j, hj, h | h⟩ := hx9
      · have := HT.out.lo j hj; have := HT.out.low; omega
      · have := HT.out.lov j hj k h; have := HT.out.low; omega
    case done =>
      intro us v9 w1 hD
      obtain ⟨g, u, e12, hT9, hC9, hg9, hu9⟩ := hD
      have hbl : Below w.heap.size w w1 → True := fun _ => trivial
      have hA9 : FsAt w1 F q S := HA.out.chg hC9 (fun k hk _ => HFT.out k hk)
      have hlk := hT9.look hA9 i HI.out
      rw [if_pos (by simp), HFB.out] at hlk
      have hup : upN tb i g i = g := if_pos rfl
      have htc9 := HTC.out.chg hC9 HNE.out
      have k0 : w1.cell? ⟨tc, 0, none⟩ = some (.map (some tg)) := htc9.cell 0 (by decide)
      have HT9 := Lib.hid hT9
      have HC9 := Lib.hid hC9
      have HG9 : Hid (w.heap.size ≤ g ∧ ∀ k, u.ownBlock = some k → w.heap.size ≤ k) := Lib.hid ⟨hg9, hu9⟩
      have HUP := Lib.hid hup
      generalize upN tb i g i = gg at *
      clear hT9 hC9 hA9 htc9 hg9 hu9 hbl hup
      simp only [putAll, upd]
      go_simp
      go_wp2
      rw [HPO.out]
      refine ⟨D ++ [i], upN tb i g, upV tv i u, ?_, by simp, HT9.out, fun j hj => ?_, HC9.out, fun j h1 h2 => ?_⟩
      · show _ = Ending.returned (ptrV (upN tb i g i))
        rw [show upN tb i g i = g from if_pos rfl, HUP.out]; rfl
      · have hji : ¬ j = i := fun e => HD.out (e ▸ hj)
        exact ⟨List.mem_append_left _ hj, if_neg hji, if_neg hji⟩
      · have hji : j = i := by
          rcases List.mem_append.1 h1 with h | h
          · exact absurd h h2
          · exact List.mem_singleton.1 h
        rw [hji]
        refine ⟨by rw [show upN tb i g i = g from if_pos rfl]; exact HG9.out.1, fun k hk => HG9.out.2 k ?_⟩
        rwa [show upV tv i u i = u from if_pos rfl] at hk
end Go.Proofs.Ytmoaabjiokjjlaa
