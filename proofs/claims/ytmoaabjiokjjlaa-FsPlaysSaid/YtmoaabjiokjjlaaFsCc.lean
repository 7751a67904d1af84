/- A file system while it is copied: what the copy has so far. -/
import Derived.Test.YtmoaabjiokjjlaaFsCb
namespace Go.Proofs.Ytmoaabjiokjjlaa
open Go.RowKit Go.Maps
set_option linter.unusedVariables false
set_option linter.unusedSimpArgs false

/-- Where the copy's parts lie. -/
def cpPl (pc mn ml : Nat) (vc : Value) (tb : Nat → Nat) (tv : Nat → Value) (D : List Nat) : Pl := ⟨pc, mn, ml, vc, tb, tv, fun i => i ∈ D⟩
structure CpSt (w0 w : World) (B pc tg tc mn ml : Nat) (q : Pl) (S : Fs) (D : List Nat) (tb : Nat → Nat) (tv : Nat → Value) (l1 l2 : Ns) (vc : Value) (k : Nat) : Prop where
  low : Below w0.heap.size w0 w
  cel : Cel w pc 61 6 (fsF (cpPl pc mn ml vc tb tv D) S)
  ctc : Cel w tc 83 1 (fun _ => .map (some tg))
  tw : TwAt w B tg q S D tb tv
  m1 : MapN w mn tb l1
  m2 : MapN w ml tb l2
  own : OwnS w B 73 1 vc k ((S.wait.take k).map (chV tb))
  in1 : ∀ p ∈ l1, p.2 ∈ D
  in2 : ∀ p ∈ l2, p.2 ∈ D
  in3 : ∀ c ∈ S.wait.take k, ∀ i, chId c = some i → i ∈ D
  vcd : ∀ j, vc.ownBlock = some j → ∀ i ∈ D, tb i ≠ j ∧ (tv i).ownBlock ≠ some j
  ord : w0.heap.size ≤ pc ∧ pc < tg ∧ tg < tc ∧ tc < mn ∧ mn < ml ∧ ml < B
  szB : B ≤ w.heap.size
section
variable {w0 w w' : World} {B pc tg tc mn ml : Nat} {q : Pl} {S : Fs} {D : List Nat} {tb : Nat → Nat} {tv : Nat → Value} {l1 l2 : Ns} {vc : Value} {k : Nat} {F : Nat → Prop}
theorem CpSt.below (h : CpSt w0 w B pc tg tc mn ml q S D tb tv l1 l2 vc k) (hb : Below w.heap.size w w') : CpSt w0 w' B pc tg tc mn ml q S D tb tv l1 l2 vc k :=
  ⟨h.low.trans (hb.mono h.low.size), h.cel.below hb h.cel.blk, h.ctc.below hb h.ctc.blk, h.tw.below hb, h.m1.below hb h.m1.lt, h.m2.below hb h.m2.lt, h.own.keptB hb, h.in1, h.in2, h.in3, h.vcd, h.ord, Nat.le_trans h.szB hb.size⟩
theorem CpSt.sizeB (h : CpSt w0 w B pc tg tc mn ml q S D tb tv l1 l2 vc k) : ml < w.heap.size := h.m2.lt
/-- A call of twin. -/
theorem CpSt.twin {D' : List Nat} {tb' : Nat → Nat} {tv' : Nat → Value} (h : CpSt w0 w B pc tg tc mn ml q S D tb tv l1 l2 vc k) (ht : TwAt w' B tg q S D' tb' tv') (hs : ∀ j ∈ D, j ∈ D' ∧ tb' j = tb j ∧ tv' j = tv j) (hc : Chg (fun k => k = tg) w w')
    (hn : ∀ j ∈ D', j ∉ D → w.heap.size ≤ tb' j ∧ ∀ k, (tv' j).ownBlock = some k → w.heap.size ≤ k) : CpSt w0 w' B pc tg tc mn ml q S D' tb' tv' l1 l2 vc k := by
  obtain ⟨o1, o2, o3, o4, o5, o6⟩ := h.ord
  refine ⟨h.low.trans (hc.below h.low.size (fun i hi e => by omega)), ?_, h.ctc.chg hc (by omega), ht, (h.m1.chg hc (by omega)).congr fun p hp => (hs _ (h.in1 p hp)).2.1.symm, (h.m2.chg hc (by omega)).congr fun p hp => (hs _ (h.in2 p hp)).2.1.symm, ?_,
    fun p hp => (hs _ (h.in1 p hp)).1, fun p hp => (hs _ (h.in2 p hp)).1, fun c hc' i hi => (hs _ (h.in3 c hc' i hi)).1, fun j hj i hi => ?_, h.ord, Nat.le_trans h.szB hc.size⟩
  · exact (h.cel.chg hc (by omega)).congr fun i hi => rfl
  · have := h.own.chg hc (fun j hj e => by have := (h.own.lt j hj).1; omega)
    have e : (S.wait.take k).map (chV tb) = (S.wait.take k).map (chV tb') := List.map_congr_left fun c hc' => chV_congr fun i hi => (hs _ (h.in3 c hc' i hi)).2.1.symm
    rwa [e] at this
  · by_cases hiD : i ∈ D
    · rw [(hs i hiD).2.1, (hs i hiD).2.2]; exact h.vcd j hj i hiD
    · obtain ⟨h1, h2⟩ := hn i hi hiD
      have hjl := (h.own.lt j hj).2
      exact ⟨by omega, fun e => by have := h2 j e; omega⟩
theorem CpSt.put1 {s : Nm} {i : Nat} (h : CpSt w0 w B pc tg tc mn ml q S D tb tv l1 l2 vc k) (hm : MapN w' mn tb (putN l1 s i)) (hg : w.grownBy w' (some mn)) (hi : i ∈ D) : CpSt w0 w' B pc tg tc mn ml q S D tb tv (putN l1 s i) l2 vc k := by
  obtain ⟨o1, o2, o3, o4, o5, o6⟩ := h.ord
  have hc : Chg (fun k => k = mn) w w' := Chg.of_grown hg (fun k hk => by injection hk with hk; exact hk.symm)
  refine ⟨h.low.trans (hc.below h.low.size (fun i hi e => by omega)), h.cel.chg hc (by omega), h.ctc.chg hc (by omega), h.tw.chg hc (fun k _ e => by omega), hm, h.m2.chg hc (by omega), h.own.chg hc (fun j hj e => by have := (h.own.lt j hj).1; omega), fun p hp => ?_, h.in2, h.in3, h.vcd, h.ord, Nat.le_trans h.szB hc.size⟩
  rcases putN_mem.1 hp with rfl | ⟨h1, _⟩
  · exact hi
  · exact h.in1 p h1
theorem CpSt.put2 {s : Nm} {i : Nat} (h : CpSt w0 w B pc tg tc mn ml q S D tb tv l1 l2 vc k) (hm : MapN w' ml tb (putN l2 s i)) (hg : w.grownBy w' (some ml)) (hi : i ∈ D) : CpSt w0 w' B pc tg tc mn ml q S D tb tv l1 (putN l2 s i) vc k := by
  obtain ⟨o1, o2, o3, o4, o5, o6⟩ := h.ord
  have hc : Chg (fun k => k = ml) w w' := Chg.of_grown hg (fun k hk => by injection hk with hk; exact hk.symm)
  refine ⟨h.low.trans (hc.below h.low.size (fun i hi e => by omega)), h.cel.chg hc (by omega), h.ctc.chg hc (by omega), h.tw.chg hc (fun k _ e => by omega), h.m1.chg hc (by omega), hm, h.own.chg hc (fun j hj e => by have := (h.own.lt j hj).1; omega), h.in1, fun p hp => ?_, h.in3, h.vcd, h.ord, Nat.le_trans h.szB hc.size⟩
  rcases putN_mem.1 hp with rfl | ⟨h1, _⟩
  · exact hi
  · exact h.in2 p h1
/-- A change is laid behind the copy's changes. -/
theorem CpSt.app {v : Value} {c : Ch} (h : CpSt w0 w B pc tg tc mn ml q S D tb tv l1 l2 vc k) (hk : S.wait[k]? = some c) (ho : OwnS w' B 73 1 v (k + 1) ((S.wait.take k).map (chV tb) ++ [chV tb c])) (hg : w.grownBy w' vc.ownBlock)
    (hv : ∀ j, v.ownBlock = some j → vc.ownBlock = some j ∨ w.heap.size ≤ j) (hi : ∀ i, chId c = some i → i ∈ D) : CpSt w0 (w'.setCell ⟨pc, 3, none⟩ v) B pc tg tc mn ml q S D tb tv l1 l2 v (k + 1) := by
  obtain ⟨o1, o2, o3, o4, o5, o6⟩ := h.ord
  have htk : S.wait.take (k + 1) = S.wait.take k ++ [c] := by rw [List.take_add_one, hk]; rfl
  have hB : ∀ j, vc.ownBlock = some j → B ≤ j := fun j hj => (h.own.lt j hj).1
  have hsz := h.m2.lt
  have hne : ∀ j, j < B → some j ≠ vc.ownBlock := fun j hj e => by have := hB j e.symm; omega
  have hc : Chg (fun j => vc.ownBlock = some j) w w' := Chg.of_grown hg (fun j hj => hj)
  refine ⟨?_, ?_, ?_, ?_, ?_, ?_, ?_, h.in1, h.in2, ?_, ?_, h.ord, by simpa using Nat.le_trans h.szB hc.size⟩
  · exact (h.low.grown hg h.low.size (fun j hj => by have := hB j hj; omega)).setCell (p := ⟨pc, 3, none⟩) o1 v
  · refine ((h.cel.chg hc (fun e => by have := hB _ e; omega)).set 3 v).congr fun j hj => ?_
    have : j = 0 ∨ j = 1 ∨ j = 2 ∨ j = 3 ∨ j = 4 ∨ j = 5 := by omega
    rcases this with rfl | rfl | rfl | rfl | rfl | rfl <;> rfl
  · exact (h.ctc.chg hc (fun e => by have := hB _ e; omega)).setFar (by show tc ≠ pc; omega) v
  · refine h.tw.same ((Below.heap_setCell _ _ _ _ (by show tg ≠ pc; omega)).trans (hc.block tg h.tw.map.lt (fun e => by have := hB _ e; omega))) fun j hj hx => ?_
    obtain ⟨i, hi, hx⟩ := hx
    have hjB : B ≤ j := by
      rcases hx with h1 | h1
      · have := h.tw.lo i hi; omega
      · exact h.tw.lov i hi j h1
    refine (Below.heap_setCell _ _ _ _ (by show j ≠ pc; omega)).trans (hc.block j hj fun e => ?_)
    obtain ⟨h1, h2⟩ := h.vcd j e i hi
    rcases hx with h3 | h3
    · exact h1 h3
    · exact h2 h3
  · exact (h.m1.chg hc (fun e => by have := hB _ e; omega)).same (Below.heap_setCell _ _ _ _ (by show mn ≠ pc; omega))
  · exact (h.m2.chg hc (fun e => by have := hB _ e; omega)).same (Below.heap_setCell _ _ _ _ (by show ml ≠ pc; omega))
  · rw [htk, List.map_append, List.map_cons, List.map_nil]
    exact ho.setLow (a := ⟨pc, 3, none⟩) (by show pc < B; omega) v
  · intro d hd i hi'
    rw [htk] at hd
    rcases List.mem_append.1 hd with hd | hd
    · exact h.in3 d hd i hi'
    · rw [List.mem_singleton.1 hd] at hi'; exact hi i hi'
  · intro j hj i hi'
    rcases hv j hj with h1 | h1
    · exact h.vcd j h1 i hi'
    · obtain ⟨x, _, hf⟩ := h.tw.file i hi'
      exact ⟨by have := hf.cel.blk; omega, fun e => by have := (hf.own.lt j e).2; omega⟩
theorem CpSt.drew (h : CpSt w0 w B pc tg tc mn ml q S D tb tv l1 l2 vc k) : CpSt w0 w.drew B pc tg tc mn ml q S D tb tv l1 l2 vc k := h.below ((Below.refl _ _).drew)
/-- The copy is whole. -/
theorem CpSt.done (h : CpSt w0 w B pc tg tc mn ml q S D tb tv S.now S.last vc S.wait.length) (hA : FsAt w0 F q S) : FsAt w (fun k => w0.heap.size ≤ k) (cpPl pc mn ml vc tb tv D) S := by
  obtain ⟨o1, o2, o3, o4, o5, o6⟩ := h.ord
  refine ⟨h.cel, h.m1, h.m2, ?_, h.tw.file, h.tw.inj, h.tw.rows, by show mn ≠ ml; omega, h.in2, ?_, hA.nms, ⟨o1, by show _ ≤ mn; omega, by show _ ≤ ml; omega, fun k hk => ?_, fun i hi => ?_, fun i k hi hk => ?_⟩⟩
  · have := h.own.base_ (Nat.zero_le _)
    rwa [List.take_of_length_le (Nat.le_refl _)] at this
  · intro c hc i hi
    exact h.in3 c (by rw [List.take_of_length_le (Nat.le_refl _)]; exact hc) i hi
  · have := (h.own.lt k hk).1; omega
  · have := h.tw.lo i hi; show _ ≤ tb i; omega
  · have := h.tw.lov i hi k hk; omega
end
/-- What holds while a twin is asked for and laid into a map of the copy. -/
def CpI (w0 : World) (B pc tg tc mn ml : Nat) (q : Pl) (S : Fs) (l1 l2 l1' l2' : Ns) (vc : Value) (k i : Nat) (R : World → Prop) : List Value → World → Prop
  | [], W => (∃ D tb tv, CpSt w0 W B pc tg tc mn ml q S D tb tv l1 l2 vc k) ∧ R W
  | [v], W => (∃ D tb tv, v = .pointer (some ⟨tb i, 0, none⟩) ∧ i ∈ D ∧ CpSt w0 W B pc tg tc mn ml q S D tb tv l1 l2 vc k) ∧ R W
  | _ :: _ :: _, W => (∃ D tb tv, i ∈ D ∧ CpSt w0 W B pc tg tc mn ml q S D tb tv l1' l2' vc k) ∧ R W
theorem CpI.st {w0 : World} {B pc tg tc mn ml : Nat} {q : Pl} {S : Fs} {l1 l2 l1' l2' : Ns} {vc : Value} {k i : Nat} {R : World → Prop} {vs : List Value} {W : World} (h : CpI w0 B pc tg tc mn ml q S l1 l2 l1' l2' vc k i R vs W) : ∃ D tb tv a b, CpSt w0 W B pc tg tc mn ml q S D tb tv a b vc k := by
  rcases vs with _ | ⟨v, _ | ⟨u, vs⟩⟩
  · obtain ⟨⟨D, tb, tv, h⟩, _⟩ := h; exact ⟨D, tb, tv, _, _, h⟩
  · obtain ⟨⟨D, tb, tv, _, _, h⟩, _⟩ := h; exact ⟨D, tb, tv, _, _, h⟩
  · obtain ⟨⟨D, tb, tv, _, h⟩, _⟩ := h; exact ⟨D, tb, tv, _, _, h⟩
theorem CpI.cel1 {w0 : World} {B pc tg tc mn ml : Nat} {q : Pl} {S : Fs} {l1 l2 l1' l2' : Ns} {vc : Value} {k i : Nat} {R : World → Prop} {vs : List Value} {W : World} (h : CpI w0 B pc tg tc mn ml q S l1 l2 l1' l2' vc k i R vs W) : W.cell? ⟨pc, 1, none⟩ = some (.map (some mn)) := by
  obtain ⟨D, tb, tv, a, b, h⟩ := h.st
  exact h.cel.cell 1 (by decide)
theorem CpI.cel2 {w0 : World} {B pc tg tc mn ml : Nat} {q : Pl} {S : Fs} {l1 l2 l1' l2' : Ns} {vc : Value} {k i : Nat} {R : World → Prop} {vs : List Value} {W : World} (h : CpI w0 B pc tg tc mn ml q S l1 l2 l1' l2' vc k i R vs W) : W.cell? ⟨pc, 2, none⟩ = some (.map (some ml)) := by
  obtain ⟨D, tb, tv, a, b, h⟩ := h.st
  exact h.cel.cell 2 (by decide)
theorem ranges_chg {P : Program} {C : Nat → Prop} {w w' : World} {kt : TypeId} {R : Value → Option (DataW Unit × List MemPlace)} {b r n : Nat} {D : DataW Unit} {left : Lit → Bool} {cnt : Nat} (h : w.ranges P kt R b r n D left cnt) (hc : Chg C w w') (hb : ¬ C b) (hr : ¬ C r) : w'.ranges P kt R b r n D left cnt := by
  have h1 := h.owns.lt
  have h2 := h.lt
  obtain ⟨es, clock, since, seen, c0, e1, F, hs, hD, e2, rest⟩ := h
  exact ⟨es, clock, since, seen, c0, (hc.block b h1 hb).trans e1, F, hs, hD, (hc.block r h2 hr).trans e2, rest⟩
/-- The iterator's own step. -/
theorem CpSt.iter {w0 w w' : World} {B pc tg tc mn ml it : Nat} {q : Pl} {S : Fs} {D : List Nat} {tb : Nat → Nat} {tv : Nat → Value} {l1 l2 : Ns} {vc : Value} {k : Nat} {P : Program} {kt : TypeId} {R : Value → Option (DataW Unit × List MemPlace)} {b n : Nat} {DD : DataW Unit} {left : Lit → Bool} {cnt : Nat}
    (h : CpSt w0 w B pc tg tc mn ml q S D tb tv l1 l2 vc k) (hr : w.ranges P kt R b it n DD left cnt) (hc : Chg (fun k => k = it) w w') (hit : ml < it) : CpSt w0 w' B pc tg tc mn ml q S D tb tv l1 l2 vc k := by
  obtain ⟨o1, o2, o3, o4, o5, o6⟩ := h.ord
  obtain ⟨es, clock, since, seen, c0, e1, _, _, _, e2, _⟩ := hr
  have hcel : ∀ {k : Nat} {t : TypeId} {cs : Array Value} {fr : Nat × Nat}, w.heap[k]? = some (.cells cs t fr) → k ≠ it := fun hk e => by rw [e, e2] at hk; cases hk
  refine ⟨h.low.trans (hc.below h.low.size (fun i hi e => by omega)), h.cel.chg hc (by omega), h.ctc.chg hc (by omega), ?_, h.m1.chg hc (by omega), h.m2.chg hc (by omega), ?_, h.in1, h.in2, h.in3, h.vcd, h.ord, Nat.le_trans h.szB hc.size⟩
  · refine h.tw.same (hc.block tg h.tw.map.lt (by omega)) fun k hk ⟨i, hi, hx⟩ => hc.block k hk ?_
    obtain ⟨x, _, hf⟩ := h.tw.file i hi
    rcases hx with rfl | hx
    · obtain ⟨cs, h1, _⟩ := hf.cel
      exact hcel h1
    · rcases hf.own.2 with ⟨hv, _⟩ | ⟨g, off, cap, cur, hv, _, ⟨fr, hg, _⟩, _⟩
      · rw [hv] at hx; cases hx
      · rw [hv] at hx
        injection hx with hx
        rw [← hx]; exact hcel hg
  · refine h.own.chg hc fun k hk => ?_
    rcases h.own.2 with ⟨hv, _⟩ | ⟨g, off, cap, cur, hv, _, ⟨fr, hg, _⟩, _⟩
    · rw [hv] at hk; cases hk
    · rw [hv] at hk
      injection hk with hk
      rw [← hk]; exact hcel hg
/-- The names that have come: a list that rises. -/
def Came (l l1 : Ns) (left : Lit → Bool) : Prop := Up l1 ∧ ∀ p, p ∈ l1 ↔ p ∈ l ∧ left (.string p.1) = false
theorem Came.start {l : Ns} {left : Lit → Bool} (h : ∀ p ∈ l, left (.string p.1) = true) : Came l [] left :=
  ⟨List.Pairwise.nil, fun p => ⟨fun hp => (by cases hp), fun ⟨h1, h2⟩ => (by rw [h p h1] at h2; cases h2)⟩⟩
theorem Came.done {l l1 : Ns} {left : Lit → Bool} (h : Came l l1 left) (hu : Up l) (hl : ∀ z, left z = false) : l1 = l := up_ext h.1 hu fun p => (h.2 p).trans ⟨fun h => h.1, fun hp => ⟨hp, hl _⟩⟩
theorem Came.step {l l1 : Ns} {left : Lit → Bool} {s : Nm} {i : Nat} (h : Came l l1 left) (hu : Up l) (hm : (s, i) ∈ l) (hl : left (.string s) = true) : Came l (putN l1 s i) (fun z => left z && !z.sameKey (.string s)) := by
  refine ⟨putN_up h.1 s i, fun p => ?_⟩
  have hk : (Lit.string p.1).sameKey (.string s) = (p.1 == s) := rfl
  rw [putN_mem, h.2]
  show _ ↔ p ∈ l ∧ (left (.string p.1) && !((Lit.string p.1).sameKey (.string s))) = false
  rw [hk]
  by_cases e : p.1 = s
  · have e2 : (p.1 == s) = true := by simp [e]
    rw [e2]
    constructor
    · rintro (rfl | ⟨_, h2⟩)
      · exact ⟨hm, by simp⟩
      · exact absurd e h2
    · rintro ⟨h1, _⟩
      left
      obtain ⟨n, j⟩ := p
      have e' : n = s := e
      subst e'
      have h3 := (getN_some hu).2 h1
      have h4 := (getN_some hu).2 hm
      rw [h3] at h4
      injection h4 with h4
      rw [h4]
  · have e2 : (p.1 == s) = false := by simpa using e
    rw [e2]
    constructor
    · rintro (rfl | ⟨⟨h1, h2⟩, _⟩)
      · exact absurd rfl e
      · exact ⟨h1, by simp [h2]⟩
    · rintro ⟨h1, h2⟩
      exact .inr ⟨⟨h1, by simpa using h2⟩, e⟩
end Go.Proofs.Ytmoaabjiokjjlaa
