/- Twins: a file system's files, copied one by one, as they lie while Copy is under way. -/
import Derived.Test.YtmoaabjiokjjlaaFsQ
import Derived.Test.YtmoaabjiokjjlaaPtrM
namespace Go.Proofs.Ytmoaabjiokjjlaa
open Go.RowKit Go.Maps
set_option linter.unusedVariables false
set_option linter.unusedSimpArgs false

/-- The files of D have a twin: where it lies. -/
structure TwAt (w : World) (B tg : Nat) (q : Pl) (S : Fs) (D : List Nat) (tb : Nat → Nat) (tv : Nat → Value) : Prop where
  map : MapP w tg (D.map fun i => (q.fb i, tb i))
  low : tg < B
  nod : D.Nodup
  lv : ∀ i ∈ D, q.lv i
  file : ∀ i ∈ D, ∃ x, S.files[i]? = some x ∧ FlAt w (tb i) (tv i) x
  lo : ∀ i ∈ D, B ≤ tb i
  lov : ∀ i ∈ D, ∀ k, (tv i).ownBlock = some k → B ≤ k
  inj : ∀ i j, i ∈ D → j ∈ D → tb i = tb j → i = j
  rows : ∀ i j k, i ∈ D → j ∈ D → (tv i).ownBlock = some k → (tv j).ownBlock = some k → i = j
section
variable {w w' : World} {B tg : Nat} {q : Pl} {S : Fs} {D : List Nat} {tb tb' : Nat → Nat} {tv tv' : Nat → Value} {F : Nat → Prop}
theorem TwAt.same (h : TwAt w B tg q S D tb tv) (ht : w'.heap[tg]? = w.heap[tg]?) (hw : ∀ k, k < w.heap.size → (∃ i ∈ D, tb i = k ∨ (tv i).ownBlock = some k) → w'.heap[k]? = w.heap[k]?) : TwAt w' B tg q S D tb tv := by
  refine ⟨h.map.same ht, h.low, h.nod, h.lv, fun i hi => ?_, h.lo, h.lov, h.inj, h.rows⟩
  obtain ⟨x, hx, hf⟩ := h.file i hi
  exact ⟨x, hx, hf.same (hw _ hf.cel.blk ⟨i, hi, .inl rfl⟩) fun k hk => hw k (hf.own.lt k hk).2 ⟨i, hi, .inr hk⟩⟩
theorem TwAt.chg {C : Nat → Prop} (h : TwAt w B tg q S D tb tv) (hc : Chg C w w') (hn : ∀ k, k < w.heap.size → C k → k < B ∧ k ≠ tg) : TwAt w' B tg q S D tb tv :=
  h.same (hc.block _ h.map.lt fun e => (hn _ h.map.lt e).2 rfl) fun k hk ⟨i, hi, hik⟩ => hc.block k hk fun e => by
    have h1 := (hn k hk e).1
    rcases hik with h2 | h2
    · have := h.lo i hi; omega
    · have := h.lov i hi k h2; omega
theorem TwAt.below (h : TwAt w B tg q S D tb tv) (hb : Below w.heap.size w w') : TwAt w' B tg q S D tb tv := h.same (hb.block _ h.map.lt) fun k hk _ => hb.block k hk
theorem look_tw (h : TwAt w B tg q S D tb tv) (hA : FsAt w F q S) (i : Nat) (hi : q.lv i) : lookP (D.map fun i => (q.fb i, tb i)) (q.fb i) = if i ∈ D then some (tb i) else none := by
  have hl : ∀ L : List Nat, (∀ j ∈ L, q.lv j) → lookP (L.map fun i => (q.fb i, tb i)) (q.fb i) = if i ∈ L then some (tb i) else none := by
    intro L
    induction L with
    | nil => intro _; rfl
    | cons j L ih =>
      intro hL
      have ih' := ih fun k hk => hL k (List.mem_cons_of_mem _ hk)
      unfold lookP at ih' ⊢
      rw [List.map_cons, List.find?_cons]
      by_cases e : q.fb j = q.fb i
      · have : j = i := hA.inj j i (hL j (List.mem_cons_self ..)) hi e
        subst this
        simp
      · have hne : ¬ i = j := fun h => e (by rw [h])
        have : ((q.fb j, tb j).1 == q.fb i) = false := by simpa using e
        rw [this]
        simp only [List.mem_cons, hne, false_or]
        exact ih'
  exact hl D h.lv
theorem isRow_of (hA : FsAt w F q S) (i : Nat) (hi : q.lv i) : IsRow w (q.fb i) := by
  obtain ⟨x, _, hf⟩ := hA.file i hi
  obtain ⟨cs, h1, _⟩ := hf.cel
  exact ⟨cs, _, h1⟩
theorem keys_row (h : TwAt w B tg q S D tb tv) (hA : FsAt w F q S) : ∀ p ∈ D.map (fun i => (q.fb i, tb i)), IsRow w p.1 := fun p hp => by
  obtain ⟨i, hi, rfl⟩ := List.mem_map.1 hp
  exact isRow_of hA i (h.lv i hi)
def upN (f : Nat → Nat) (i v : Nat) (j : Nat) : Nat := if j = i then v else f j
def upV (f : Nat → Value) (i : Nat) (v : Value) (j : Nat) : Value := if j = i then v else f j
/-- One twin more. -/
theorem TwAt.more {g : Nat} {v : Value} {i : Nat} {x : Fl} (h : TwAt w B tg q S D tb tv) (hiD : i ∉ D) (hi : q.lv i) (hx : S.files[i]? = some x)
    (hm : MapP w' tg (D.map (fun i => (q.fb i, tb i)) ++ [(q.fb i, g)])) (hf : FlAt w' g v x) (hw : ∀ k, k < w.heap.size → (∃ i ∈ D, tb i = k ∨ (tv i).ownBlock = some k) → w'.heap[k]? = w.heap[k]?)
    (hg : B ≤ g) (hgn : w.heap.size ≤ g) (hv : ∀ k, v.ownBlock = some k → B ≤ k ∧ w.heap.size ≤ k) : TwAt w' B tg q S (D ++ [i]) (upN tb i g) (upV tv i v) := by
  have hne : ∀ j ∈ D, j ≠ i := fun j hj e => hiD (e ▸ hj)
  have eN : ∀ j ∈ D, upN tb i g j = tb j := fun j hj => if_neg (hne j hj)
  have eV : ∀ j ∈ D, upV tv i v j = tv j := fun j hj => if_neg (hne j hj)
  have eNi : upN tb i g i = g := if_pos rfl
  have eVi : upV tv i v i = v := if_pos rfl
  have hmem : ∀ j, j ∈ D ++ [i] → j ∈ D ∨ j = i := fun j hj => by
    rcases List.mem_append.1 hj with h | h
    · exact .inl h
    · exact .inr (List.mem_singleton.1 h)
  have hlt : ∀ j ∈ D, tb j < w.heap.size ∧ ∀ k, (tv j).ownBlock = some k → k < w.heap.size := fun j hj => by
    obtain ⟨y, _, hy⟩ := h.file j hj
    exact ⟨hy.cel.blk, fun k hk => (hy.own.lt k hk).2⟩
  refine ⟨?_, h.low, ?_, ?_, ?_, ?_, ?_, ?_, ?_⟩
  · rw [List.map_append, List.map_cons, List.map_nil, eNi]
    have : (D.map fun j => (q.fb j, upN tb i g j)) = D.map fun j => (q.fb j, tb j) := List.map_congr_left fun j hj => by rw [eN j hj]
    rw [this]; exact hm
  · rw [List.nodup_append]
    exact ⟨h.nod, by simp, fun a ha b hb => by rw [List.mem_singleton.1 hb]; exact hne a ha⟩
  · intro j hj
    rcases hmem j hj with hj | rfl
    · exact h.lv j hj
    · exact hi
  · intro j hj
    rcases hmem j hj with hj | rfl
    · obtain ⟨y, hy, hfy⟩ := h.file j hj
      rw [eN j hj, eV j hj]
      exact ⟨y, hy, hfy.same (hw _ hfy.cel.blk ⟨j, hj, .inl rfl⟩) fun k hk => hw k (hfy.own.lt k hk).2 ⟨j, hj, .inr hk⟩⟩
    · rw [eNi, eVi]; exact ⟨x, hx, hf⟩
  · intro j hj
    rcases hmem j hj with hj | rfl
    · rw [eN j hj]; exact h.lo j hj
    · rw [eNi]; exact hg
  · intro j hj k hk
    rcases hmem j hj with hj | rfl
    · rw [eV j hj] at hk; exact h.lov j hj k hk
    · rw [eVi] at hk; exact (hv k hk).1
  · intro a b ha hb e
    rcases hmem a ha with ha' | rfl
    · rcases hmem b hb with hb' | rfl
      · rw [eN a ha', eN b hb'] at e; exact h.inj a b ha' hb' e
      · rw [eN a ha', eNi] at e; have := (hlt a ha').1; omega
    · rcases hmem b hb with hb' | rfl
      · rw [eN b hb', eNi] at e; have := (hlt b hb').1; omega
      · rfl
  · intro a b k ha hb e1 e2
    rcases hmem a ha with ha' | rfl
    · rcases hmem b hb with hb' | rfl
      · rw [eV a ha'] at e1; rw [eV b hb'] at e2; exact h.rows a b k ha' hb' e1 e2
      · rw [eV a ha'] at e1; rw [eVi] at e2; have := (hlt a ha').2 k e1; have := (hv k e2).2; omega
    · rcases hmem b hb with hb' | rfl
      · rw [eV b hb'] at e2; rw [eVi] at e1; have := (hlt b hb').2 k e2; have := (hv k e1).2; omega
      · rfl
/-- What a call of twin leaves. -/
def TwPost (w : World) (B tg : Nat) (q : Pl) (S : Fs) (D : List Nat) (tb : Nat → Nat) (tv : Nat → Value) (i : Nat) (e : Ending) (w' : World) : Prop :=
  ∃ D' tb' tv', e = .returned (ptrV (tb' i)) ∧ i ∈ D' ∧ TwAt w' B tg q S D' tb' tv' ∧ (∀ j ∈ D, j ∈ D' ∧ tb' j = tb j ∧ tv' j = tv j) ∧ Chg (fun k => k = tg) w w' ∧
    (∀ j ∈ D', j ∉ D → w.heap.size ≤ tb' j ∧ ∀ k, (tv' j).ownBlock = some k → w.heap.size ≤ k)
end
end Go.Proofs.Ytmoaabjiokjjlaa
