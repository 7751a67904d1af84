/- The stable sort, in plain lists: what is inserted one by one is what is merged. -/
import Derived.Test.YtndjebddgnmpfaaChg
import Derived.Test.YtndjebddgnmpfaaPh
import Derived.Test.YtndjebddgnmpfaaIdxP
import Derived.Lib.Bytealg
set_option linter.unusedVariables false
namespace Go.Proofs.Ytndjebddgnmpfaa.Srt
variable {α : Type}

/-- A strict weak order. -/
structure Swo (lt : α → α → Bool) : Prop where
  irr : ∀ a, lt a a = false
  tr : ∀ a b c, lt a b = true → lt b c = true → lt a c = true
  co : ∀ a b c, lt b a = false → lt c b = false → lt c a = false

def ins (lt : α → α → Bool) (x : α) : List α → List α
  | [] => [x]
  | y :: l => if lt x y = true then x :: y :: l else y :: ins lt x l
/-- What is inserted one behind the other. -/
def isortA (lt : α → α → Bool) (acc : List α) (l : List α) : List α := l.foldl (fun a x => ins lt x a) acc
def isort (lt : α → α → Bool) (l : List α) : List α := isortA lt [] l
def mrg (lt : α → α → Bool) : List α → List α → List α
  | [], v => v
  | u, [] => u
  | a :: u, b :: v => if lt b a = true then b :: mrg lt (a :: u) v else a :: mrg lt u (b :: v)
  termination_by u v => u.length + v.length

def Sorted (lt : α → α → Bool) (l : List α) : Prop := l.Pairwise fun a b => lt b a = false

section
variable {lt : α → α → Bool}
@[simp] theorem mrg_nil (v : List α) : mrg lt [] v = v := by unfold mrg; rfl
@[simp] theorem mrg_nil' (u : List α) : mrg lt u [] = u := by cases u <;> (unfold mrg; rfl)
theorem mrg_cons (a b : α) (u v : List α) : mrg lt (a :: u) (b :: v) = if lt b a = true then b :: mrg lt (a :: u) v else a :: mrg lt u (b :: v) := by
  rw [mrg]
theorem isort_snoc (l : List α) (x : α) : isort lt (l ++ [x]) = ins lt x (isort lt l) := by
  simp [isort, isortA, List.foldl_append]
theorem isort_nil : isort lt ([] : List α) = [] := rfl
theorem ins_perm (x : α) : ∀ l : List α, (ins lt x l).Perm (x :: l)
  | [] => List.Perm.refl _
  | y :: l => by
    unfold ins
    split
    · exact List.Perm.refl _
    · exact ((ins_perm x l).cons y).trans (List.Perm.swap x y l)
theorem ins_length (x : α) (l : List α) : (ins lt x l).length = l.length + 1 := (ins_perm x l).length_eq
theorem isort_perm (l : List α) : (isort lt l).Perm l := by
  suffices ∀ (l acc : List α), (isortA lt acc l).Perm (acc ++ l) by simpa [isort] using this l []
  intro l
  induction l with
  | nil => intro acc; simp [isortA]
  | cons x l ih =>
    intro acc
    show (isortA lt (ins lt x acc) l).Perm _
    refine (ih _).trans ?_
    refine ((ins_perm x acc).append_right l).trans ?_
    simpa using List.perm_middle.symm
theorem isort_length (l : List α) : (isort lt l).length = l.length := (isort_perm l).length_eq
theorem mem_isort {l : List α} {x : α} : x ∈ isort lt l ↔ x ∈ l := (isort_perm l).mem_iff
theorem ins_sorted (h : Swo lt) (x : α) : ∀ l : List α, Sorted lt l → Sorted lt (ins lt x l)
  | [], _ => by simp [Sorted, ins]
  | y :: l, hl => by
    unfold Sorted at hl ⊢
    obtain ⟨h1, h2⟩ := List.pairwise_cons.1 hl
    unfold ins
    by_cases hc : lt x y = true
    · rw [if_pos hc]
      refine List.pairwise_cons.2 ⟨?_, hl⟩
      have hyx : lt y x = false := by
        cases e : lt y x
        · rfl
        · have := h.tr _ _ _ hc e; rw [h.irr] at this; cases this
      intro z hz
      rcases List.mem_cons.1 hz with rfl | hz
      · exact hyx
      · exact h.co _ _ _ hyx (h1 z hz)
    · rw [if_neg hc]
      refine List.pairwise_cons.2 ⟨?_, ins_sorted h x l h2⟩
      intro z hz
      have hz' := (ins_perm (lt := lt) x l).mem_iff.1 hz
      rcases List.mem_cons.1 hz' with rfl | hz'
      · simpa using hc
      · exact h1 z hz'
theorem isort_sorted (h : Swo lt) (l : List α) : Sorted lt (isort lt l) := by
  suffices ∀ (l acc : List α), Sorted lt acc → Sorted lt (isortA lt acc l) from this l [] List.Pairwise.nil
  intro l
  induction l with
  | nil => intro acc ha; exact ha
  | cons x l ih => intro acc ha; exact ih _ (ins_sorted h x acc ha)
/-- What is inserted behind a merge is inserted into its second part. -/
theorem mrg_ins (h : Swo lt) (x : α) (u v : List α) : mrg lt u (ins lt x v) = ins lt x (mrg lt u v) := by
  induction v generalizing u with
  | nil =>
    induction u with
    | nil => simp [ins]
    | cons a u ih =>
      simp only [ins, mrg_nil'] at ih ⊢
      rw [mrg_cons]
      by_cases hc : lt x a = true
      · rw [if_pos hc, if_pos hc, mrg_nil']
      · rw [if_neg hc, if_neg hc, ih]
  | cons b v ihv =>
    induction u with
    | nil => simp
    | cons a u ihu =>
      by_cases hxb : lt x b = true
      · have e1 : ins lt x (b :: v) = x :: b :: v := by unfold ins; rw [if_pos hxb]
        rw [e1] at ihu ⊢
        rw [mrg_cons, mrg_cons]
        by_cases hba : lt b a = true
        · rw [if_pos hba, if_pos (h.tr _ _ _ hxb hba)]
          show _ = ins lt x (b :: _)
          unfold ins
          rw [if_pos hxb]
        · rw [if_neg hba]
          show _ = ins lt x (a :: _)
          unfold ins
          by_cases hxa : lt x a = true
          · rw [if_pos hxa, if_pos hxa]
          · rw [if_neg hxa, if_neg hxa, ihu]
      · have e1 : ins lt x (b :: v) = b :: ins lt x v := by conv => lhs; unfold ins; rw [if_neg hxb]
        rw [e1] at ihu ⊢
        rw [mrg_cons, mrg_cons]
        by_cases hba : lt b a = true
        · rw [if_pos hba, if_pos hba, ihv]
          conv => rhs; unfold ins; rw [if_neg hxb]
        · rw [if_neg hba, if_neg hba]
          have hxa : ¬ lt x a = true := by
            rw [h.co a b x (by simpa using hba) (by simpa using hxb)]; decide
          conv => rhs; unfold ins; rw [if_neg hxa]
          rw [ihu]
theorem snoc_induct {P : List α → Prop} (h0 : P []) (h1 : ∀ l x, P l → P (l ++ [x])) (l : List α) : P l := by
  have : ∀ l : List α, P l.reverse := by
    intro l
    induction l with
    | nil => exact h0
    | cons x l ih => rw [List.reverse_cons]; exact h1 _ _ ih
  simpa using this l.reverse
theorem isort_append (h : Swo lt) (u v : List α) : isort lt (u ++ v) = mrg lt (isort lt u) (isort lt v) := by
  induction v using snoc_induct with
  | h0 => simp [isort_nil]
  | h1 l x ih => rw [← List.append_assoc, isort_snoc, isort_snoc, ih, mrg_ins h]
theorem mrg_perm (u v : List α) : (mrg lt u v).Perm (u ++ v) := by
  fun_induction mrg lt u v with
  | case1 v => simp
  | case2 u => simp
  | case3 a u b v hc ih => exact (ih.cons b).trans (by simpa using (List.perm_middle (a := b) (l₁ := a :: u) (l₂ := v)).symm)
  | case4 a u b v hc ih => exact ih.cons a
theorem mrg_length (u v : List α) : (mrg lt u v).length = u.length + v.length := by simpa using (mrg_perm (lt := lt) u v).length_eq
theorem mrg_split : ∀ (u1 u2 v1 v2 : List α), (∀ x ∈ u1, ∀ y ∈ v2, lt y x = false) → (∀ x ∈ u2, ∀ y ∈ v1, lt y x = true) → mrg lt (u1 ++ u2) (v1 ++ v2) = mrg lt u1 v1 ++ mrg lt u2 v2
  | [], [], [], v2, _, _ => by simp
  | [], a :: u2, [], v2, _, _ => by simp
  | [], [], b :: v1, v2, _, _ => by simp
  | [], a :: u2, b :: v1, v2, h1, h2 => by
    have hb := h2 a (by simp) b (by simp)
    have ih := mrg_split [] (a :: u2) v1 v2 (fun x hx => by cases hx) (fun x hx y hy => h2 x hx y (by simp [hy]))
    simp only [List.nil_append, List.cons_append, mrg_nil] at ih ⊢
    rw [mrg_cons, if_pos hb, ih]
  | a :: u1, u2, [], [], _, _ => by simp
  | a :: u1, u2, [], b :: v2, h1, h2 => by
    have hb := h1 a (by simp) b (by simp)
    have ih := mrg_split u1 u2 [] (b :: v2) (fun x hx y hy => h1 x (by simp [hx]) y hy) (fun x _ y hy => by cases hy)
    simp only [List.nil_append, List.cons_append, mrg_nil'] at ih ⊢
    rw [mrg_cons, if_neg (by rw [hb]; decide), ih]
  | a :: u1, u2, b :: v1, v2, h1, h2 => by
    have ih1 := mrg_split (a :: u1) u2 v1 v2 h1 (fun x hx y hy => h2 x hx y (by simp [hy]))
    have ih2 := mrg_split u1 u2 (b :: v1) v2 (fun x hx y hy => h1 x (by simp [hx]) y hy) h2
    simp only [List.cons_append] at ih1 ih2 ⊢
    rw [mrg_cons, mrg_cons]
    by_cases hc : lt b a = true
    · rw [if_pos hc, if_pos hc, ih1]; rfl
    · rw [if_neg hc, if_neg hc, ih2]; rfl
  termination_by u1 u2 v1 v2 => u1.length + v1.length
/-- Blocks of a size, each of them sorted. -/
def lvl (lt : α → α → Bool) (bs : Nat) (l : List α) : List α :=
  if h : l = [] ∨ bs = 0 then l else isort lt (l.take bs) ++ lvl lt bs (l.drop bs)
  termination_by l.length
  decreasing_by
  have h1 : l ≠ [] := fun e => h (.inl e)
  have := List.length_pos_iff.2 h1
  rw [List.length_drop]; omega
theorem lvl_short {bs : Nat} {l : List α} (h0 : 0 < bs) (h : l.length ≤ bs) : lvl lt bs l = isort lt l := by
  rw [lvl]
  split
  · rename_i hh
    rcases hh with rfl | hh
    · rfl
    · omega
  · rw [List.take_of_length_le h, List.drop_of_length_le h, lvl, dif_pos (.inl rfl), List.append_nil]
theorem lvl_cut {bs : Nat} (l m : List α) (h0 : 0 < bs) (h : l.length = bs) : lvl lt bs (l ++ m) = isort lt l ++ lvl lt bs m := by
  rw [lvl, dif_neg]
  · rw [List.take_left' h, List.drop_left' h]
  · rintro (hh | hh)
    · have := congrArg List.length hh; rw [List.length_append, List.length_nil] at this; omega
    · omega
theorem lvl_length (bs : Nat) (l : List α) : (lvl lt bs l).length = l.length := by
  fun_induction lvl lt bs l with
  | case1 => rfl
  | case2 l h ih => rw [List.length_append, ih, isort_length, List.length_take, List.length_drop]; omega
theorem mrg_one (x : α) (v1 v2 : List α) (h1 : ∀ y ∈ v1, lt y x = true) (h2 : ∀ y ∈ v2, lt y x = false) : mrg lt [x] (v1 ++ v2) = v1 ++ x :: v2 := by
  have e := mrg_split (lt := lt) [] [x] v1 v2 (fun _ h => by cases h) (fun z hz y hy => by rw [List.mem_singleton.1 hz]; exact h1 y hy)
  have e2 := mrg_split (lt := lt) [x] [] [] v2 (fun z hz y hy => by rw [List.mem_singleton.1 hz]; exact h2 y hy) (fun _ h => by cases h)
  simp only [List.nil_append, List.append_nil, mrg_nil, mrg_nil', List.cons_append] at e e2
  rw [e, e2]
theorem mrg_last (y : α) (u1 u2 : List α) (h1 : ∀ x ∈ u1, lt y x = false) (h2 : ∀ x ∈ u2, lt y x = true) : mrg lt (u1 ++ u2) [y] = u1 ++ y :: u2 := by
  have e := mrg_split (lt := lt) u1 u2 [] [y] (fun z hz w hw => by rw [List.mem_singleton.1 hw]; exact h1 z hz) (fun _ _ _ h => by cases h)
  have e2 := mrg_split (lt := lt) [] u2 [y] [] (fun _ h => by cases h) (fun z hz w hw => by rw [List.mem_singleton.1 hw]; exact h2 z hz)
  simp only [List.nil_append, List.append_nil, mrg_nil, mrg_nil', List.cons_append] at e e2
  rw [e, e2]
theorem ins_at (x : α) : ∀ (l1 l2 : List α), (∀ y ∈ l1, lt x y = false) → (∀ y t, l2 = y :: t → lt x y = true) → ins lt x (l1 ++ l2) = l1 ++ x :: l2
  | [], [], _, _ => rfl
  | [], y :: t, _, h2 => by
    show ins lt x (y :: t) = _
    unfold ins
    rw [if_pos (h2 y t rfl)]; rfl
  | z :: l1, l2, h1, h2 => by
    show ins lt x (z :: (l1 ++ l2)) = _
    unfold ins
    rw [if_neg (by rw [h1 z (by simp)]; decide), ins_at x l1 l2 (fun y hy => h1 y (by simp [hy])) h2]; rfl
/-- What goes for the last of a sorted row goes for all. -/
theorem Sorted.all_lt (h : Swo lt) {l : List α} {x z : α} (hs : Sorted lt (l ++ [z])) (hz : lt z x = true) : ∀ y ∈ l ++ [z], lt y x = true := by
  intro y hy
  rcases List.mem_append.1 hy with hy | hy
  · cases e : lt y x
    · have := (List.pairwise_append.1 hs).2.2 y hy z (by simp)
      have := h.co x y z e this
      rw [hz] at this; cases this
    · rfl
  · rw [List.mem_singleton.1 hy]; exact hz
theorem Sorted.all_le (h : Swo lt) {l : List α} {x z : α} (hs : Sorted lt (l ++ [z])) (hz : lt x z = false) : ∀ y ∈ l ++ [z], lt x y = false := by
  intro y hy
  rcases List.mem_append.1 hy with hy | hy
  · exact h.co y z x ((List.pairwise_append.1 hs).2.2 y hy z (by simp)) hz
  · rw [List.mem_singleton.1 hy]; exact hz
theorem Sorted.all_ge (h : Swo lt) {l : List α} {x z : α} (hs : Sorted lt (z :: l)) (hz : lt z x = false) : ∀ y ∈ z :: l, lt y x = false := by
  intro y hy
  rcases List.mem_cons.1 hy with rfl | hy
  · exact hz
  · exact h.co x z y hz ((List.pairwise_cons.1 hs).1 y hy)
theorem Sorted.all_gt (h : Swo lt) {l : List α} {x z : α} (hs : Sorted lt (z :: l)) (hz : lt x z = true) : ∀ y ∈ z :: l, lt x y = true := by
  intro y hy
  rcases List.mem_cons.1 hy with rfl | hy
  · exact hz
  · cases e : lt x y
    · have := h.co z y x ((List.pairwise_cons.1 hs).1 y hy) e
      rw [hz] at this; cases this
    · rfl
theorem Sorted.left {u v : List α} (h : Sorted lt (u ++ v)) : Sorted lt u := (List.pairwise_append.1 h).1
theorem Sorted.right {u v : List α} (h : Sorted lt (u ++ v)) : Sorted lt v := (List.pairwise_append.1 h).2.1
theorem mrg_sorted (h : Swo lt) : ∀ (u v : List α), Sorted lt u → Sorted lt v → Sorted lt (mrg lt u v)
  | [], v, _, hv => by simpa using hv
  | a :: u, [], hu, _ => by simpa using hu
  | a :: u, b :: v, hu, hv => by
    rw [mrg_cons]
    have h1 := List.pairwise_cons.1 hu
    have h2 := List.pairwise_cons.1 hv
    by_cases hc : lt b a = true
    · rw [if_pos hc]
      refine List.pairwise_cons.2 ⟨?_, mrg_sorted h (a :: u) v hu h2.2⟩
      intro z hz
      have hab : lt a b = false := by
        cases e : lt a b
        · rfl
        · have := h.tr _ _ _ hc e; rw [h.irr] at this; cases this
      rcases List.mem_append.1 ((mrg_perm _ _).mem_iff.1 hz) with hz | hz
      · rcases List.mem_cons.1 hz with rfl | hz
        · exact hab
        · exact h.co _ _ _ hab (h1.1 z hz)
      · exact h2.1 z hz
    · rw [if_neg hc]
      refine List.pairwise_cons.2 ⟨?_, mrg_sorted h u (b :: v) h1.2 hv⟩
      intro z hz
      have hba : lt b a = false := by simpa using hc
      rcases List.mem_append.1 ((mrg_perm _ _).mem_iff.1 hz) with hz | hz
      · exact h1.1 z hz
      · rcases List.mem_cons.1 hz with rfl | hz
        · exact hba
        · exact h.co _ _ _ hba (h2.1 z hz)
  termination_by u v => u.length + v.length
end
end Go.Proofs.Ytndjebddgnmpfaa.Srt
namespace Go.Proofs.Ytndjebddgnmpfaa
open Go.RowKit
set_option linter.unusedVariables false

/-- Cells laid one behind the other. -/
def putCells (w : World) (g : Nat) : Nat → List Value → World
  | _, [] => w
  | o, v :: vs => putCells (w.setCell ⟨g, o, none⟩ v) g (o + 1) vs
section
variable {α : Type} {w w' : World} {T : TypeId} {sz g off cap : Nat} {enc : α → List Value} {L : List α}
/-- A row of elements that lies in a block at a place. -/
structure SRow (w : World) (T : TypeId) (sz : Nat) (enc : α → List Value) (g off cap : Nat) (L : List α) : Prop where
  own : OwnS w 0 T sz (.slice (some ⟨g, off, none⟩) L.length cap) L.length (L.flatMap enc)
  enc : ∀ x, (enc x).length = sz
theorem flat_length (he : ∀ x, (enc x).length = sz) (L : List α) : (L.flatMap enc).length = L.length * sz := by
  induction L with
  | nil => simp
  | cons x L ih => rw [List.flatMap_cons, List.length_append, he, ih, List.length_cons, Nat.succ_mul]; omega
theorem flat_at (he : ∀ x, (enc x).length = sz) : ∀ (L : List α) (i c : Nat) (x : α), L[i]? = some x → c < sz → (L.flatMap enc)[i * sz + c]? = (enc x)[c]?
  | [], _, _, _, h, _ => by simp at h
  | y :: L, 0, c, x, h, hc => by
    simp at h
    subst h
    rw [List.flatMap_cons, Nat.zero_mul, Nat.zero_add, List.getElem?_append_left (by rw [he]; exact hc)]
  | y :: L, i + 1, c, x, h, hc => by
    rw [List.flatMap_cons, List.getElem?_append_right (by rw [he, Nat.succ_mul]; omega), he, show (i + 1) * sz + c - sz = i * sz + c by rw [Nat.succ_mul]; omega]
    exact flat_at he L i c x (by simpa using h) hc
theorem SRow.cell (h : SRow w T sz enc g off cap L) {i c : Nat} {x : α} (hi : L[i]? = some x) (hc : c < sz) : w.cell? ⟨g, off + i * sz + c, none⟩ = some ((enc x).getD c undef) := by
  have hlt : i < L.length := (List.getElem?_eq_some_iff.1 hi).1
  have hmul : i * sz + c < L.length * sz := by
    have h1 : (i + 1) * sz ≤ L.length * sz := Nat.mul_le_mul_right _ hlt
    rw [Nat.succ_mul] at h1
    omega
  have hfl := flat_length h.enc L
  obtain ⟨g', off', c', hv, _, _, hcell⟩ := h.own.cells (by rw [hfl]; omega)
  injection hv with hA
  injection hA with hA
  injection hA with h1 h2
  subst h1; subst h2
  rw [Nat.add_assoc, hcell _ (by rw [hfl]; exact hmul), flat_at h.enc L i c x hi hc, List.getD_eq_getElem?_getD, List.getElem?_eq_getElem (by rw [h.enc]; exact hc)]
  rfl
theorem SRow.blk (h : SRow w T sz enc g off cap L) : g < w.heap.size := (h.own.lt g rfl).2
theorem SRow.capLe (h : SRow w T sz enc g off cap L) : L.length ≤ cap ∧ cap ≤ maxLen := by
  rcases h.own.2 with ⟨hv, _⟩ | ⟨g', off', cap', cur, hv, _, _, hn, hm, _⟩
  · cases hv
  · injection hv with _ _ hc
    subst hc
    exact ⟨hn, hm⟩
theorem SRow.there (h : SRow w T sz enc g off cap L) : ∃ cur fr, w.heap[g]? = some (.cells cur T fr) ∧ (fr.2 ≤ fr.1 ∨ cur.size ≤ fr.1) ∧ off + cap * sz ≤ cur.size := by
  rcases h.own.2 with ⟨hv, _⟩ | ⟨g', off', cap', cur, hv, _, ⟨fr, hg, hf⟩, hn, hm, hs, _⟩
  · cases hv
  · injection hv with hA _ hc
    injection hA with hA
    injection hA with h1 h2
    subst h1; subst h2; subst hc
    exact ⟨cur, fr, hg, hf, hs⟩
theorem SRow.frozen (h : SRow w T sz enc g off cap L) {o : Nat} (ho : o < off + cap * sz) : w.frozen? ⟨g, o, none⟩ = false := by
  obtain ⟨cur, ⟨lo, hi⟩, hg, hf, hs⟩ := h.there
  simp only at hf
  simp only [World.frozen?, hg, Bool.and_eq_false_iff, decide_eq_false_iff_not]
  omega
theorem SRow.freeAt (h : SRow w T sz enc g off cap L) {i c : Nat} (hi : i < L.length) (hc : c < sz) : w.frozen? ⟨g, off + i * sz + c, none⟩ = false := by
  have h1 : (i + 1) * sz ≤ L.length * sz := Nat.mul_le_mul_right _ hi
  have h2 : L.length * sz ≤ cap * sz := Nat.mul_le_mul_right _ h.capLe.1
  rw [Nat.succ_mul] at h1
  exact h.frozen (by omega)
theorem SRow.of_chg (h : SRow w T sz enc g off cap L) {S : Nat → Prop} (hc : Chg S w w') (hn : ¬ S g) : SRow w' T sz enc g off cap L :=
  ⟨h.own.chg hc (fun k hk => by injection hk with hk; subst hk; exact hn), h.enc⟩
theorem SRow.below (h : SRow w T sz enc g off cap L) (hb : Below w.heap.size w w') : SRow w' T sz enc g off cap L := h.of_chg (S := fun _ => False) (Chg.of_below hb) (fun h => h)
theorem OwnS.setAt {base n j : Nat} {e : TypeId} {size : Nat} {xs : List Value} (h : OwnS w base e size (.slice (some ⟨g, off, none⟩) n cap) n xs) (hj : j < xs.length) (u : Value) :
    OwnS (w.setCell ⟨g, off + j, none⟩ u) base e size (.slice (some ⟨g, off, none⟩) n cap) n (xs.set j u) := by
  refine ⟨by rw [List.length_set]; exact h.1, ?_⟩
  rcases h.2 with ⟨hv, _⟩ | ⟨g', off', cap', cur, hv, hb, ⟨fr, hg, hf⟩, hn, hm, hs, ht⟩
  · cases hv
  · injection hv with hA _ hc
    injection hA with hA
    injection hA with h1 h2
    subst h1; subst h2; subst hc
    have hl := h.1
    have hmul : n * size ≤ cap * size := Nat.mul_le_mul_right _ hn
    refine .inr ⟨g, off, cap, cur.setIfInBounds (off + j) u, rfl, hb, ⟨fr, ?_, by rw [Array.size_setIfInBounds]; exact hf⟩, hn, hm, by rw [Array.size_setIfInBounds]; exact hs, ?_⟩
    · simp [World.setCell, Array.getElem?_modify, hg]
    · rw [Array.toList_setIfInBounds, ← ht]
      apply List.ext_getElem?
      intro i
      rw [List.getElem?_set, List.length_take, List.length_drop, Array.length_toList, List.getElem?_take, List.getElem?_take, List.getElem?_drop, List.getElem?_drop, List.getElem?_set, Array.length_toList]
      by_cases hij : j = i
      · subst hij
        rw [if_pos rfl, if_pos rfl, if_pos (by omega), if_pos (by omega), if_pos (by omega)]
      · rw [if_neg (show ¬ off + j = off + i by omega), if_neg hij]
theorem putCells_heap : ∀ (vs : List Value) (w : World) (o k : Nat), k ≠ g → (putCells w g o vs).heap[k]? = w.heap[k]?
  | [], _, _, _, _ => rfl
  | v :: vs, w, o, k, h => by rw [putCells, putCells_heap vs _ _ k h, Below.heap_setCell _ _ _ _ h]
theorem putCells_chg {S : Nat → Prop} (hg : S g) : ∀ (vs : List Value) (w : World) (o : Nat), Chg S w (putCells w g o vs)
  | [], w, _ => Chg.refl _ _
  | v :: vs, w, o => ((Chg.refl S w).setCell (a := ⟨g, o, none⟩) (.inl hg) v).trans (putCells_chg hg vs _ _) (fun _ _ h => h)
theorem OwnS.putAt {base n : Nat} {e : TypeId} {size : Nat} : ∀ (vs : List Value) (j : Nat) (xs : List Value) (w : World), OwnS w base e size (.slice (some ⟨g, off, none⟩) n cap) n xs → j + vs.length ≤ xs.length →
    OwnS (putCells w g (off + j) vs) base e size (.slice (some ⟨g, off, none⟩) n cap) n (xs.take j ++ vs ++ xs.drop (j + vs.length))
  | [], j, xs, w, h, hj => by
    have e : xs.take j ++ [] ++ xs.drop (j + ([] : List Value).length) = xs := by simp
    rw [e]; exact h
  | v :: vs, j, xs, w, h, hj => by
    simp only [List.length_cons] at hj
    have h1 := OwnS.putAt vs (j + 1) (xs.set j v) _ (h.setAt (by omega) v) (by rw [List.length_set]; omega)
    rw [putCells, Nat.add_assoc]
    have e : (xs.set j v).take (j + 1) ++ vs ++ (xs.set j v).drop (j + 1 + vs.length) = xs.take j ++ v :: vs ++ xs.drop (j + (v :: vs).length) := by
      rw [List.drop_set_of_lt (by omega), List.take_add_one, List.take_set_of_le (by omega), List.getElem?_set_self (by omega)]
      simp [Nat.add_assoc, Nat.add_comm 1]
    rwa [e] at h1
theorem flat_set (he : ∀ x, (enc x).length = sz) : ∀ (L : List α) (i : Nat) (x : α), i < L.length → (L.set i x).flatMap enc = (L.flatMap enc).take (i * sz) ++ enc x ++ (L.flatMap enc).drop (i * sz + (enc x).length)
  | [], _, _, h => by simp at h
  | y :: L, 0, x, h => by
    rw [List.set_cons_zero, List.flatMap_cons, List.flatMap_cons, Nat.zero_mul, List.take_zero, List.nil_append, Nat.zero_add, he, List.drop_left' (he y)]
  | y :: L, i + 1, x, h => by
    simp only [List.length_cons] at h
    have hy := he y
    have t1 : ∀ (F : List Value) (n : Nat), (enc y ++ F).take (n + sz) = enc y ++ F.take n := fun F n => by
      rw [List.take_append, List.take_of_length_le (show (enc y).length ≤ n + sz by omega), hy, Nat.add_sub_cancel]
    have d1 : ∀ (F : List Value) (n : Nat), (enc y ++ F).drop (n + sz) = F.drop n := fun F n => by
      rw [List.drop_append, List.drop_of_length_le (show (enc y).length ≤ n + sz by omega), hy, Nat.add_sub_cancel, List.nil_append]
    rw [List.set_cons_succ, List.flatMap_cons, List.flatMap_cons, flat_set he L i x (by omega), Nat.succ_mul, t1, show i * sz + sz + (enc x).length = i * sz + (enc x).length + sz by omega, d1]
    simp [List.append_assoc]
theorem SRow.put (h : SRow w T sz enc g off cap L) {i : Nat} (hi : i < L.length) (x : α) : SRow (putCells w g (off + i * sz) (enc x)) T sz enc g off cap (L.set i x) := by
  have h1 : (i + 1) * sz ≤ L.length * sz := Nat.mul_le_mul_right _ hi
  rw [Nat.succ_mul] at h1
  refine ⟨?_, h.enc⟩
  have := OwnS.putAt (enc x) (i * sz) _ _ h.own (by rw [flat_length h.enc, h.enc]; exact h1)
  rw [← flat_set h.enc L i x hi] at this
  rw [List.length_set]
  exact this
/-- Two places exchanged. -/
theorem set_set (p q s : List α) (x y : α) : ((p ++ x :: q ++ y :: s).set p.length y).set (p.length + 1 + q.length) x = p ++ y :: q ++ x :: s := by
  rw [List.append_assoc, List.set_append_right _ _ (Nat.le_refl _), Nat.sub_self]
  simp only [List.cons_append, List.set_cons_zero]
  rw [List.set_append_right _ _ (by omega), show p.length + 1 + q.length - p.length = q.length + 1 by omega, List.set_cons_succ, List.set_append_right _ _ (Nat.le_refl _), Nat.sub_self]
  simp
theorem set_set' (p q s : List α) (x y : α) : ((p ++ x :: q ++ y :: s).set (p.length + 1 + q.length) x).set p.length y = p ++ y :: q ++ x :: s := by
  rw [List.set_comm _ _ (by omega)]
  exact set_set p q s x y
theorem at_1 (p q s : List α) (x y : α) : (p ++ x :: q ++ y :: s)[p.length]? = some x := by
  rw [List.append_assoc, List.getElem?_append_right (Nat.le_refl _), Nat.sub_self]; rfl
theorem at_2 (p q s : List α) (x y : α) : (p ++ x :: q ++ y :: s)[p.length + 1 + q.length]? = some y := by
  rw [List.append_assoc, List.getElem?_append_right (by omega), show p.length + 1 + q.length - p.length = q.length + 1 by omega, List.cons_append, List.getElem?_cons_succ, List.getElem?_append_right (Nat.le_refl _), Nat.sub_self]; rfl
end
end Go.Proofs.Ytndjebddgnmpfaa
namespace Go.Proofs.Ytndjebddgnmpfaa
open Go.RowKit
set_option linter.unusedVariables false

/-- The kit's comparison of bytes and the order of texts. -/
theorem compare_ltL : ∀ a b : List UInt8, (decide (Lib.compareBytes a b < 0) = ltL (a.map fun x => ((x.toNat : Nat) : Int)) (b.map fun x => ((x.toNat : Nat) : Int))) ∧ (Lib.compareBytes a b = 0 ↔ a = b) ∧ -1 ≤ Lib.compareBytes a b ∧ Lib.compareBytes a b ≤ 1
  | [], [] => by simp [Lib.compareBytes, ltL]
  | [], _ :: _ => by simp [Lib.compareBytes, ltL]
  | _ :: _, [] => by simp [Lib.compareBytes, ltL]
  | x :: xs, y :: ys => by
    obtain ⟨h1, h2, h3, h4⟩ := compare_ltL xs ys
    simp only [List.map_cons, ltL]
    by_cases hxy : x < y
    · have hn := UInt8.lt_iff_toNat_lt.1 hxy
      have hne : x ≠ y := fun h => by subst h; omega
      have e1 : Lib.compareBytes (x :: xs) (y :: ys) = -1 := by simp [Lib.compareBytes, hxy]
      generalize Lib.compareBytes (x :: xs) (y :: ys) = C at *
      subst e1
      simp [hn, hne]
    · by_cases hyx : y < x
      · have hn := UInt8.lt_iff_toNat_lt.1 hyx
        have hne : x ≠ y := fun h => by subst h; omega
        have hn1 : ¬ (x.toNat : Int) < (y.toNat : Int) := by omega
        have hn2 : ¬ (x.toNat : Int) = (y.toNat : Int) := by omega
        have e1 : Lib.compareBytes (x :: xs) (y :: ys) = 1 := by simp [Lib.compareBytes, hxy, hyx]
        generalize Lib.compareBytes (x :: xs) (y :: ys) = C at *
        subst e1
        simp only [decide_eq_false hn1, decide_eq_false hn2]
        simp [hne]
      · have hn1 : ¬ x.toNat < y.toNat := fun h => hxy (UInt8.lt_iff_toNat_lt.2 h)
        have hn2 : ¬ y.toNat < x.toNat := fun h => hyx (UInt8.lt_iff_toNat_lt.2 h)
        have heq : x.toNat = y.toNat := by omega
        have he : x = y := UInt8.toNat_inj.1 heq
        subst he
        have e1 : Lib.compareBytes (x :: xs) (x :: ys) = Lib.compareBytes xs ys := by simp [Lib.compareBytes, hxy]
        generalize Lib.compareBytes (x :: xs) (x :: ys) = C at *
        subst e1
        simp [h1, h2, h3, h4]
/-- What the comparison of two texts answers. -/
def cmpS (a b : ByteArray) : Int := Lib.compareBytes a.data.toList b.data.toList
theorem cmpS_lt (a b : ByteArray) : decide (cmpS a b < 0) = ltL (bytesOf a) (bytesOf b) := (compare_ltL _ _).1
theorem cmpS_eq (a b : ByteArray) : cmpS a b = 0 ↔ a = b := by
  refine (compare_ltL _ _).2.1.trans ⟨fun h => ?_, fun h => by rw [h]⟩
  obtain ⟨⟨a⟩⟩ := a
  obtain ⟨⟨b⟩⟩ := b
  simp only at h
  subst h
  rfl
theorem cmpS_bound (a b : ByteArray) : -1 ≤ cmpS a b ∧ cmpS a b ≤ 1 := (compare_ltL _ _).2.2
set_option maxRecDepth 100000 in
theorem cmpstr_any (a b : ByteArray) (w : World) : Calls Try.prog 45 #[.string a, .string b] w fun e w' => e = .returned (.int .i64 (cmpS a b)) ∧ w' = w := by
  go_enter Try.func45, Try.ntmps45
  go_wp2
  rw [run_callFunc_extern Try.func54 (by kernel_rfl) (by kernel_rfl) (by kernel_rfl) (e := Extern.BytealgCompare.compare) (by kernel_rfl), Lib.run_compareString]
  simp only [Result.andThen]
  rw [Oper.upon_value]
  go_wp2
  go_ret
  exact ⟨rfl, rfl⟩
set_option maxRecDepth 100000 in
theorem compare_any (a b : ByteArray) (w : World) : Calls Try.prog 23 #[.string a, .string b] w fun e w' => e = .returned (.int .i64 (cmpS a b)) ∧ w' = w := by
  go_enter Try.func23, Try.ntmps23
  go_wp2_with fail
  refine (cmpstr_any a b _).mono ?_
  rintro e w' ⟨rfl, rfl⟩
  go_wp2
  go_ret
  exact ⟨rfl, rfl⟩
/-- An object as it lies in memory. -/
structure El where
  kind : Int
  A : Option Addr
  n : Nat
  c : Nat
  id : ByteArray
  at_ : Int
  crc : Int
def encE (x : El) : List Value := [.int .i64 x.kind, .slice x.A x.n x.c, .string x.id, .int .i64 x.at_, .int .u32 x.crc]
theorem encE_len (x : El) : (encE x).length = 5 := rfl
/-- What the sort asks of each element. -/
def okE (x : El) : Prop := True
def ltE (x y : El) : Bool := ltL (bytesOf x.id) (bytesOf y.id)
def cmpE (x y : El) : Int := cmpS x.id y.id
theorem ltL_co {a b c : List Int} (h1 : ltL b a = false) (h2 : ltL c b = false) : ltL c a = false := by
  have t1 := ltL_tot b a
  have t2 := ltL_tot c b
  rw [h1] at t1
  rw [h2] at t2
  simp only [Bool.not_false, Bool.or_eq_true, decide_eq_true_eq, Bool.true_eq] at t1 t2
  rcases t1 with t1 | rfl
  · rcases t2 with t2 | rfl
    · have h3 := ltL_trans t1 t2
      have t3 := ltL_tot c a
      cases h : ltL c a
      · rfl
      · have := ltL_trans h3 h
        rw [ltL_irr] at this
        cases this
    · exact h1
  · exact h2
theorem swoE : Srt.Swo ltE := ⟨fun a => ltL_irr _, fun a b c h1 h2 => ltL_trans h1 h2, fun a b c h1 h2 => ltL_co h1 h2⟩
theorem cmpE_lt (x y : El) : decide (cmpE x y < 0) = ltE x y := cmpS_lt _ _
set_option maxRecDepth 100000 in
theorem cmp_any (x y : El) (w : World) (hx : okE x) (hy : okE y) :
    Calls Try.prog 22 #[.agg #[.int .i64 x.kind, .slice x.A x.n x.c, .string x.id, .int .i64 x.at_, .int .u32 x.crc], .agg #[.int .i64 y.kind, .slice y.A y.n y.c, .string y.id, .int .i64 y.at_, .int .u32 y.crc]] w fun e w' => e = .returned (.int .i64 (cmpE x y)) ∧ Below w.heap.size w w' := by
  obtain ⟨xk, xA, xn, xc, xi, xt, xr⟩ := x
  obtain ⟨yk, yA, yn, yc, yi, yt, yr⟩ := y
  unfold cmpE
  simp only
  go_enter Try.func22, Try.ntmps22
  go_wp2_with fail
  refine (compare_any xi yi _).mono ?_
  rintro e w' ⟨rfl, rfl⟩
  go_wp2
  go_ret
  exact ⟨rfl, (((Below.refl _ _).alloc (Nat.le_refl _) _).alloc (by simp) _)⟩
/-- A call that has put the row in another order, and changed nothing else that was there. -/
def SrtPost (g off cap : Nat) (L : List El) (w : World) (e : Ending) (w' : World) : Prop :=
  e = .returned (.tuple #[]) ∧ Chg (fun k => k = g) w w' ∧ SRow w' 30 5 encE g off cap L
/-- What holds between a walk's steps: the row, and what has changed since W. -/
def SrtAt (W : World) (g off cap : Nat) (L : List El) (w : World) : Prop :=
  Chg (fun k => k = g) W w ∧ SRow w 30 5 encE g off cap L
theorem SrtAt.below {W w w' : World} {g off cap : Nat} {L : List El} (h : SrtAt W g off cap L w) (hb : Below w.heap.size w w') : SrtAt W g off cap L w' :=
  ⟨h.1.trans (S' := fun _ => False) (Chg.of_below hb) (fun _ _ h => h.elim), h.2.below hb⟩
theorem SrtAt.drew {W w : World} {g off cap : Nat} {L : List El} (h : SrtAt W g off cap L w) : SrtAt W g off cap L w.drew := h.below (Below.refl _ _).drew
theorem SrtAt.put {W w : World} {g off cap i : Nat} {L : List El} (h : SrtAt W g off cap L w) (hi : i < L.length) (x : El) : SrtAt W g off cap (L.set i x) (putCells w g (off + i * 5) (encE x)) :=
  ⟨h.1.trans (putCells_chg (S := fun k => k = g) rfl _ _ _) (fun _ _ h => h), h.2.put hi x⟩
theorem SrtAt.c0 {W w : World} {g off cap i : Nat} {L : List El} {x : El} (h : SrtAt W g off cap L w) (hi : L[i]? = some x) : w.cell? ⟨g, off + i * 5, none⟩ = some (.int .i64 x.kind) := h.2.cell (c := 0) hi (by decide)
theorem SrtAt.c1 {W w : World} {g off cap i : Nat} {L : List El} {x : El} (h : SrtAt W g off cap L w) (hi : L[i]? = some x) : w.cell? ⟨g, off + i * 5 + 1, none⟩ = some (.slice x.A x.n x.c) := h.2.cell (c := 1) hi (by decide)
theorem SrtAt.c2 {W w : World} {g off cap i : Nat} {L : List El} {x : El} (h : SrtAt W g off cap L w) (hi : L[i]? = some x) : w.cell? ⟨g, off + i * 5 + 2, none⟩ = some (.string x.id) := h.2.cell (c := 2) hi (by decide)
theorem SrtAt.c3 {W w : World} {g off cap i : Nat} {L : List El} {x : El} (h : SrtAt W g off cap L w) (hi : L[i]? = some x) : w.cell? ⟨g, off + i * 5 + 3, none⟩ = some (.int .i64 x.at_) := h.2.cell (c := 3) hi (by decide)
theorem SrtAt.c4 {W w : World} {g off cap i : Nat} {L : List El} {x : El} (h : SrtAt W g off cap L w) (hi : L[i]? = some x) : w.cell? ⟨g, off + i * 5 + 4, none⟩ = some (.int .u32 x.crc) := h.2.cell (c := 4) hi (by decide)
theorem SrtAt.f0 {W w : World} {g off cap i : Nat} {L : List El} (h : SrtAt W g off cap L w) (hi : i < L.length) : w.frozen? ⟨g, off + i * 5, none⟩ = false := h.2.freeAt (c := 0) hi (by decide)
theorem SrtAt.f1 {W w : World} {g off cap i : Nat} {L : List El} (h : SrtAt W g off cap L w) (hi : i < L.length) : w.frozen? ⟨g, off + i * 5 + 1, none⟩ = false := h.2.freeAt (c := 1) hi (by decide)
theorem SrtAt.f2 {W w : World} {g off cap i : Nat} {L : List El} (h : SrtAt W g off cap L w) (hi : i < L.length) : w.frozen? ⟨g, off + i * 5 + 2, none⟩ = false := h.2.freeAt (c := 2) hi (by decide)
theorem SrtAt.f3 {W w : World} {g off cap i : Nat} {L : List El} (h : SrtAt W g off cap L w) (hi : i < L.length) : w.frozen? ⟨g, off + i * 5 + 3, none⟩ = false := h.2.freeAt (c := 3) hi (by decide)
theorem SrtAt.f4 {W w : World} {g off cap i : Nat} {L : List El} (h : SrtAt W g off cap L w) (hi : i < L.length) : w.frozen? ⟨g, off + i * 5 + 4, none⟩ = false := h.2.freeAt (c := 4) hi (by decide)
theorem SrtAt.start {W : World} {g off cap : Nat} {L : List El} (h : SRow W 30 5 encE g off cap L) : SrtAt W g off cap L W := ⟨Chg.refl _ _, h⟩
/-- Between the operations of an exchange. -/
def ISwap (W : World) (g off cap i j : Nat) (x y : El) (L : List El) : List Value → World → Prop
  | [], w => SrtAt W g off cap L w
  | [_], w => SrtAt W g off cap (L.set i y) w
  | _, w => SrtAt W g off cap ((L.set i y).set j x) w
end Go.Proofs.Ytndjebddgnmpfaa
namespace Go.Proofs.Ytndjebddgnmpfaa
open Go.RowKit
set_option linter.unusedVariables false
set_option linter.unusedSimpArgs false

theorem swap_parts {α : Type} (p x1 x2 q y1 y2 s : List α) (u v : α) : p ++ (y1 ++ u :: x2) ++ q ++ (x1 ++ v :: y2) ++ s = (p ++ y1) ++ u :: (x2 ++ q ++ x1) ++ v :: (y2 ++ s) := by simp
theorem swap_parts' {α : Type} (p x1 x2 q y1 y2 s : List α) (u v : α) : (p ++ y1) ++ v :: (x2 ++ q ++ x1) ++ u :: (y2 ++ s) = p ++ ((y1 ++ [v]) ++ x2) ++ q ++ ((x1 ++ [u]) ++ y2) ++ s := by simp
theorem cons_of {α : Type} {l : List α} {m : Nat} (h : l.length = m) (h0 : 0 < m) : ∃ u t, l = u :: t ∧ t.length = m - 1 := by
  cases l with
  | nil => simp at h; omega
  | cons u t => exact ⟨u, t, rfl, by simp at h; omega⟩
set_option maxRecDepth 100000 in
set_option maxHeartbeats 4000000 in
theorem swapRange_any (g off cap N a b n : Nat) (p x q y s : List El) (V : Value) (W : World) (hS : SRow W 30 5 encE g off cap (p ++ x ++ q ++ y ++ s)) (hN : (p ++ x ++ q ++ y ++ s).length = N) (ha : p.length = a) (hb : p.length + x.length + q.length = b) (hx : x.length = n) (hy : y.length = n) :
    Calls Try.prog 62 #[.slice (some ⟨g, off, none⟩) N cap, .int .i64 a, .int .i64 b, .int .i64 n, V] W (SrtPost g off cap (p ++ y ++ q ++ x ++ s) W) := by
  have hcap := hS.capLe
  unfold maxLen at hcap
  have hNc : N ≤ cap := by rw [← hN]; exact hcap.1
  have hcm : cap ≤ 9223372036854775807 := hcap.2
  have hlen : a + n + q.length + n + s.length = N := by simp at hN; omega
  have hb' : a + n + q.length = b := by omega
  have HS := Lib.hid (SrtAt.start hS)
  have HA := Lib.hid ha
  have HX := Lib.hid hx
  have HY := Lib.hid hy
  clear hS hN hcap ha hb hx hy
  go_enter Try.func62, Try.ntmps62
  go_wp2
  go_loopw [10] (fun i wr => ∃ (k : Nat) (x1 x2 y1 y2 : List El), i = .int .i64 k ∧ k ≤ n ∧ x = x1 ++ x2 ∧ y = y1 ++ y2 ∧ x1.length = k ∧ y1.length = k ∧ SrtAt W g off cap (p ++ (y1 ++ x2) ++ q ++ (x1 ++ y2) ++ s) wr) (fun i _ => n - (intOf i).toNat)
  case atStart => exact ⟨0, [], x, [], y, rfl, Nat.zero_le _, rfl, rfl, rfl, rfl, HS.out⟩
  case round =>
    obtain ⟨k, x1, x2, y1, y2, rfl, hk, rfl, rfl, h1, h2, hR⟩ := hrel
    have hx2 : x2.length = n - k := by have := HX.out; rw [List.length_append] at this; omega
    have hy2 : y2.length = n - k := by have := HY.out; rw [List.length_append] at this; omega
    by_cases hlt : k < n
    · obtain ⟨u, x2, rfl, hxl⟩ := cons_of hx2 (by omega)
      obtain ⟨v, y2, rfl, hyl⟩ := cons_of hy2 (by omega)
      rw [swap_parts] at hR
      obtain ⟨D, hD⟩ : ∃ D, D = (p ++ y1) ++ u :: (x2 ++ q ++ x1) ++ v :: (y2 ++ s) := ⟨_, rfl⟩
      have wa : IntKind.i64.wrap ((a : Int) + (k : Int)) = (a : Int) + (k : Int) := IntWalk.i64_in _ (by omega)
      have wb : IntKind.i64.wrap ((b : Int) + (k : Int)) = (b : Int) + (k : Int) := IntWalk.i64_in _ (by omega)
      have a0 : (0 : Int) ≤ (a : Int) + (k : Int) := by omega
      have a1 : (a : Int) + (k : Int) < (N : Int) := by omega
      have a2 : ((a : Int) + (k : Int)).toNat = a + k := by omega
      have b0 : (0 : Int) ≤ (b : Int) + (k : Int) := by omega
      have b1 : (b : Int) + (k : Int) < (N : Int) := by omega
      have b2 : ((b : Int) + (k : Int)).toNat = b + k := by omega
      have hli : D[a + k]? = some u := by
        have := at_1 (p ++ y1) (x2 ++ q ++ x1) (y2 ++ s) u v
        rw [hD, show a + k = (p ++ y1).length by rw [List.length_append, HA.out, h2]]; exact this
      have hlj : D[b + k]? = some v := by
        have := at_2 (p ++ y1) (x2 ++ q ++ x1) (y2 ++ s) u v
        rw [hD, show b + k = (p ++ y1).length + 1 + (x2 ++ q ++ x1).length by simp only [List.length_append]; have := HA.out; omega]; exact this
      have hset : (D.set (a + k) v).set (b + k) u = p ++ ((y1 ++ [v]) ++ x2) ++ q ++ ((x1 ++ [u]) ++ y2) ++ s := by
        have := set_set (p ++ y1) (x2 ++ q ++ x1) (y2 ++ s) u v
        rw [hD, show a + k = (p ++ y1).length by rw [List.length_append, HA.out, h2], show b + k = (p ++ y1).length + 1 + (x2 ++ q ++ x1).length by simp only [List.length_append]; have := HA.out; omega, this, swap_parts']
      rw [← hD] at hR
      have HS := Lib.hid (hR.drew)
      have hli := Lib.hid hli
      have hlj := Lib.hid hlj
      have HSET := Lib.hid hset
      have H1 := Lib.hid h1
      have H2 := Lib.hid h2
      clear hR hset hD h1 h2 hx2 hy2
      go_upto_region 3 with (fail)
      refine wp_region_ph (by kernel_rfl) [21, 23] [.span 0 0, .span 0 0, .span 0 0, .span 0 0, .span 0 1, .span 0 1, .span 0 1, .span 0 1, .span 0 0, .span 0 0, .span 0 0, .span 0 0, .span 0 0, .span 0 0, .span 0 0, .span 0 0, .span 0 0, .span 0 0, .span 0 0, .span 0 0, .span 0 0, .phase 0, .span 1 1, .phase 1] [fun z9 => z9 = .slice (some ⟨g, off, none⟩) N cap, fun z9 => z9 = .int .i64 a, fun z9 => z9 = .int .i64 k, fun z9 => z9 = .int .i64 (a + k), fun z9 => z9 = .slice (some ⟨g, off, none⟩) N cap, fun z9 => z9 = .int .i64 b, fun z9 => z9 = .int .i64 k, fun z9 => z9 = .int .i64 (b + k), fun z9 => z9 = .slice (some ⟨g, off, none⟩) N cap, fun z9 => z9 = .int .i64 b, fun z9 => z9 = .int .i64 k, fun z9 => z9 = .int .i64 (b + k), fun z9 => z9 = .pointer (some ⟨g, off + (b + k) * 5, none⟩), fun z9 => z9 = .agg #[.int .i64 v.kind, .slice v.A v.n v.c, .string v.id, .int .i64 v.at_, .int .u32 v.crc], fun z9 => z9 = .slice (some ⟨g, off, none⟩) N cap, fun z9 => z9 = .int .i64 a, fun z9 => z9 = .int .i64 k, fun z9 => z9 = .int .i64 (a + k), fun z9 => z9 = .pointer (some ⟨g, off + (a + k) * 5, none⟩), fun z9 => z9 = .agg #[.int .i64 u.kind, .slice u.A u.n u.c, .string u.id, .int .i64 u.at_, .int .u32 u.crc], fun z9 => z9 = .pointer (some ⟨g, off + (a + k) * 5, none⟩), fun _ => True, fun z9 => z9 = .pointer (some ⟨g, off + (b + k) * 5, none⟩), fun _ => True] (ISwap W g off cap (a + k) (b + k) u v (D)) (by kernel_rfl) (by kernel_rfl) (by kernel_rfl) (by kernel_rfl) (by kernel_rfl) (by kernel_rfl) rfl rfl (HS.out) ?steps ?done
      case steps =>
        refine ⟨?_, ?_, ?_, ?_, ?_, ?_, ?_, ?_, ?_, ?_, ?_, ?_, ?_, ?_, ?_, ?_, ?_, ?_, ?_, ?_, ?_, ?_, ?_, ?_, trivial⟩
        · intro us au w1 k0 hlo hhi ha hd hst hI
          obtain rfl : k0 = 0 := by omega
          have q0 := slot_far (t := 0) (v := .slice (some ⟨g, off, none⟩) N cap) ha (by kernel_rfl) (by kernel_rfl)
          have p0 := slot_norm q0
          clear ha hd hst
          exact StepI.pure (v := .slice (some ⟨g, off, none⟩) N cap) rfl rfl (by go_simp) ⟨rfl, hI⟩
        · intro us au w1 k1 hlo hhi ha hd hst hI
          obtain rfl : k1 = 0 := by omega
          have q1 := slot_far (t := 1) (v := .int .i64 a) ha (by kernel_rfl) (by kernel_rfl)
          have p1 := slot_norm q1
          clear ha hd hst
          exact StepI.pure (v := .int .i64 a) rfl rfl (by go_simp) ⟨rfl, hI⟩
        · intro us au w1 k2 hlo hhi ha hd hst hI
          obtain rfl : k2 = 0 := by omega
          have q10 := slot_far (t := 10) (v := .int .i64 k) ha (by kernel_rfl) (by kernel_rfl)
          have p10 := slot_norm q10
          clear ha hd hst
          exact StepI.pure (v := .int .i64 k) rfl rfl (by go_simp) ⟨rfl, hI⟩
        · intro us au w1 k3 hlo hhi ha hd hst hI
          obtain rfl : k3 = 0 := by omega
          have e1 := hd 1 _ (by kernel_rfl) rfl
          have e2 := hd 2 _ (by kernel_rfl) rfl
          have q17 := slot_at (t := 17) 1 ha (by kernel_rfl) (by kernel_rfl) (by kernel_rfl) e1
          have p17 := slot_norm q17
          have q18 := slot_at (t := 18) 2 ha (by kernel_rfl) (by kernel_rfl) (by kernel_rfl) e2
          have p18 := slot_norm q18
          clear ha hd hst
          exact StepI.pure (v := .int .i64 (a + k)) rfl rfl (by go_simp) ⟨rfl, hI⟩
        · intro us au w1 k4 hlo hhi ha hd hst hI
          have q0 := slot_far (t := 0) (v := .slice (some ⟨g, off, none⟩) N cap) ha (by kernel_rfl) (by kernel_rfl)
          have p0 := slot_norm q0
          clear ha hd hst
          exact StepI.pure (v := .slice (some ⟨g, off, none⟩) N cap) rfl rfl (by go_simp) ⟨rfl, hI⟩
        · intro us au w1 k5 hlo hhi ha hd hst hI
          have q2 := slot_far (t := 2) (v := .int .i64 b) ha (by kernel_rfl) (by kernel_rfl)
          have p2 := slot_norm q2
          clear ha hd hst
          exact StepI.pure (v := .int .i64 b) rfl rfl (by go_simp) ⟨rfl, hI⟩
        · intro us au w1 k6 hlo hhi ha hd hst hI
          have q10 := slot_far (t := 10) (v := .int .i64 k) ha (by kernel_rfl) (by kernel_rfl)
          have p10 := slot_norm q10
          clear ha hd hst
          exact StepI.pure (v := .int .i64 k) rfl rfl (by go_simp) ⟨rfl, hI⟩
        · intro us au w1 k7 hlo hhi ha hd hst hI
          have e5 := hd 5 _ (by kernel_rfl) rfl
          have e6 := hd 6 _ (by kernel_rfl) rfl
          have q21 := slot_at (t := 21) 5 ha (by kernel_rfl) (by kernel_rfl) (by kernel_rfl) e5
          have p21 := slot_norm q21
          have q22 := slot_at (t := 22) 6 ha (by kernel_rfl) (by kernel_rfl) (by kernel_rfl) e6
          have p22 := slot_norm q22
          clear ha hd hst
          exact StepI.pure (v := .int .i64 (b + k)) rfl rfl (by go_simp) ⟨rfl, hI⟩
        · intro us au w1 k8 hlo hhi ha hd hst hI
          obtain rfl : k8 = 0 := by omega
          have q0 := slot_far (t := 0) (v := .slice (some ⟨g, off, none⟩) N cap) ha (by kernel_rfl) (by kernel_rfl)
          have p0 := slot_norm q0
          clear ha hd hst
          exact StepI.pure (v := .slice (some ⟨g, off, none⟩) N cap) rfl rfl (by go_simp) ⟨rfl, hI⟩
        · intro us au w1 k9 hlo hhi ha hd hst hI
          obtain rfl : k9 = 0 := by omega
          have q2 := slot_far (t := 2) (v := .int .i64 b) ha (by kernel_rfl) (by kernel_rfl)
          have p2 := slot_norm q2
          clear ha hd hst
          exact StepI.pure (v := .int .i64 b) rfl rfl (by go_simp) ⟨rfl, hI⟩
        · intro us au w1 k10 hlo hhi ha hd hst hI
          obtain rfl : k10 = 0 := by omega
          have q10 := slot_far (t := 10) (v := .int .i64 k) ha (by kernel_rfl) (by kernel_rfl)
          have p10 := slot_norm q10
          clear ha hd hst
          exact StepI.pure (v := .int .i64 k) rfl rfl (by go_simp) ⟨rfl, hI⟩
        · intro us au w1 k11 hlo hhi ha hd hst hI
          obtain rfl : k11 = 0 := by omega
          have e9 := hd 9 _ (by kernel_rfl) rfl
          have e10 := hd 10 _ (by kernel_rfl) rfl
          have q25 := slot_at (t := 25) 9 ha (by kernel_rfl) (by kernel_rfl) (by kernel_rfl) e9
          have p25 := slot_norm q25
          have q26 := slot_at (t := 26) 10 ha (by kernel_rfl) (by kernel_rfl) (by kernel_rfl) e10
          have p26 := slot_norm q26
          clear ha hd hst
          exact StepI.pure (v := .int .i64 (b + k)) rfl rfl (by go_simp) ⟨rfl, hI⟩
        · intro us au w1 k12 hlo hhi ha hd hst hI
          obtain rfl : k12 = 0 := by omega
          have e8 := hd 8 _ (by kernel_rfl) rfl
          have e11 := hd 11 _ (by kernel_rfl) rfl
          have q24 := slot_at (t := 24) 8 ha (by kernel_rfl) (by kernel_rfl) (by kernel_rfl) e8
          have p24 := slot_norm q24
          have q27 := slot_at (t := 27) 11 ha (by kernel_rfl) (by kernel_rfl) (by kernel_rfl) e11
          have p27 := slot_norm q27
          clear ha hd hst
          exact StepI.pure (v := .pointer (some ⟨g, off + (b + k) * 5, none⟩)) rfl rfl (by go_simp) ⟨rfl, hI⟩
        · intro us au w1 k13 hlo hhi ha hd hst hI
          obtain rfl : k13 = 0 := by omega
          have e12 := hd 12 _ (by kernel_rfl) rfl
          have q28 := slot_at (t := 28) 12 ha (by kernel_rfl) (by kernel_rfl) (by kernel_rfl) e12
          have p28 := slot_norm q28
          clear ha hd hst
          have c0 := SrtAt.c0 hI hlj.out
          have c1 := SrtAt.c1 hI hlj.out
          have c2 := SrtAt.c2 hI hlj.out
          have c3 := SrtAt.c3 hI hlj.out
          have c4 := SrtAt.c4 hI hlj.out
          exact StepI.pure (v := .agg #[.int .i64 v.kind, .slice v.A v.n v.c, .string v.id, .int .i64 v.at_, .int .u32 v.crc]) rfl rfl (by go_simp) ⟨rfl, hI⟩
        · intro us au w1 k14 hlo hhi ha hd hst hI
          obtain rfl : k14 = 0 := by omega
          have q0 := slot_far (t := 0) (v := .slice (some ⟨g, off, none⟩) N cap) ha (by kernel_rfl) (by kernel_rfl)
          have p0 := slot_norm q0
          clear ha hd hst
          exact StepI.pure (v := .slice (some ⟨g, off, none⟩) N cap) rfl rfl (by go_simp) ⟨rfl, hI⟩
        · intro us au w1 k15 hlo hhi ha hd hst hI
          obtain rfl : k15 = 0 := by omega
          have q1 := slot_far (t := 1) (v := .int .i64 a) ha (by kernel_rfl) (by kernel_rfl)
          have p1 := slot_norm q1
          clear ha hd hst
          exact StepI.pure (v := .int .i64 a) rfl rfl (by go_simp) ⟨rfl, hI⟩
        · intro us au w1 k16 hlo hhi ha hd hst hI
          obtain rfl : k16 = 0 := by omega
          have q10 := slot_far (t := 10) (v := .int .i64 k) ha (by kernel_rfl) (by kernel_rfl)
          have p10 := slot_norm q10
          clear ha hd hst
          exact StepI.pure (v := .int .i64 k) rfl rfl (by go_simp) ⟨rfl, hI⟩
        · intro us au w1 k17 hlo hhi ha hd hst hI
          obtain rfl : k17 = 0 := by omega
          have e15 := hd 15 _ (by kernel_rfl) rfl
          have e16 := hd 16 _ (by kernel_rfl) rfl
          have q31 := slot_at (t := 31) 15 ha (by kernel_rfl) (by kernel_rfl) (by kernel_rfl) e15
          have p31 := slot_norm q31
          have q32 := slot_at (t := 32) 16 ha (by kernel_rfl) (by kernel_rfl) (by kernel_rfl) e16
          have p32 := slot_norm q32
          clear ha hd hst
          exact StepI.pure (v := .int .i64 (a + k)) rfl rfl (by go_simp) ⟨rfl, hI⟩
        · intro us au w1 k18 hlo hhi ha hd hst hI
          obtain rfl : k18 = 0 := by omega
          have e14 := hd 14 _ (by kernel_rfl) rfl
          have e17 := hd 17 _ (by kernel_rfl) rfl
          have q30 := slot_at (t := 30) 14 ha (by kernel_rfl) (by kernel_rfl) (by kernel_rfl) e14
          have p30 := slot_norm q30
          have q33 := slot_at (t := 33) 17 ha (by kernel_rfl) (by kernel_rfl) (by kernel_rfl) e17
          have p33 := slot_norm q33
          clear ha hd hst
          exact StepI.pure (v := .pointer (some ⟨g, off + (a + k) * 5, none⟩)) rfl rfl (by go_simp) ⟨rfl, hI⟩
        · intro us au w1 k19 hlo hhi ha hd hst hI
          obtain rfl : k19 = 0 := by omega
          have e18 := hd 18 _ (by kernel_rfl) rfl
          have q34 := slot_at (t := 34) 18 ha (by kernel_rfl) (by kernel_rfl) (by kernel_rfl) e18
          have p34 := slot_norm q34
          clear ha hd hst
          have c0 := SrtAt.c0 hI hli.out
          have c1 := SrtAt.c1 hI hli.out
          have c2 := SrtAt.c2 hI hli.out
          have c3 := SrtAt.c3 hI hli.out
          have c4 := SrtAt.c4 hI hli.out
          exact StepI.pure (v := .agg #[.int .i64 u.kind, .slice u.A u.n u.c, .string u.id, .int .i64 u.at_, .int .u32 u.crc]) rfl rfl (by go_simp) ⟨rfl, hI⟩
        · intro us au w1 k20 hlo hhi ha hd hst hI
          obtain rfl : k20 = 0 := by omega
          have e0 := hd 0 _ (by kernel_rfl) rfl
          have e3 := hd 3 _ (by kernel_rfl) rfl
          have q16 := slot_at (t := 16) 0 ha (by kernel_rfl) (by kernel_rfl) (by kernel_rfl) e0
          have p16 := slot_norm q16
          have q19 := slot_at (t := 19) 3 ha (by kernel_rfl) (by kernel_rfl) (by kernel_rfl) e3
          have p19 := slot_norm q19
          clear ha hd hst
          exact StepI.pure (v := .pointer (some ⟨g, off + (a + k) * 5, none⟩)) rfl rfl (by go_simp) ⟨rfl, hI⟩
        · intro us au w1 ha hd hst hI
          have e20 := hd 20 _ (by kernel_rfl) rfl
          have e13 := hd 13 _ (by kernel_rfl) rfl
          have q36 := slot_at (t := 36) 20 ha (by kernel_rfl) (by kernel_rfl) (by kernel_rfl) e20
          have p36 := slot_norm q36
          have q29 := slot_at (t := 29) 13 ha (by kernel_rfl) (by kernel_rfl) (by kernel_rfl) e13
          have p29 := slot_norm q29
          clear ha hd hst
          have hlt : a + k < (D).length := (List.getElem?_eq_some_iff.1 hli.out).1
          have hx := hli.out
          have c0 := SrtAt.c0 hI hx
          have c1 := SrtAt.c1 hI hx
          have c2 := SrtAt.c2 hI hx
          have c3 := SrtAt.c3 hI hx
          have c4 := SrtAt.c4 hI hx
          have f0 := SrtAt.f0 hI hlt
          have f1 := SrtAt.f1 hI hlt
          have f2 := SrtAt.f2 hI hlt
          have f3 := SrtAt.f3 hI hlt
          have f4 := SrtAt.f4 hI hlt
          exact StepI.stored (w' := putCells w1 g (off + (a + k) * 5) (encE v)) rfl rfl (by simp only [putCells, encE]; go_simp) ⟨trivial, SrtAt.put hI hlt v⟩
        · intro us au w1 k22 hlo hhi ha hd hst hI
          obtain rfl : k22 = 1 := by omega
          have e4 := hd 4 _ (by kernel_rfl) rfl
          have e7 := hd 7 _ (by kernel_rfl) rfl
          have q20 := slot_at (t := 20) 4 ha (by kernel_rfl) (by kernel_rfl) (by kernel_rfl) e4
          have p20 := slot_norm q20
          have q23 := slot_at (t := 23) 7 ha (by kernel_rfl) (by kernel_rfl) (by kernel_rfl) e7
          have p23 := slot_norm q23
          clear ha hd hst
          exact StepI.pure (v := .pointer (some ⟨g, off + (b + k) * 5, none⟩)) rfl rfl (by go_simp) ⟨rfl, hI⟩
        · intro us au w1 ha hd hst hI
          have e22 := hd 22 _ (by kernel_rfl) rfl
          have e19 := hd 19 _ (by kernel_rfl) rfl
          have q37 := slot_at (t := 37) 22 ha (by kernel_rfl) (by kernel_rfl) (by kernel_rfl) e22
          have p37 := slot_norm q37
          have q35 := slot_at (t := 35) 19 ha (by kernel_rfl) (by kernel_rfl) (by kernel_rfl) e19
          have p35 := slot_norm q35
          clear ha hd hst
          have hlt : b + k < ((D).set (a + k) v).length := by rw [List.length_set]; exact (List.getElem?_eq_some_iff.1 hlj.out).1
          have hx : ((D).set (a + k) v)[b + k]? = some v := by rw [List.getElem?_set_ne (by omega)]; exact hlj.out
          have c0 := SrtAt.c0 hI hx
          have c1 := SrtAt.c1 hI hx
          have c2 := SrtAt.c2 hI hx
          have c3 := SrtAt.c3 hI hx
          have c4 := SrtAt.c4 hI hx
          have f0 := SrtAt.f0 hI hlt
          have f1 := SrtAt.f1 hI hlt
          have f2 := SrtAt.f2 hI hlt
          have f3 := SrtAt.f3 hI hlt
          have f4 := SrtAt.f4 hI hlt
          exact StepI.stored (w' := putCells w1 g (off + (b + k) * 5) (encE u)) rfl rfl (by simp only [putCells, encE]; go_simp) ⟨trivial, SrtAt.put hI hlt u⟩
      case done =>
        intro us w1 hI hd
        clear hd hli hlj HS
        simp only [putAll]
        go_simp
        go_wp2
        go_roundw
        case rel => exact ⟨k + 1, x1 ++ [u], x2, y1 ++ [v], y2, by go_num, by omega, by simp, by simp, by rw [List.length_append, H1.out]; rfl, by rw [List.length_append, H2.out]; rfl, by rw [← HSET.out]; exact hI⟩
        case measure => simp [intOf]; omega
    · obtain rfl : k = n := by omega
      obtain rfl : x2 = [] := List.eq_nil_of_length_eq_zero (by omega)
      obtain rfl : y2 = [] := List.eq_nil_of_length_eq_zero (by omega)
      have HR := Lib.hid hR
      clear hR h1 h2 hx2 hy2
      go_wp2
      go_end0
      have := HR.out
      simp only [List.append_nil] at this ⊢
      exact ⟨rfl, this.1, this.2⟩

theorem split_at {α : Type} (l : List α) (n : Nat) (h : n ≤ l.length) : ∃ a b, l = a ++ b ∧ a.length = n ∧ b.length = l.length - n := ⟨l.take n, l.drop n, (List.take_append_drop n l).symm, by rw [List.length_take]; omega, by rw [List.length_drop]⟩
set_option maxRecDepth 100000 in
set_option maxHeartbeats 4000000 in
theorem rotate_any (g off cap N a m b : Nat) (p u v s : List El) (V : Value) (W : World) (hS : SRow W 30 5 encE g off cap (p ++ u ++ v ++ s)) (hN : (p ++ u ++ v ++ s).length = N) (ha : p.length = a) (hm : a + u.length = m) (hb : m + v.length = b) (hu : 0 < u.length) (hv : 0 < v.length) :
    Calls Try.prog 58 #[.slice (some ⟨g, off, none⟩) N cap, .int .i64 a, .int .i64 m, .int .i64 b, V] W (SrtPost g off cap (p ++ v ++ u ++ s) W) := by
  have hcap := hS.capLe
  unfold maxLen at hcap
  have hNc : N ≤ cap := by rw [← hN]; exact hcap.1
  have hcm : cap ≤ 9223372036854775807 := hcap.2
  have hlen : b + s.length = N := by simp at hN; omega
  obtain ⟨i, hi⟩ : ∃ i, u.length = i := ⟨_, rfl⟩
  obtain ⟨j, hj⟩ : ∃ j, v.length = j := ⟨_, rfl⟩
  have HS := Lib.hid (SrtAt.start hS)
  have HN := Lib.hid hN
  have w1 : (m : Int) - (a : Int) = (i : Int) := by omega
  have w2 : (b : Int) - (m : Int) = (j : Int) := by omega
  have hi0 : 0 < i := by omega
  have hj0 : 0 < j := by omega
  have HI := Lib.hid hi
  have HJ := Lib.hid hj
  have hai : m = a + i := by omega
  have HAI := Lib.hid hai
  have HA := Lib.hid ha
  have hbb : m + j = b := by omega
  have HBB := Lib.hid hbb
  clear hS hN hcap hi hj hm ha hai hbb hb hu hv
  have hmb : m ≤ N := by have := HBB.out; omega
  have ham : a ≤ m := by have := HAI.out; omega
  have hbN : b ≤ N := by omega
  go_enter Try.func58, Try.ntmps58
  go_wp2
  clear w1 w2
  go_loopw [10, 11] (fun i j wr => ∃ (x y pl : Nat) (P U R T : List El), i = .int .i64 x ∧ j = .int .i64 y ∧ 0 < x ∧ 0 < y ∧ U.length = x ∧ R.length = y ∧ P.length = pl ∧ pl + x = m ∧ m + y ≤ N ∧ (P ++ U ++ R ++ T).length = N ∧ SrtAt W g off cap (P ++ U ++ R ++ T) wr ∧ P ++ R ++ U ++ T = p ++ v ++ u ++ s) (fun i j _ => (intOf i).toNat + (intOf j).toNat)
  case atStart => exact ⟨i, j, a, p, u, v, s, rfl, rfl, hi0, hj0, HI.out, HJ.out, HA.out, HAI.out.symm, by have := HBB.out; omega, HN.out, HS.out, rfl⟩
  case round =>
    clear HS HN HI HJ HA HAI HBB hi0 hj0 hlen
    obtain ⟨x, y, pl, P, U, R, T, rfl, rfl, hx0, hy0, hU, hR, hP, hplx, hmy, hL, hAt, hT⟩ := hrel
    have HT := Lib.hid hT
    have HL := Lib.hid hL
    have HAt := Lib.hid hAt
    have HU := Lib.hid hU
    have HR := Lib.hid hR
    have HP := Lib.hid hP
    clear hT hL hAt hU hR hP
    have e1 : (m : Int) - (x : Int) = (pl : Int) := by omega
    by_cases hxy : x = y
    · subst hxy
      have d1 : ((x : Int) != (x : Int)) = false := by simp
      have hc := swapRange_any g off cap N pl m x P U [] R T V wr (by have := HAt.out.2; rw [List.append_nil]; exact this) (by rw [List.append_nil]; exact HL.out) HP.out (by rw [HP.out, HU.out]; exact hplx) HU.out HR.out
      go_wp2_with (go_at_call 62; refine hc.mono ?_; rintro e w5 ⟨rfl, hc5, hs5⟩)
      go_end0
      have h1 := HAt.out.1.trans hc5 (fun _ _ h => h)
      rw [List.append_nil, HT.out] at hs5
      exact ⟨rfl, h1, hs5⟩
    · have d1 : ((x : Int) != (y : Int)) = true := by rw [bne_iff_ne]; omega
      by_cases hlt : y < x
      · have d2 : decide ((y : Int) < (x : Int)) = true := decide_eq_true (by omega)
        have d3 : decide (y < x) = true := decide_eq_true hlt
        obtain ⟨U1, U2, rfl, h1, h2⟩ := split_at U y (by rw [HU.out]; omega)
        have e2 : (x : Int) - (y : Int) = ((x - y : Nat) : Int) := by omega
        have hc := swapRange_any g off cap N pl m y P U1 U2 R T V wr (by have := HAt.out.2; rwa [← List.append_assoc] at this) (by have := HL.out; rwa [← List.append_assoc] at this) HP.out (by rw [HP.out]; have := HU.out; rw [List.length_append] at this; omega) h1 HR.out
        have H1 := Lib.hid h1
        have H2 := Lib.hid h2
        clear h1 h2 hxy
        go_wp2_with (go_at_call 62; refine hc.mono ?_; rintro e w5 ⟨rfl, hc5, hs5⟩)
        go_roundw
        case rel =>
          refine ⟨x - y, y, pl + y, P ++ R, U2, U1, T, rfl, rfl, by omega, hy0, by rw [H2.out, HU.out], H1.out, by rw [List.length_append, HP.out, HR.out], by omega, by omega, ?_, ⟨HAt.out.1.trans hc5 (fun _ _ h => h), hs5⟩, ?_⟩
          · have := HL.out; simp only [List.length_append] at this ⊢; omega
          · rw [← HT.out]; simp only [List.append_assoc]
        case measure => simp [intOf]; omega
      · have d2 : decide ((y : Int) < (x : Int)) = false := decide_eq_false (by omega)
        have d3 : decide (y < x) = false := decide_eq_false hlt
        obtain ⟨V1, V2, rfl, h1, h2⟩ := split_at R (y - x) (by rw [HR.out]; omega)
        rw [HR.out] at h2
        have hlt' : x < y := by omega
        have e2 : (y : Int) - (x : Int) = ((y - x : Nat) : Int) := by omega
        have e3 : (m : Int) + (y : Int) - (x : Int) = ((m + y - x : Nat) : Int) := by omega
        have hc := swapRange_any g off cap N pl (m + y - x) x P U V1 V2 T V wr (by have := HAt.out.2; simpa only [List.append_assoc] using this) (by have := HL.out; simpa only [List.append_assoc] using this) HP.out (by rw [HP.out, HU.out, h1]; omega) HU.out (by rw [h2]; omega)
        have H1 := Lib.hid h1
        have H2 := Lib.hid h2
        clear h1 h2 hxy
        go_wp2_with (go_at_call 62; refine hc.mono ?_; rintro e w5 ⟨rfl, hc5, hs5⟩)
        go_roundw
        case rel =>
          refine ⟨x, y - x, pl, P, V2, V1, U ++ T, rfl, rfl, hx0, by omega, by rw [H2.out]; omega, H1.out, HP.out, hplx, by omega, ?_, ⟨HAt.out.1.trans hc5 (fun _ _ h => h), by have := hs5; simpa only [List.append_assoc] using this⟩, ?_⟩
          · have := HL.out; simp only [List.length_append] at this ⊢; omega
          · rw [← HT.out]; simp only [List.append_assoc]
        case measure => simp [intOf]; omega
end Go.Proofs.Ytndjebddgnmpfaa
namespace Go.Proofs.Ytndjebddgnmpfaa
open Go.RowKit
set_option linter.unusedVariables false
set_option linter.unusedSimpArgs false

theorem isort_one {α : Type} (lt : α → α → Bool) (u : List α) : Srt.isort lt (u.take 1) = u.take 1 := by
  cases u with
  | nil => rfl
  | cons x t => rfl
theorem ins_round {α : Type} (lt : α → α → Bool) (u1 u2 : List α) (x : α) : Srt.isort lt ((u1 ++ x :: u2).take (u1.length + 1)) = Srt.ins lt x (Srt.isort lt u1) := by
  rw [show (u1 ++ x :: u2).take (u1.length + 1) = u1 ++ [x] by rw [List.take_append, List.take_of_length_le (by omega), show u1.length + 1 - u1.length = 1 by omega]; rfl, Srt.isort_snoc]
theorem drop_round {α : Type} (u1 u2 : List α) (x : α) : (u1 ++ x :: u2).drop (u1.length + 1) = u2 := by
  rw [List.drop_append, List.drop_of_length_le (by omega), show u1.length + 1 - u1.length = 1 by omega]; rfl
theorem last_of {α : Type} {l : List α} (h : 0 < l.length) : ∃ t z, l = t ++ [z] ∧ t.length + 1 = l.length := by
  refine ⟨l.dropLast, l.getLast (by intro e; rw [e] at h; simp at h), (List.dropLast_concat_getLast _).symm, by rw [List.length_dropLast]; omega⟩
set_option maxRecDepth 100000 in
set_option maxHeartbeats 8000000 in
theorem insSort_any (g off cap N a b : Nat) (p u s : List El) (W : World) (hS : SRow W 30 5 encE g off cap (p ++ u ++ s)) (hN : (p ++ u ++ s).length = N) (ha : p.length = a) (hb : a + u.length = b) (hok : ∀ x ∈ u, okE x) (hNb : N ≤ 140737488355328) :
    Calls Try.prog 52 #[.slice (some ⟨g, off, none⟩) N cap, .int .i64 a, .int .i64 b, .func (.func 22) #[] #[]] W (SrtPost g off cap (p ++ Srt.isort ltE u ++ s) W) := by
  have hcap := hS.capLe
  unfold maxLen at hcap
  have hNc : N ≤ cap := by rw [← hN]; exact hcap.1
  have hcm : cap ≤ 9223372036854775807 := hcap.2
  have hlen : b + s.length = N := by simp at hN; omega
  obtain ⟨n, hn⟩ : ∃ n, u.length = n := ⟨_, rfl⟩
  rw [hn] at hb
  have hab : a ≤ b := by omega
  have HS := Lib.hid (SrtAt.start hS)
  have HNU := Lib.hid hn
  have HA := Lib.hid ha
  have HB := Lib.hid hb
  have HOK := Lib.hid hok
  clear hS hN hcap ha hn hb hok
  go_enter Try.func52, Try.ntmps52
  go_wp2
  go_loopw [8] (fun iv wr => ∃ (k i : Nat), iv = .int .i64 i ∧ i = a + k ∧ 1 ≤ k ∧ (k ≤ n ∨ k = 1) ∧ SrtAt W g off cap (p ++ Srt.isort ltE (u.take k) ++ u.drop k ++ s) wr) (fun iv _ => b + 1 - (intOf iv).toNat)
  case atStart => exact ⟨1, a + 1, rfl, rfl, Nat.le_refl _, .inr rfl, by rw [isort_one, List.append_assoc p, List.take_append_drop]; exact HS.out⟩
  case round =>
    clear HS
    obtain ⟨k, i, rfl, hik, hk1, hk, hAt⟩ := hrel
    have hb := HB.out
    by_cases hlt : i < b
    · have hkn : k < n := by omega
      obtain ⟨u1, u2', hu, h1, h2⟩ := split_at u k (by have := HNU.out; omega)
      obtain ⟨x, u2, rfl, h3⟩ := cons_of (l := u2') (m := n - k) (by have := HNU.out; omega) (by omega)
      have hox : okE x := HOK.out x (by rw [hu]; simp)
      have hou : ∀ z ∈ Srt.isort ltE u1, okE z := fun z hz => HOK.out z (by rw [hu]; exact List.mem_append_left _ (Srt.mem_isort.1 hz))
      have hst : u.take k = u1 ∧ u.drop k = x :: u2 := by rw [hu, ← h1]; exact ⟨List.take_left' rfl, List.drop_left' rfl⟩
      have htk : Srt.isort ltE (u.take (k + 1)) = Srt.ins ltE x (Srt.isort ltE u1) := by rw [hu, ← h1]; exact ins_round _ _ _ _
      have hdk : u.drop (k + 1) = u2 := by rw [hu, ← h1]; exact drop_round _ _ _
      rw [hst.1, hst.2] at hAt
      have hsl : (Srt.isort ltE u1).length = k := by rw [Srt.isort_length, h1]
      have hso := Srt.isort_sorted swoE u1
      have hlenD : a + k + 1 + u2.length + s.length = N := by omega
      generalize Srt.isort ltE u1 = S at *
      have HAt := Lib.hid hAt
      have HSL := Lib.hid hsl
      have HSO := Lib.hid hso
      have HOU := Lib.hid hou
      have HOx := Lib.hid hox
      have HTK := Lib.hid htk
      have HDK := Lib.hid hdk
      have HIK := Lib.hid hik
      have hiN : i < N := by omega
      clear hAt hsl hso hou hox htk hdk hst h1 h2 h3 hu hik
      go_wp2
      go_loopw [9] (fun jv wr => ∃ (J : Nat) (l1 l2 : List El), jv = .int .i64 J ∧ S = l1 ++ l2 ∧ J = a + l1.length ∧ (∀ y t, l2 = y :: t → ltE x y = true) ∧ SrtAt W g off cap (p ++ l1 ++ x :: l2 ++ u2 ++ s) wr) (fun jv _ => (intOf jv).toNat)
      case atStart => exact ⟨i, S, [], rfl, by simp, by rw [HIK.out, HSL.out], fun y t h => (by cases h), by have := HAt.out; simpa using this⟩
      case round =>
        clear HAt
        obtain ⟨J, l1, l2, rfl, hSl, hJ, hl2, hAt⟩ := hrel
        have HSl := Lib.hid hSl
        have HL2 := Lib.hid hl2
        by_cases hl1 : 0 < l1.length
        · obtain ⟨l0, z, rfl, hz⟩ := last_of hl1
          obtain ⟨K, hK⟩ : ∃ K, K = a + l0.length := ⟨_, rfl⟩
          have e1 : (J : Int) - 1 = (K : Int) := by omega
          obtain ⟨D, hD⟩ : ∃ D, D = (p ++ l0) ++ z :: [] ++ x :: (l2 ++ u2 ++ s) := ⟨_, rfl⟩
          have hDa : p ++ (l0 ++ [z]) ++ x :: l2 ++ u2 ++ s = D := by rw [hD]; simp
          rw [hDa] at hAt
          have hli : D[J]? = some x := by
            have := at_2 (p ++ l0) [] (l2 ++ u2 ++ s) z x
            rw [hD, show J = (p ++ l0).length + 1 + ([] : List El).length by rw [List.length_append, HA.out, List.length_nil]; omega]; exact this
          have hlj : D[K]? = some z := by
            have := at_1 (p ++ l0) [] (l2 ++ u2 ++ s) z x
            rw [hD, show K = (p ++ l0).length by rw [List.length_append, HA.out]; omega]; exact this
          have hset : (D.set J z).set K x = p ++ l0 ++ x :: (z :: l2) ++ u2 ++ s := by
            have := set_set' (p ++ l0) [] (l2 ++ u2 ++ s) z x
            rw [hD, show J = (p ++ l0).length + 1 + ([] : List El).length by rw [List.length_append, HA.out, List.length_nil]; omega, show K = (p ++ l0).length by rw [List.length_append, HA.out]; omega, this]; simp
          have hJN : J < N := by
            have h1 := HSl.out
            have h2 := congrArg List.length h1
            rw [HSL.out] at h2
            simp only [List.length_append] at h2 hJ
            have h3 := HIK.out
            omega
          have hoz : okE z := HOU.out z (by rw [HSl.out]; simp)
          have g1 : decide ((a : Int) < (J : Int)) = true := decide_eq_true (by omega)
          have g2 : decide (a < J) = true := decide_eq_true (by omega)
          have j0 : (0 : Int) ≤ (K : Int) := by omega
          have j1 : (K : Int) < (N : Int) := by omega
          have j2 : (J : Int) < (N : Int) := by omega
          have hKJ : K < J := by omega
          have HOz := Lib.hid hoz
          have HSET := Lib.hid hset
          have HK := Lib.hid hK
          have hli := Lib.hid hli
          have hlj := Lib.hid hlj
          have HS := Lib.hid hAt.drew
          have HKJ := Lib.hid (show K + 1 = J by omega)
          have HD := Lib.hid hD
          clear hSl hl2 hl1 hoz hset hK hAt hJ hz hD hDa
          have hcl := cmpE_lt x z
          cases hxz : ltE x z
          · rw [hxz] at hcl
            have HX := Lib.hid hxz
            clear hxz
            go_upto_region 4 with (fail)
            refine wp_region_ph (by kernel_rfl) [14] [.span 0 0, .span 0 0, .span 0 0, .span 0 0, .span 0 0, .span 0 0, .span 0 0, .span 0 0, .span 0 0, .span 0 0, .span 0 0, .span 0 0, .span 0 0, .span 0 0, .phase 0, .span 1 1, .span 1 1] [fun z9 => z9 = .int .i64 (J), fun z9 => z9 = .int .i64 (a), fun z9 => z9 = .bool true, fun z9 => z9 = .bool true, fun z9 => z9 = .func (.func 22) #[] #[], fun z9 => z9 = .slice (some ⟨g, off, none⟩) N cap, fun z9 => z9 = .int .i64 (J), fun z9 => z9 = .pointer (some ⟨g, off + (J) * 5, none⟩), fun z9 => z9 = .agg #[.int .i64 x.kind, .slice x.A x.n x.c, .string x.id, .int .i64 x.at_, .int .u32 x.crc], fun z9 => z9 = .slice (some ⟨g, off, none⟩) N cap, fun z9 => z9 = .int .i64 (J), fun z9 => z9 = .int .i64 (K), fun z9 => z9 = .pointer (some ⟨g, off + (K) * 5, none⟩), fun z9 => z9 = .agg #[.int .i64 z.kind, .slice z.A z.n z.c, .string z.id, .int .i64 z.at_, .int .u32 z.crc], fun z9 => z9 = .int .i64 (cmpE x z), fun z9 => z9 = .bool false, fun z9 => z9 = .bool false] (fun _ w => SrtAt W g off cap (D) w) (by kernel_rfl) (by kernel_rfl) (by kernel_rfl) (by kernel_rfl) (by kernel_rfl) (by kernel_rfl) rfl rfl (HS.out) ?steps ?done
            case steps =>
              refine ⟨?_, ?_, ?_, ?_, ?_, ?_, ?_, ?_, ?_, ?_, ?_, ?_, ?_, ?_, ?_, ?_, ?_, trivial⟩
              · intro us au w1 k0 hlo hhi ha hd hst hI
                obtain rfl : k0 = 0 := by omega
                have q9 := slot_far (t := 9) (v := .int .i64 (J)) ha (by kernel_rfl) (by kernel_rfl)
                have p9 := slot_norm q9
                clear ha hd hst
                exact StepI.pure (v := .int .i64 (J)) rfl rfl (by go_simp) ⟨rfl, hI⟩
              · intro us au w1 k1 hlo hhi ha hd hst hI
                obtain rfl : k1 = 0 := by omega
                have q1 := slot_far (t := 1) (v := .int .i64 (a)) ha (by kernel_rfl) (by kernel_rfl)
                have p1 := slot_norm q1
                clear ha hd hst
                exact StepI.pure (v := .int .i64 (a)) rfl rfl (by go_simp) ⟨rfl, hI⟩
              · intro us au w1 k2 hlo hhi ha hd hst hI
                obtain rfl : k2 = 0 := by omega
                have e0 := hd 0 _ (by kernel_rfl) rfl
                have e1 := hd 1 _ (by kernel_rfl) rfl
                have q18 := slot_at (t := 18) 0 ha (by kernel_rfl) (by kernel_rfl) (by kernel_rfl) e0
                have p18 := slot_norm q18
                have q19 := slot_at (t := 19) 1 ha (by kernel_rfl) (by kernel_rfl) (by kernel_rfl) e1
                have p19 := slot_norm q19
                clear ha hd hst
                exact StepI.pure (v := .bool true) rfl rfl (by go_simp) ⟨rfl, hI⟩
              · intro us au w1 k3 hlo hhi ha hd hst hI
                obtain rfl : k3 = 0 := by omega
                have e2 := hd 2 _ (by kernel_rfl) rfl
                have q20 := slot_at (t := 20) 2 ha (by kernel_rfl) (by kernel_rfl) (by kernel_rfl) e2
                have p20 := slot_norm q20
                clear ha hd hst
                exact StepI.pure (v := .bool true) rfl rfl (by go_simp) ⟨rfl, hI⟩
              · intro us au w1 k4 hlo hhi ha hd hst hI
                obtain rfl : k4 = 0 := by omega
                have e3 := hd 3 _ (by kernel_rfl) rfl
                have q3 := slot_far (t := 3) (v := .func (.func 22) #[] #[]) ha (by kernel_rfl) (by kernel_rfl)
                have p3 := slot_norm q3
                have hg := slot_at (t := 21) 3 ha (by kernel_rfl) (by kernel_rfl) (by kernel_rfl) e3
                clear ha hd hst
                exact StepI.pure (v := .func (.func 22) #[] #[]) rfl (wanted_at rfl rfl hg) (by go_simp) ⟨rfl, hI⟩
              · intro us au w1 k5 hlo hhi ha hd hst hI
                obtain rfl : k5 = 0 := by omega
                have e3 := hd 3 _ (by kernel_rfl) rfl
                have q0 := slot_far (t := 0) (v := .slice (some ⟨g, off, none⟩) N cap) ha (by kernel_rfl) (by kernel_rfl)
                have p0 := slot_norm q0
                have hg := slot_at (t := 21) 3 ha (by kernel_rfl) (by kernel_rfl) (by kernel_rfl) e3
                clear ha hd hst
                exact StepI.pure (v := .slice (some ⟨g, off, none⟩) N cap) rfl (wanted_at rfl rfl hg) (by go_simp) ⟨rfl, hI⟩
              · intro us au w1 k6 hlo hhi ha hd hst hI
                obtain rfl : k6 = 0 := by omega
                have e3 := hd 3 _ (by kernel_rfl) rfl
                have q9 := slot_far (t := 9) (v := .int .i64 (J)) ha (by kernel_rfl) (by kernel_rfl)
                have p9 := slot_norm q9
                have hg := slot_at (t := 21) 3 ha (by kernel_rfl) (by kernel_rfl) (by kernel_rfl) e3
                clear ha hd hst
                exact StepI.pure (v := .int .i64 (J)) rfl (wanted_at rfl rfl hg) (by go_simp) ⟨rfl, hI⟩
              · intro us au w1 k7 hlo hhi ha hd hst hI
                obtain rfl : k7 = 0 := by omega
                have e5 := hd 5 _ (by kernel_rfl) rfl
                have e6 := hd 6 _ (by kernel_rfl) rfl
                have e3 := hd 3 _ (by kernel_rfl) rfl
                have q23 := slot_at (t := 23) 5 ha (by kernel_rfl) (by kernel_rfl) (by kernel_rfl) e5
                have p23 := slot_norm q23
                have q24 := slot_at (t := 24) 6 ha (by kernel_rfl) (by kernel_rfl) (by kernel_rfl) e6
                have p24 := slot_norm q24
                have hg := slot_at (t := 21) 3 ha (by kernel_rfl) (by kernel_rfl) (by kernel_rfl) e3
                clear ha hd hst
                exact StepI.pure (v := .pointer (some ⟨g, off + (J) * 5, none⟩)) rfl (wanted_at rfl rfl hg) (by go_simp) ⟨rfl, hI⟩
              · intro us au w1 k8 hlo hhi ha hd hst hI
                obtain rfl : k8 = 0 := by omega
                have e7 := hd 7 _ (by kernel_rfl) rfl
                have e3 := hd 3 _ (by kernel_rfl) rfl
                have q25 := slot_at (t := 25) 7 ha (by kernel_rfl) (by kernel_rfl) (by kernel_rfl) e7
                have p25 := slot_norm q25
                have hg := slot_at (t := 21) 3 ha (by kernel_rfl) (by kernel_rfl) (by kernel_rfl) e3
                clear ha hd hst
                have c0 := SrtAt.c0 hI hli.out
                have c1 := SrtAt.c1 hI hli.out
                have c2 := SrtAt.c2 hI hli.out
                have c3 := SrtAt.c3 hI hli.out
                have c4 := SrtAt.c4 hI hli.out
                exact StepI.pure (v := .agg #[.int .i64 x.kind, .slice x.A x.n x.c, .string x.id, .int .i64 x.at_, .int .u32 x.crc]) rfl (wanted_at rfl rfl hg) (by go_simp) ⟨rfl, hI⟩
              · intro us au w1 k9 hlo hhi ha hd hst hI
                obtain rfl : k9 = 0 := by omega
                have e3 := hd 3 _ (by kernel_rfl) rfl
                have q0 := slot_far (t := 0) (v := .slice (some ⟨g, off, none⟩) N cap) ha (by kernel_rfl) (by kernel_rfl)
                have p0 := slot_norm q0
                have hg := slot_at (t := 21) 3 ha (by kernel_rfl) (by kernel_rfl) (by kernel_rfl) e3
                clear ha hd hst
                exact StepI.pure (v := .slice (some ⟨g, off, none⟩) N cap) rfl (wanted_at rfl rfl hg) (by go_simp) ⟨rfl, hI⟩
              · intro us au w1 k10 hlo hhi ha hd hst hI
                obtain rfl : k10 = 0 := by omega
                have e3 := hd 3 _ (by kernel_rfl) rfl
                have q9 := slot_far (t := 9) (v := .int .i64 (J)) ha (by kernel_rfl) (by kernel_rfl)
                have p9 := slot_norm q9
                have hg := slot_at (t := 21) 3 ha (by kernel_rfl) (by kernel_rfl) (by kernel_rfl) e3
                clear ha hd hst
                exact StepI.pure (v := .int .i64 (J)) rfl (wanted_at rfl rfl hg) (by go_simp) ⟨rfl, hI⟩
              · intro us au w1 k11 hlo hhi ha hd hst hI
                obtain rfl : k11 = 0 := by omega
                have e10 := hd 10 _ (by kernel_rfl) rfl
                have e3 := hd 3 _ (by kernel_rfl) rfl
                have q28 := slot_at (t := 28) 10 ha (by kernel_rfl) (by kernel_rfl) (by kernel_rfl) e10
                have p28 := slot_norm q28
                have hg := slot_at (t := 21) 3 ha (by kernel_rfl) (by kernel_rfl) (by kernel_rfl) e3
                clear ha hd hst
                exact StepI.pure (v := .int .i64 (K)) rfl (wanted_at rfl rfl hg) (by go_simp; exact IntWalk.i64_in _ (by omega)) ⟨rfl, hI⟩
              · intro us au w1 k12 hlo hhi ha hd hst hI
                obtain rfl : k12 = 0 := by omega
                have e9 := hd 9 _ (by kernel_rfl) rfl
                have e11 := hd 11 _ (by kernel_rfl) rfl
                have e3 := hd 3 _ (by kernel_rfl) rfl
                have q27 := slot_at (t := 27) 9 ha (by kernel_rfl) (by kernel_rfl) (by kernel_rfl) e9
                have p27 := slot_norm q27
                have q29 := slot_at (t := 29) 11 ha (by kernel_rfl) (by kernel_rfl) (by kernel_rfl) e11
                have p29 := slot_norm q29
                have hg := slot_at (t := 21) 3 ha (by kernel_rfl) (by kernel_rfl) (by kernel_rfl) e3
                clear ha hd hst
                exact StepI.pure (v := .pointer (some ⟨g, off + (K) * 5, none⟩)) rfl (wanted_at rfl rfl hg) (by go_simp) ⟨rfl, hI⟩
              · intro us au w1 k13 hlo hhi ha hd hst hI
                obtain rfl : k13 = 0 := by omega
                have e12 := hd 12 _ (by kernel_rfl) rfl
                have e3 := hd 3 _ (by kernel_rfl) rfl
                have q30 := slot_at (t := 30) 12 ha (by kernel_rfl) (by kernel_rfl) (by kernel_rfl) e12
                have p30 := slot_norm q30
                have hg := slot_at (t := 21) 3 ha (by kernel_rfl) (by kernel_rfl) (by kernel_rfl) e3
                clear ha hd hst
                have c0 := SrtAt.c0 hI hlj.out
                have c1 := SrtAt.c1 hI hlj.out
                have c2 := SrtAt.c2 hI hlj.out
                have c3 := SrtAt.c3 hI hlj.out
                have c4 := SrtAt.c4 hI hlj.out
                exact StepI.pure (v := .agg #[.int .i64 z.kind, .slice z.A z.n z.c, .string z.id, .int .i64 z.at_, .int .u32 z.crc]) rfl (wanted_at rfl rfl hg) (by go_simp) ⟨rfl, hI⟩
              · intro us au w1 ha hd hst hI
                have e4 := hd 4 _ (by kernel_rfl) rfl
                have e8 := hd 8 _ (by kernel_rfl) rfl
                have e13 := hd 13 _ (by kernel_rfl) rfl
                have e3 := hd 3 _ (by kernel_rfl) rfl
                have q22 := slot_at (t := 22) 4 ha (by kernel_rfl) (by kernel_rfl) (by kernel_rfl) e4
                have p22 := slot_norm q22
                have q26 := slot_at (t := 26) 8 ha (by kernel_rfl) (by kernel_rfl) (by kernel_rfl) e8
                have p26 := slot_norm q26
                have q31 := slot_at (t := 31) 13 ha (by kernel_rfl) (by kernel_rfl) (by kernel_rfl) e13
                have p31 := slot_norm q31
                have hg := slot_at (t := 21) 3 ha (by kernel_rfl) (by kernel_rfl) (by kernel_rfl) e3
                clear ha hd hst
                refine StepI.call (f := 22) (args := #[.agg #[.int .i64 x.kind, .slice x.A x.n x.c, .string x.id, .int .i64 x.at_, .int .u32 x.crc], .agg #[.int .i64 z.kind, .slice z.A z.n z.c, .string z.id, .int .i64 z.at_, .int .u32 z.crc]]) rfl (wanted_at rfl rfl hg) (by go_simp) ?_
                refine (cmp_any x z w1 HOx.out HOz.out).mono ?_
                rintro e w' ⟨rfl, hb⟩
                exact ⟨_, rfl, rfl, SrtAt.below hI hb⟩
              · intro us au w1 k15 hlo hhi ha hd hst hI
                obtain rfl : k15 = 1 := by omega
                have e14 := hd 14 _ (by kernel_rfl) rfl
                have e3 := hd 3 _ (by kernel_rfl) rfl
                have q32 := slot_at (t := 32) 14 ha (by kernel_rfl) (by kernel_rfl) (by kernel_rfl) e14
                have p32 := slot_norm q32
                have hg := slot_at (t := 21) 3 ha (by kernel_rfl) (by kernel_rfl) (by kernel_rfl) e3
                clear ha hd hst
                exact StepI.pure (v := .bool false) rfl (wanted_at rfl rfl hg) (by go_simp) ⟨rfl, hI⟩
              · intro us au w1 k16 hlo hhi ha hd hst hI
                obtain rfl : k16 = 1 := by omega
                have e3 := hd 3 _ (by kernel_rfl) rfl
                have e15 := hd 15 _ (by kernel_rfl) rfl
                have q21 := slot_at (t := 21) 3 ha (by kernel_rfl) (by kernel_rfl) (by kernel_rfl) e3
                have p21 := slot_norm q21
                have q33 := slot_at (t := 33) 15 ha (by kernel_rfl) (by kernel_rfl) (by kernel_rfl) e15
                have p33 := slot_norm q33
                clear ha hd hst
                exact StepI.pure (v := .bool false) rfl rfl (by go_simp) ⟨rfl, hI⟩
            case done =>
              intro us w1 hI hd
              have e16 := hd 16 _ (by decide) rfl
              clear hd HS hli hlj hcl
              simp only [putAll]
              go_simp
              go_wp2
              go_roundw
              case rel =>
                have hins := Srt.ins_at (lt := ltE) x (l0 ++ [z]) l2 (Srt.Sorted.all_le swoE (Srt.Sorted.left (by have := HSO.out; rwa [HSl.out] at this)) HX.out) HL2.out
                refine ⟨k + 1, i + 1, by go_num, by have := HIK.out; omega, by omega, .inl (by omega), ?_⟩
                rw [HTK.out, HDK.out, HSl.out, hins]
                have := hI
                rw [HD.out] at this
                simp only [List.append_assoc, List.cons_append, List.nil_append] at this ⊢
                exact this
              case measure => simp [intOf]; omega
          · rw [hxz] at hcl
            have HX := Lib.hid hxz
            clear hxz
            go_upto_region 4 with (fail)
            refine wp_region_ph (by kernel_rfl) [14] [.span 0 0, .span 0 0, .span 0 0, .span 0 0, .span 0 0, .span 0 0, .span 0 0, .span 0 0, .span 0 0, .span 0 0, .span 0 0, .span 0 0, .span 0 0, .span 0 0, .phase 0, .span 1 1, .span 1 1] [fun z9 => z9 = .int .i64 (J), fun z9 => z9 = .int .i64 (a), fun z9 => z9 = .bool true, fun z9 => z9 = .bool true, fun z9 => z9 = .func (.func 22) #[] #[], fun z9 => z9 = .slice (some ⟨g, off, none⟩) N cap, fun z9 => z9 = .int .i64 (J), fun z9 => z9 = .pointer (some ⟨g, off + (J) * 5, none⟩), fun z9 => z9 = .agg #[.int .i64 x.kind, .slice x.A x.n x.c, .string x.id, .int .i64 x.at_, .int .u32 x.crc], fun z9 => z9 = .slice (some ⟨g, off, none⟩) N cap, fun z9 => z9 = .int .i64 (J), fun z9 => z9 = .int .i64 (K), fun z9 => z9 = .pointer (some ⟨g, off + (K) * 5, none⟩), fun z9 => z9 = .agg #[.int .i64 z.kind, .slice z.A z.n z.c, .string z.id, .int .i64 z.at_, .int .u32 z.crc], fun z9 => z9 = .int .i64 (cmpE x z), fun z9 => z9 = .bool true, fun z9 => z9 = .bool true] (fun _ w => SrtAt W g off cap (D) w) (by kernel_rfl) (by kernel_rfl) (by kernel_rfl) (by kernel_rfl) (by kernel_rfl) (by kernel_rfl) rfl rfl (HS.out) ?steps ?done
            case steps =>
              refine ⟨?_, ?_, ?_, ?_, ?_, ?_, ?_, ?_, ?_, ?_, ?_, ?_, ?_, ?_, ?_, ?_, ?_, trivial⟩
              · intro us au w1 k0 hlo hhi ha hd hst hI
                obtain rfl : k0 = 0 := by omega
                have q9 := slot_far (t := 9) (v := .int .i64 (J)) ha (by kernel_rfl) (by kernel_rfl)
                have p9 := slot_norm q9
                clear ha hd hst
                exact StepI.pure (v := .int .i64 (J)) rfl rfl (by go_simp) ⟨rfl, hI⟩
              · intro us au w1 k1 hlo hhi ha hd hst hI
                obtain rfl : k1 = 0 := by omega
                have q1 := slot_far (t := 1) (v := .int .i64 (a)) ha (by kernel_rfl) (by kernel_rfl)
                have p1 := slot_norm q1
                clear ha hd hst
                exact StepI.pure (v := .int .i64 (a)) rfl rfl (by go_simp) ⟨rfl, hI⟩
              · intro us au w1 k2 hlo hhi ha hd hst hI
                obtain rfl : k2 = 0 := by omega
                have e0 := hd 0 _ (by kernel_rfl) rfl
                have e1 := hd 1 _ (by kernel_rfl) rfl
                have q18 := slot_at (t := 18) 0 ha (by kernel_rfl) (by kernel_rfl) (by kernel_rfl) e0
                have p18 := slot_norm q18
                have q19 := slot_at (t := 19) 1 ha (by kernel_rfl) (by kernel_rfl) (by kernel_rfl) e1
                have p19 := slot_norm q19
                clear ha hd hst
                exact StepI.pure (v := .bool true) rfl rfl (by go_simp) ⟨rfl, hI⟩
              · intro us au w1 k3 hlo hhi ha hd hst hI
                obtain rfl : k3 = 0 := by omega
                have e2 := hd 2 _ (by kernel_rfl) rfl
                have q20 := slot_at (t := 20) 2 ha (by kernel_rfl) (by kernel_rfl) (by kernel_rfl) e2
                have p20 := slot_norm q20
                clear ha hd hst
                exact StepI.pure (v := .bool true) rfl rfl (by go_simp) ⟨rfl, hI⟩
              · intro us au w1 k4 hlo hhi ha hd hst hI
                obtain rfl : k4 = 0 := by omega
                have e3 := hd 3 _ (by kernel_rfl) rfl
                have q3 := slot_far (t := 3) (v := .func (.func 22) #[] #[]) ha (by kernel_rfl) (by kernel_rfl)
                have p3 := slot_norm q3
                have hg := slot_at (t := 21) 3 ha (by kernel_rfl) (by kernel_rfl) (by kernel_rfl) e3
                clear ha hd hst
                exact StepI.pure (v := .func (.func 22) #[] #[]) rfl (wanted_at rfl rfl hg) (by go_simp) ⟨rfl, hI⟩
              · intro us au w1 k5 hlo hhi ha hd hst hI
                obtain rfl : k5 = 0 := by omega
                have e3 := hd 3 _ (by kernel_rfl) rfl
                have q0 := slot_far (t := 0) (v := .slice (some ⟨g, off, none⟩) N cap) ha (by kernel_rfl) (by kernel_rfl)
                have p0 := slot_norm q0
                have hg := slot_at (t := 21) 3 ha (by kernel_rfl) (by kernel_rfl) (by kernel_rfl) e3
                clear ha hd hst
                exact StepI.pure (v := .slice (some ⟨g, off, none⟩) N cap) rfl (wanted_at rfl rfl hg) (by go_simp) ⟨rfl, hI⟩
              · intro us au w1 k6 hlo hhi ha hd hst hI
                obtain rfl : k6 = 0 := by omega
                have e3 := hd 3 _ (by kernel_rfl) rfl
                have q9 := slot_far (t := 9) (v := .int .i64 (J)) ha (by kernel_rfl) (by kernel_rfl)
                have p9 := slot_norm q9
                have hg := slot_at (t := 21) 3 ha (by kernel_rfl) (by kernel_rfl) (by kernel_rfl) e3
                clear ha hd hst
                exact StepI.pure (v := .int .i64 (J)) rfl (wanted_at rfl rfl hg) (by go_simp) ⟨rfl, hI⟩
              · intro us au w1 k7 hlo hhi ha hd hst hI
                obtain rfl : k7 = 0 := by omega
                have e5 := hd 5 _ (by kernel_rfl) rfl
                have e6 := hd 6 _ (by kernel_rfl) rfl
                have e3 := hd 3 _ (by kernel_rfl) rfl
                have q23 := slot_at (t := 23) 5 ha (by kernel_rfl) (by kernel_rfl) (by kernel_rfl) e5
                have p23 := slot_norm q23
                have q24 := slot_at (t := 24) 6 ha (by kernel_rfl) (by kernel_rfl) (by kernel_rfl) e6
                have p24 := slot_norm q24
                have hg := slot_at (t := 21) 3 ha (by kernel_rfl) (by kernel_rfl) (by kernel_rfl) e3
                clear ha hd hst
                exact StepI.pure (v := .pointer (some ⟨g, off + (J) * 5, none⟩)) rfl (wanted_at rfl rfl hg) (by go_simp) ⟨rfl, hI⟩
              · intro us au w1 k8 hlo hhi ha hd hst hI
                obtain rfl : k8 = 0 := by omega
                have e7 := hd 7 _ (by kernel_rfl) rfl
                have e3 := hd 3 _ (by kernel_rfl) rfl
                have q25 := slot_at (t := 25) 7 ha (by kernel_rfl) (by kernel_rfl) (by kernel_rfl) e7
                have p25 := slot_norm q25
                have hg := slot_at (t := 21) 3 ha (by kernel_rfl) (by kernel_rfl) (by kernel_rfl) e3
                clear ha hd hst
                have c0 := SrtAt.c0 hI hli.out
                have c1 := SrtAt.c1 hI hli.out
                have c2 := SrtAt.c2 hI hli.out
                have c3 := SrtAt.c3 hI hli.out
                have c4 := SrtAt.c4 hI hli.out
                exact StepI.pure (v := .agg #[.int .i64 x.kind, .slice x.A x.n x.c, .string x.id, .int .i64 x.at_, .int .u32 x.crc]) rfl (wanted_at rfl rfl hg) (by go_simp) ⟨rfl, hI⟩
              · intro us au w1 k9 hlo hhi ha hd hst hI
                obtain rfl : k9 = 0 := by omega
                have e3 := hd 3 _ (by kernel_rfl) rfl
                have q0 := slot_far (t := 0) (v := .slice (some ⟨g, off, none⟩) N cap) ha (by kernel_rfl) (by kernel_rfl)
                have p0 := slot_norm q0
                have hg := slot_at (t := 21) 3 ha (by kernel_rfl) (by kernel_rfl) (by kernel_rfl) e3
                clear ha hd hst
                exact StepI.pure (v := .slice (some ⟨g, off, none⟩) N cap) rfl (wanted_at rfl rfl hg) (by go_simp) ⟨rfl, hI⟩
              · intro us au w1 k10 hlo hhi ha hd hst hI
                obtain rfl : k10 = 0 := by omega
                have e3 := hd 3 _ (by kernel_rfl) rfl
                have q9 := slot_far (t := 9) (v := .int .i64 (J)) ha (by kernel_rfl) (by kernel_rfl)
                have p9 := slot_norm q9
                have hg := slot_at (t := 21) 3 ha (by kernel_rfl) (by kernel_rfl) (by kernel_rfl) e3
                clear ha hd hst
                exact StepI.pure (v := .int .i64 (J)) rfl (wanted_at rfl rfl hg) (by go_simp) ⟨rfl, hI⟩
              · intro us au w1 k11 hlo hhi ha hd hst hI
                obtain rfl : k11 = 0 := by omega
                have e10 := hd 10 _ (by kernel_rfl) rfl
                have e3 := hd 3 _ (by kernel_rfl) rfl
                have q28 := slot_at (t := 28) 10 ha (by kernel_rfl) (by kernel_rfl) (by kernel_rfl) e10
                have p28 := slot_norm q28
                have hg := slot_at (t := 21) 3 ha (by kernel_rfl) (by kernel_rfl) (by kernel_rfl) e3
                clear ha hd hst
                exact StepI.pure (v := .int .i64 (K)) rfl (wanted_at rfl rfl hg) (by go_simp; exact IntWalk.i64_in _ (by omega)) ⟨rfl, hI⟩
              · intro us au w1 k12 hlo hhi ha hd hst hI
                obtain rfl : k12 = 0 := by omega
                have e9 := hd 9 _ (by kernel_rfl) rfl
                have e11 := hd 11 _ (by kernel_rfl) rfl
                have e3 := hd 3 _ (by kernel_rfl) rfl
                have q27 := slot_at (t := 27) 9 ha (by kernel_rfl) (by kernel_rfl) (by kernel_rfl) e9
                have p27 := slot_norm q27
                have q29 := slot_at (t := 29) 11 ha (by kernel_rfl) (by kernel_rfl) (by kernel_rfl) e11
                have p29 := slot_norm q29
                have hg := slot_at (t := 21) 3 ha (by kernel_rfl) (by kernel_rfl) (by kernel_rfl) e3
                clear ha hd hst
                exact StepI.pure (v := .pointer (some ⟨g, off + (K) * 5, none⟩)) rfl (wanted_at rfl rfl hg) (by go_simp) ⟨rfl, hI⟩
              · intro us au w1 k13 hlo hhi ha hd hst hI
                obtain rfl : k13 = 0 := by omega
                have e12 := hd 12 _ (by kernel_rfl) rfl
                have e3 := hd 3 _ (by kernel_rfl) rfl
                have q30 := slot_at (t := 30) 12 ha (by kernel_rfl) (by kernel_rfl) (by kernel_rfl) e12
                have p30 := slot_norm q30
                have hg := slot_at (t := 21) 3 ha (by kernel_rfl) (by kernel_rfl) (by kernel_rfl) e3
                clear ha hd hst
                have c0 := SrtAt.c0 hI hlj.out
                have c1 := SrtAt.c1 hI hlj.out
                have c2 := SrtAt.c2 hI hlj.out
                have c3 := SrtAt.c3 hI hlj.out
                have c4 := SrtAt.c4 hI hlj.out
                exact StepI.pure (v := .agg #[.int .i64 z.kind, .slice z.A z.n z.c, .string z.id, .int .i64 z.at_, .int .u32 z.crc]) rfl (wanted_at rfl rfl hg) (by go_simp) ⟨rfl, hI⟩
              · intro us au w1 ha hd hst hI
                have e4 := hd 4 _ (by kernel_rfl) rfl
                have e8 := hd 8 _ (by kernel_rfl) rfl
                have e13 := hd 13 _ (by kernel_rfl) rfl
                have e3 := hd 3 _ (by kernel_rfl) rfl
                have q22 := slot_at (t := 22) 4 ha (by kernel_rfl) (by kernel_rfl) (by kernel_rfl) e4
                have p22 := slot_norm q22
                have q26 := slot_at (t := 26) 8 ha (by kernel_rfl) (by kernel_rfl) (by kernel_rfl) e8
                have p26 := slot_norm q26
                have q31 := slot_at (t := 31) 13 ha (by kernel_rfl) (by kernel_rfl) (by kernel_rfl) e13
                have p31 := slot_norm q31
                have hg := slot_at (t := 21) 3 ha (by kernel_rfl) (by kernel_rfl) (by kernel_rfl) e3
                clear ha hd hst
                refine StepI.call (f := 22) (args := #[.agg #[.int .i64 x.kind, .slice x.A x.n x.c, .string x.id, .int .i64 x.at_, .int .u32 x.crc], .agg #[.int .i64 z.kind, .slice z.A z.n z.c, .string z.id, .int .i64 z.at_, .int .u32 z.crc]]) rfl (wanted_at rfl rfl hg) (by go_simp) ?_
                refine (cmp_any x z w1 HOx.out HOz.out).mono ?_
                rintro e w' ⟨rfl, hb⟩
                exact ⟨_, rfl, rfl, SrtAt.below hI hb⟩
              · intro us au w1 k15 hlo hhi ha hd hst hI
                obtain rfl : k15 = 1 := by omega
                have e14 := hd 14 _ (by kernel_rfl) rfl
                have e3 := hd 3 _ (by kernel_rfl) rfl
                have q32 := slot_at (t := 32) 14 ha (by kernel_rfl) (by kernel_rfl) (by kernel_rfl) e14
                have p32 := slot_norm q32
                have hg := slot_at (t := 21) 3 ha (by kernel_rfl) (by kernel_rfl) (by kernel_rfl) e3
                clear ha hd hst
                exact StepI.pure (v := .bool true) rfl (wanted_at rfl rfl hg) (by go_simp) ⟨rfl, hI⟩
              · intro us au w1 k16 hlo hhi ha hd hst hI
                obtain rfl : k16 = 1 := by omega
                have e3 := hd 3 _ (by kernel_rfl) rfl
                have e15 := hd 15 _ (by kernel_rfl) rfl
                have q21 := slot_at (t := 21) 3 ha (by kernel_rfl) (by kernel_rfl) (by kernel_rfl) e3
                have p21 := slot_norm q21
                have q33 := slot_at (t := 33) 15 ha (by kernel_rfl) (by kernel_rfl) (by kernel_rfl) e15
                have p33 := slot_norm q33
                clear ha hd hst
                exact StepI.pure (v := .bool true) rfl rfl (by go_simp) ⟨rfl, hI⟩
            case done =>
              intro us w1 hI hd
              have e16 := hd 16 _ (by decide) rfl
              have HS := Lib.hid (SrtAt.drew hI)
              clear hd hcl
              simp only [putAll]
              go_simp
              go_upto_region 6 with (fail)
              refine wp_region_ph (by kernel_rfl) [15, 17] [.span 0 0, .span 0 0, .span 0 1, .span 0 1, .span 0 1, .span 0 0, .span 0 0, .span 0 0, .span 0 0, .span 0 0, .span 0 0, .span 0 0, .span 0 0, .span 0 0, .span 0 0, .phase 0, .span 1 1, .phase 1] [fun z9 => z9 = .slice (some ⟨g, off, none⟩) N cap, fun z9 => z9 = .int .i64 (J), fun z9 => z9 = .slice (some ⟨g, off, none⟩) N cap, fun z9 => z9 = .int .i64 (J), fun z9 => z9 = .int .i64 (K), fun z9 => z9 = .slice (some ⟨g, off, none⟩) N cap, fun z9 => z9 = .int .i64 (J), fun z9 => z9 = .int .i64 (K), fun z9 => z9 = .pointer (some ⟨g, off + (K) * 5, none⟩), fun z9 => z9 = .agg #[.int .i64 z.kind, .slice z.A z.n z.c, .string z.id, .int .i64 z.at_, .int .u32 z.crc], fun z9 => z9 = .slice (some ⟨g, off, none⟩) N cap, fun z9 => z9 = .int .i64 (J), fun z9 => z9 = .pointer (some ⟨g, off + (J) * 5, none⟩), fun z9 => z9 = .agg #[.int .i64 x.kind, .slice x.A x.n x.c, .string x.id, .int .i64 x.at_, .int .u32 x.crc], fun z9 => z9 = .pointer (some ⟨g, off + (J) * 5, none⟩), fun _ => True, fun z9 => z9 = .pointer (some ⟨g, off + (K) * 5, none⟩), fun _ => True] (ISwap W g off cap (J) (K) x z (D)) (by kernel_rfl) (by kernel_rfl) (by kernel_rfl) (by kernel_rfl) (by kernel_rfl) (by kernel_rfl) rfl rfl (HS.out) ?steps ?done
              case steps =>
                refine ⟨?_, ?_, ?_, ?_, ?_, ?_, ?_, ?_, ?_, ?_, ?_, ?_, ?_, ?_, ?_, ?_, ?_, ?_, trivial⟩
                · intro us au w1 k0 hlo hhi ha hd hst hI
                  obtain rfl : k0 = 0 := by omega
                  have q0 := slot_far (t := 0) (v := .slice (some ⟨g, off, none⟩) N cap) ha (by kernel_rfl) (by kernel_rfl)
                  have p0 := slot_norm q0
                  clear ha hd hst
                  exact StepI.pure (v := .slice (some ⟨g, off, none⟩) N cap) rfl rfl (by go_simp) ⟨rfl, hI⟩
                · intro us au w1 k1 hlo hhi ha hd hst hI
                  obtain rfl : k1 = 0 := by omega
                  have q9 := slot_far (t := 9) (v := .int .i64 (J)) ha (by kernel_rfl) (by kernel_rfl)
                  have p9 := slot_norm q9
                  clear ha hd hst
                  exact StepI.pure (v := .int .i64 (J)) rfl rfl (by go_simp) ⟨rfl, hI⟩
                · intro us au w1 k2 hlo hhi ha hd hst hI
                  have q0 := slot_far (t := 0) (v := .slice (some ⟨g, off, none⟩) N cap) ha (by kernel_rfl) (by kernel_rfl)
                  have p0 := slot_norm q0
                  clear ha hd hst
                  exact StepI.pure (v := .slice (some ⟨g, off, none⟩) N cap) rfl rfl (by go_simp) ⟨rfl, hI⟩
                · intro us au w1 k3 hlo hhi ha hd hst hI
                  have q9 := slot_far (t := 9) (v := .int .i64 (J)) ha (by kernel_rfl) (by kernel_rfl)
                  have p9 := slot_norm q9
                  clear ha hd hst
                  exact StepI.pure (v := .int .i64 (J)) rfl rfl (by go_simp) ⟨rfl, hI⟩
                · intro us au w1 k4 hlo hhi ha hd hst hI
                  have e3 := hd 3 _ (by kernel_rfl) rfl
                  have q40 := slot_at (t := 40) 3 ha (by kernel_rfl) (by kernel_rfl) (by kernel_rfl) e3
                  have p40 := slot_norm q40
                  clear ha hd hst
                  exact StepI.pure (v := .int .i64 (K)) rfl rfl (by go_simp; exact IntWalk.i64_in _ (by omega)) ⟨rfl, hI⟩
                · intro us au w1 k5 hlo hhi ha hd hst hI
                  obtain rfl : k5 = 0 := by omega
                  have q0 := slot_far (t := 0) (v := .slice (some ⟨g, off, none⟩) N cap) ha (by kernel_rfl) (by kernel_rfl)
                  have p0 := slot_norm q0
                  clear ha hd hst
                  exact StepI.pure (v := .slice (some ⟨g, off, none⟩) N cap) rfl rfl (by go_simp) ⟨rfl, hI⟩
                · intro us au w1 k6 hlo hhi ha hd hst hI
                  obtain rfl : k6 = 0 := by omega
                  have q9 := slot_far (t := 9) (v := .int .i64 (J)) ha (by kernel_rfl) (by kernel_rfl)
                  have p9 := slot_norm q9
                  clear ha hd hst
                  exact StepI.pure (v := .int .i64 (J)) rfl rfl (by go_simp) ⟨rfl, hI⟩
                · intro us au w1 k7 hlo hhi ha hd hst hI
                  obtain rfl : k7 = 0 := by omega
                  have e6 := hd 6 _ (by kernel_rfl) rfl
                  have q43 := slot_at (t := 43) 6 ha (by kernel_rfl) (by kernel_rfl) (by kernel_rfl) e6
                  have p43 := slot_norm q43
                  clear ha hd hst
                  exact StepI.pure (v := .int .i64 (K)) rfl rfl (by go_simp; exact IntWalk.i64_in _ (by omega)) ⟨rfl, hI⟩
                · intro us au w1 k8 hlo hhi ha hd hst hI
                  obtain rfl : k8 = 0 := by omega
                  have e5 := hd 5 _ (by kernel_rfl) rfl
                  have e7 := hd 7 _ (by kernel_rfl) rfl
                  have q42 := slot_at (t := 42) 5 ha (by kernel_rfl) (by kernel_rfl) (by kernel_rfl) e5
                  have p42 := slot_norm q42
                  have q44 := slot_at (t := 44) 7 ha (by kernel_rfl) (by kernel_rfl) (by kernel_rfl) e7
                  have p44 := slot_norm q44
                  clear ha hd hst
                  exact StepI.pure (v := .pointer (some ⟨g, off + (K) * 5, none⟩)) rfl rfl (by go_simp) ⟨rfl, hI⟩
                · intro us au w1 k9 hlo hhi ha hd hst hI
                  obtain rfl : k9 = 0 := by omega
                  have e8 := hd 8 _ (by kernel_rfl) rfl
                  have q45 := slot_at (t := 45) 8 ha (by kernel_rfl) (by kernel_rfl) (by kernel_rfl) e8
                  have p45 := slot_norm q45
                  clear ha hd hst
                  have c0 := SrtAt.c0 hI hlj.out
                  have c1 := SrtAt.c1 hI hlj.out
                  have c2 := SrtAt.c2 hI hlj.out
                  have c3 := SrtAt.c3 hI hlj.out
                  have c4 := SrtAt.c4 hI hlj.out
                  exact StepI.pure (v := .agg #[.int .i64 z.kind, .slice z.A z.n z.c, .string z.id, .int .i64 z.at_, .int .u32 z.crc]) rfl rfl (by go_simp) ⟨rfl, hI⟩
                · intro us au w1 k10 hlo hhi ha hd hst hI
                  obtain rfl : k10 = 0 := by omega
                  have q0 := slot_far (t := 0) (v := .slice (some ⟨g, off, none⟩) N cap) ha (by kernel_rfl) (by kernel_rfl)
                  have p0 := slot_norm q0
                  clear ha hd hst
                  exact StepI.pure (v := .slice (some ⟨g, off, none⟩) N cap) rfl rfl (by go_simp) ⟨rfl, hI⟩
                · intro us au w1 k11 hlo hhi ha hd hst hI
                  obtain rfl : k11 = 0 := by omega
                  have q9 := slot_far (t := 9) (v := .int .i64 (J)) ha (by kernel_rfl) (by kernel_rfl)
                  have p9 := slot_norm q9
                  clear ha hd hst
                  exact StepI.pure (v := .int .i64 (J)) rfl rfl (by go_simp) ⟨rfl, hI⟩
                · intro us au w1 k12 hlo hhi ha hd hst hI
                  obtain rfl : k12 = 0 := by omega
                  have e10 := hd 10 _ (by kernel_rfl) rfl
                  have e11 := hd 11 _ (by kernel_rfl) rfl
                  have q47 := slot_at (t := 47) 10 ha (by kernel_rfl) (by kernel_rfl) (by kernel_rfl) e10
                  have p47 := slot_norm q47
                  have q48 := slot_at (t := 48) 11 ha (by kernel_rfl) (by kernel_rfl) (by kernel_rfl) e11
                  have p48 := slot_norm q48
                  clear ha hd hst
                  exact StepI.pure (v := .pointer (some ⟨g, off + (J) * 5, none⟩)) rfl rfl (by go_simp) ⟨rfl, hI⟩
                · intro us au w1 k13 hlo hhi ha hd hst hI
                  obtain rfl : k13 = 0 := by omega
                  have e12 := hd 12 _ (by kernel_rfl) rfl
                  have q49 := slot_at (t := 49) 12 ha (by kernel_rfl) (by kernel_rfl) (by kernel_rfl) e12
                  have p49 := slot_norm q49
                  clear ha hd hst
                  have c0 := SrtAt.c0 hI hli.out
                  have c1 := SrtAt.c1 hI hli.out
                  have c2 := SrtAt.c2 hI hli.out
                  have c3 := SrtAt.c3 hI hli.out
                  have c4 := SrtAt.c4 hI hli.out
                  exact StepI.pure (v := .agg #[.int .i64 x.kind, .slice x.A x.n x.c, .string x.id, .int .i64 x.at_, .int .u32 x.crc]) rfl rfl (by go_simp) ⟨rfl, hI⟩
                · intro us au w1 k14 hlo hhi ha hd hst hI
                  obtain rfl : k14 = 0 := by omega
                  have e0 := hd 0 _ (by kernel_rfl) rfl
                  have e1 := hd 1 _ (by kernel_rfl) rfl
                  have q37 := slot_at (t := 37) 0 ha (by kernel_rfl) (by kernel_rfl) (by kernel_rfl) e0
                  have p37 := slot_norm q37
                  have q38 := slot_at (t := 38) 1 ha (by kernel_rfl) (by kernel_rfl) (by kernel_rfl) e1
                  have p38 := slot_norm q38
                  clear ha hd hst
                  exact StepI.pure (v := .pointer (some ⟨g, off + (J) * 5, none⟩)) rfl rfl (by go_simp) ⟨rfl, hI⟩
                · intro us au w1 ha hd hst hI
                  have e14 := hd 14 _ (by kernel_rfl) rfl
                  have e9 := hd 9 _ (by kernel_rfl) rfl
                  have q51 := slot_at (t := 51) 14 ha (by kernel_rfl) (by kernel_rfl) (by kernel_rfl) e14
                  have p51 := slot_norm q51
                  have q46 := slot_at (t := 46) 9 ha (by kernel_rfl) (by kernel_rfl) (by kernel_rfl) e9
                  have p46 := slot_norm q46
                  clear ha hd hst
                  have hlt : J < (D).length := (List.getElem?_eq_some_iff.1 hli.out).1
                  have hx := hli.out
                  have c0 := SrtAt.c0 hI hx
                  have c1 := SrtAt.c1 hI hx
                  have c2 := SrtAt.c2 hI hx
                  have c3 := SrtAt.c3 hI hx
                  have c4 := SrtAt.c4 hI hx
                  have f0 := SrtAt.f0 hI hlt
                  have f1 := SrtAt.f1 hI hlt
                  have f2 := SrtAt.f2 hI hlt
                  have f3 := SrtAt.f3 hI hlt
                  have f4 := SrtAt.f4 hI hlt
                  exact StepI.stored (w' := putCells w1 g (off + (J) * 5) (encE z)) rfl rfl (by simp only [putCells, encE]; go_simp) ⟨trivial, SrtAt.put hI hlt z⟩
                · intro us au w1 k16 hlo hhi ha hd hst hI
                  obtain rfl : k16 = 1 := by omega
                  have e2 := hd 2 _ (by kernel_rfl) rfl
                  have e4 := hd 4 _ (by kernel_rfl) rfl
                  have q39 := slot_at (t := 39) 2 ha (by kernel_rfl) (by kernel_rfl) (by kernel_rfl) e2
                  have p39 := slot_norm q39
                  have q41 := slot_at (t := 41) 4 ha (by kernel_rfl) (by kernel_rfl) (by kernel_rfl) e4
                  have p41 := slot_norm q41
                  clear ha hd hst
                  exact StepI.pure (v := .pointer (some ⟨g, off + (K) * 5, none⟩)) rfl rfl (by go_simp) ⟨rfl, hI⟩
                · intro us au w1 ha hd hst hI
                  have e16 := hd 16 _ (by kernel_rfl) rfl
                  have e13 := hd 13 _ (by kernel_rfl) rfl
                  have q52 := slot_at (t := 52) 16 ha (by kernel_rfl) (by kernel_rfl) (by kernel_rfl) e16
                  have p52 := slot_norm q52
                  have q50 := slot_at (t := 50) 13 ha (by kernel_rfl) (by kernel_rfl) (by kernel_rfl) e13
                  have p50 := slot_norm q50
                  clear ha hd hst
                  have hlt : K < ((D).set (J) z).length := by rw [List.length_set]; exact (List.getElem?_eq_some_iff.1 hlj.out).1
                  have hx : ((D).set (J) z)[K]? = some z := by rw [List.getElem?_set_ne (by omega)]; exact hlj.out
                  have c0 := SrtAt.c0 hI hx
                  have c1 := SrtAt.c1 hI hx
                  have c2 := SrtAt.c2 hI hx
                  have c3 := SrtAt.c3 hI hx
                  have c4 := SrtAt.c4 hI hx
                  have f0 := SrtAt.f0 hI hlt
                  have f1 := SrtAt.f1 hI hlt
                  have f2 := SrtAt.f2 hI hlt
                  have f3 := SrtAt.f3 hI hlt
                  have f4 := SrtAt.f4 hI hlt
                  exact StepI.stored (w' := putCells w1 g (off + (K) * 5) (encE x)) rfl rfl (by simp only [putCells, encE]; go_simp) ⟨trivial, SrtAt.put hI hlt x⟩
              case done =>
                intro us w1 hI hd
                clear hd HS hli hlj
                simp only [putAll]
                go_simp
                go_wp2
                go_roundw
                case rel => exact ⟨K, l0, z :: l2, rfl, by rw [HSl.out]; simp, HK.out, fun y t h => by injection h with h1 _; rw [← h1]; exact HX.out, by rw [← HSET.out]; exact hI⟩
                case measure => have := HKJ.out; simp [intOf]; omega
        · obtain rfl : l1 = [] := List.eq_nil_of_length_eq_zero (by omega)
          obtain ⟨D, hD⟩ : ∃ D, D = p ++ [] ++ x :: l2 ++ u2 ++ s := ⟨_, rfl⟩
          rw [← hD] at hAt
          have HD := Lib.hid hD
          have hJa : J = a := by simpa using hJ
          subst hJa
          have HS := Lib.hid hAt.drew
          have g1 : decide ((J : Int) < (J : Int)) = false := decide_eq_false (by omega)
          have g2 : decide (J < J) = false := decide_eq_false (by omega)
          clear hSl hl2 hl1 hAt hJ hD
          go_upto_region 4 with (fail)
          refine wp_region_ph (by kernel_rfl) [] [.span 0 0, .span 0 0, .span 0 0, .span 0 0, .span 0 0, .span 0 0, .span 0 0, .span 0 0, .span 0 0, .span 0 0, .span 0 0, .span 0 0, .span 0 0, .span 0 0, .span 0 0, .span 0 0, .span 0 0] [fun z9 => z9 = .int .i64 (J), fun z9 => z9 = .int .i64 (J), fun z9 => z9 = .bool false, fun z9 => z9 = .bool false, fun z9 => z9 = undef, fun z9 => z9 = undef, fun z9 => z9 = undef, fun z9 => z9 = undef, fun z9 => z9 = undef, fun z9 => z9 = undef, fun z9 => z9 = undef, fun z9 => z9 = undef, fun z9 => z9 = undef, fun z9 => z9 = undef, fun z9 => z9 = undef, fun z9 => z9 = undef, fun z9 => z9 = .bool false] (fun _ w => SrtAt W g off cap (D) w) (by kernel_rfl) (by kernel_rfl) (by kernel_rfl) (by kernel_rfl) (by kernel_rfl) (by kernel_rfl) rfl rfl (HS.out) ?steps ?done
          case steps =>
            refine ⟨?_, ?_, ?_, ?_, ?_, ?_, ?_, ?_, ?_, ?_, ?_, ?_, ?_, ?_, ?_, ?_, ?_, trivial⟩
            · intro us au w1 k0 hlo hhi ha hd hst hI
              obtain rfl : k0 = 0 := by omega
              have q9 := slot_far (t := 9) (v := .int .i64 (J)) ha (by kernel_rfl) (by kernel_rfl)
              have p9 := slot_norm q9
              clear ha hd hst
              exact StepI.pure (v := .int .i64 (J)) rfl rfl (by go_simp) ⟨rfl, hI⟩
            · intro us au w1 k1 hlo hhi ha hd hst hI
              obtain rfl : k1 = 0 := by omega
              have q1 := slot_far (t := 1) (v := .int .i64 (J)) ha (by kernel_rfl) (by kernel_rfl)
              have p1 := slot_norm q1
              clear ha hd hst
              exact StepI.pure (v := .int .i64 (J)) rfl rfl (by go_simp) ⟨rfl, hI⟩
            · intro us au w1 k2 hlo hhi ha hd hst hI
              obtain rfl : k2 = 0 := by omega
              have e0 := hd 0 _ (by kernel_rfl) rfl
              have e1 := hd 1 _ (by kernel_rfl) rfl
              have q18 := slot_at (t := 18) 0 ha (by kernel_rfl) (by kernel_rfl) (by kernel_rfl) e0
              have p18 := slot_norm q18
              have q19 := slot_at (t := 19) 1 ha (by kernel_rfl) (by kernel_rfl) (by kernel_rfl) e1
              have p19 := slot_norm q19
              clear ha hd hst
              exact StepI.pure (v := .bool false) rfl rfl (by go_simp) ⟨rfl, hI⟩
            · intro us au w1 k3 hlo hhi ha hd hst hI
              obtain rfl : k3 = 0 := by omega
              have e2 := hd 2 _ (by kernel_rfl) rfl
              have q20 := slot_at (t := 20) 2 ha (by kernel_rfl) (by kernel_rfl) (by kernel_rfl) e2
              have p20 := slot_norm q20
              clear ha hd hst
              exact StepI.pure (v := .bool false) rfl rfl (by go_simp) ⟨rfl, hI⟩
            · intro us au w1 k4 hlo hhi ha hd hst hI
              obtain rfl : k4 = 0 := by omega
              have e3 := hd 3 _ (by kernel_rfl) rfl
              have hg := slot_at (t := 21) 3 ha (by kernel_rfl) (by kernel_rfl) (by kernel_rfl) e3
              exact StepI.skip rfl (unwanted_at rfl rfl hg rfl) ⟨rfl, hI⟩
            · intro us au w1 k5 hlo hhi ha hd hst hI
              obtain rfl : k5 = 0 := by omega
              have e3 := hd 3 _ (by kernel_rfl) rfl
              have hg := slot_at (t := 21) 3 ha (by kernel_rfl) (by kernel_rfl) (by kernel_rfl) e3
              exact StepI.skip rfl (unwanted_at rfl rfl hg rfl) ⟨rfl, hI⟩
            · intro us au w1 k6 hlo hhi ha hd hst hI
              obtain rfl : k6 = 0 := by omega
              have e3 := hd 3 _ (by kernel_rfl) rfl
              have hg := slot_at (t := 21) 3 ha (by kernel_rfl) (by kernel_rfl) (by kernel_rfl) e3
              exact StepI.skip rfl (unwanted_at rfl rfl hg rfl) ⟨rfl, hI⟩
            · intro us au w1 k7 hlo hhi ha hd hst hI
              obtain rfl : k7 = 0 := by omega
              have e3 := hd 3 _ (by kernel_rfl) rfl
              have hg := slot_at (t := 21) 3 ha (by kernel_rfl) (by kernel_rfl) (by kernel_rfl) e3
              exact StepI.skip rfl (unwanted_at rfl rfl hg rfl) ⟨rfl, hI⟩
            · intro us au w1 k8 hlo hhi ha hd hst hI
              obtain rfl : k8 = 0 := by omega
              have e3 := hd 3 _ (by kernel_rfl) rfl
              have hg := slot_at (t := 21) 3 ha (by kernel_rfl) (by kernel_rfl) (by kernel_rfl) e3
              exact StepI.skip rfl (unwanted_at rfl rfl hg rfl) ⟨rfl, hI⟩
            · intro us au w1 k9 hlo hhi ha hd hst hI
              obtain rfl : k9 = 0 := by omega
              have e3 := hd 3 _ (by kernel_rfl) rfl
              have hg := slot_at (t := 21) 3 ha (by kernel_rfl) (by kernel_rfl) (by kernel_rfl) e3
              exact StepI.skip rfl (unwanted_at rfl rfl hg rfl) ⟨rfl, hI⟩
            · intro us au w1 k10 hlo hhi ha hd hst hI
              obtain rfl : k10 = 0 := by omega
              have e3 := hd 3 _ (by kernel_rfl) rfl
              have hg := slot_at (t := 21) 3 ha (by kernel_rfl) (by kernel_rfl) (by kernel_rfl) e3
              exact StepI.skip rfl (unwanted_at rfl rfl hg rfl) ⟨rfl, hI⟩
            · intro us au w1 k11 hlo hhi ha hd hst hI
              obtain rfl : k11 = 0 := by omega
              have e3 := hd 3 _ (by kernel_rfl) rfl
              have hg := slot_at (t := 21) 3 ha (by kernel_rfl) (by kernel_rfl) (by kernel_rfl) e3
              exact StepI.skip rfl (unwanted_at rfl rfl hg rfl) ⟨rfl, hI⟩
            · intro us au w1 k12 hlo hhi ha hd hst hI
              obtain rfl : k12 = 0 := by omega
              have e3 := hd 3 _ (by kernel_rfl) rfl
              have hg := slot_at (t := 21) 3 ha (by kernel_rfl) (by kernel_rfl) (by kernel_rfl) e3
              exact StepI.skip rfl (unwanted_at rfl rfl hg rfl) ⟨rfl, hI⟩
            · intro us au w1 k13 hlo hhi ha hd hst hI
              obtain rfl : k13 = 0 := by omega
              have e3 := hd 3 _ (by kernel_rfl) rfl
              have hg := slot_at (t := 21) 3 ha (by kernel_rfl) (by kernel_rfl) (by kernel_rfl) e3
              exact StepI.skip rfl (unwanted_at rfl rfl hg rfl) ⟨rfl, hI⟩
            · intro us au w1 k14 hlo hhi ha hd hst hI
              obtain rfl : k14 = 0 := by omega
              have e3 := hd 3 _ (by kernel_rfl) rfl
              have hg := slot_at (t := 21) 3 ha (by kernel_rfl) (by kernel_rfl) (by kernel_rfl) e3
              exact StepI.skip rfl (unwanted_at rfl rfl hg rfl) ⟨rfl, hI⟩
            · intro us au w1 k15 hlo hhi ha hd hst hI
              obtain rfl : k15 = 0 := by omega
              have e3 := hd 3 _ (by kernel_rfl) rfl
              have hg := slot_at (t := 21) 3 ha (by kernel_rfl) (by kernel_rfl) (by kernel_rfl) e3
              exact StepI.skip rfl (unwanted_at rfl rfl hg rfl) ⟨rfl, hI⟩
            · intro us au w1 k16 hlo hhi ha hd hst hI
              obtain rfl : k16 = 0 := by omega
              have e3 := hd 3 _ (by kernel_rfl) rfl
              have e15 := hd 15 _ (by kernel_rfl) rfl
              have q21 := slot_at (t := 21) 3 ha (by kernel_rfl) (by kernel_rfl) (by kernel_rfl) e3
              have p21 := slot_norm q21
              have q33 := slot_at (t := 33) 15 ha (by kernel_rfl) (by kernel_rfl) (by kernel_rfl) e15
              have p33 := slot_norm q33
              clear ha hd hst
              exact StepI.pure (v := .bool false) rfl rfl (by go_simp) ⟨rfl, hI⟩
          case done =>
            intro us w1 hI hd
            have e16 := hd 16 _ (by decide) rfl
            clear hd HS g1 g2
            simp only [putAll]
            go_simp
            go_wp2
            go_roundw
            case rel =>
              have hins := Srt.ins_at (lt := ltE) x [] l2 (fun _ h => by cases h) HL2.out
              refine ⟨k + 1, i + 1, by go_num, by have := HIK.out; omega, by omega, .inl (by omega), ?_⟩
              rw [HTK.out, HDK.out, HSl.out, hins]
              have := hI
              rw [HD.out] at this
              simp only [List.append_assoc, List.cons_append, List.nil_append] at this ⊢
              exact this
            case measure => simp [intOf]; omega
    · have hall : Srt.isort ltE (u.take k) = Srt.isort ltE u ∧ u.drop k = [] := by
        have := HNU.out
        exact ⟨by rw [List.take_of_length_le (by omega)], List.drop_of_length_le (by omega)⟩
      rw [hall.1, hall.2, List.append_nil] at hAt
      have HAt := Lib.hid hAt
      clear hAt hall hik hk hb
      go_wp2
      go_end0
      exact ⟨rfl, HAt.out.1, HAt.out.2⟩
end Go.Proofs.Ytndjebddgnmpfaa
namespace Go.Proofs.Ytndjebddgnmpfaa
open Go.RowKit
set_option linter.unusedVariables false
set_option linter.unusedSimpArgs false

theorem cut_mid {α : Type} (l : List α) (n : Nat) (h : n < l.length) : ∃ a x b, l = a ++ x :: b ∧ a.length = n ∧ b.length + n + 1 = l.length := by
  obtain ⟨a, c, rfl, h1, h2⟩ := split_at l n (by omega)
  cases c with
  | nil => simp at h2 h; omega
  | cons x b => exact ⟨a, x, b, rfl, h1, by simp at h2 ⊢; omega⟩
set_option maxRecDepth 100000 in
set_option maxHeartbeats 8000000 in
theorem symMerge_one (g off cap N a m b : Nat) (p : List El) (x : El) (v s : List El) (W : World) (hS : SRow W 30 5 encE g off cap (p ++ [x] ++ v ++ s)) (hN : (p ++ [x] ++ v ++ s).length = N) (ha : p.length = a) (hm : a + 1 = m) (hb : m + v.length = b)
    (hv : Srt.Sorted ltE v) (hox : okE x) (hov : ∀ y ∈ v, okE y) (hNb : N ≤ 140737488355328) :
    Calls Try.prog 53 #[.slice (some ⟨g, off, none⟩) N cap, .int .i64 a, .int .i64 m, .int .i64 b, .func (.func 22) #[] #[]] W (SrtPost g off cap (p ++ Srt.mrg ltE [x] v ++ s) W) := by
  have hcap := hS.capLe
  unfold maxLen at hcap
  have hNc : N ≤ cap := by rw [← hN]; exact hcap.1
  have hcm : cap ≤ 9223372036854775807 := hcap.2
  have hlen : b + s.length = N := by simp at hN; omega
  have hbN : b ≤ N := by omega
  have hmb : m ≤ b := by omega
  have ham : a < m := by omega
  obtain ⟨n, hn⟩ : ∃ n, v.length = n := ⟨_, rfl⟩
  rw [hn] at hb
  have e0 : (m : Int) - (a : Int) = 1 := by omega
  obtain ⟨D, hD⟩ : ∃ D, D = p ++ [x] ++ v ++ s := ⟨_, rfl⟩
  have hlj : D[a]? = some x := by
    rw [hD, ← ha, List.append_assoc, List.append_assoc, List.getElem?_append_right (Nat.le_refl _), Nat.sub_self]; rfl
  have hat : ∀ (i : Nat) (y : El), v[i]? = some y → D[m + i]? = some y := fun i y hy => by
    have hi := (List.getElem?_eq_some_iff.1 hy).1
    rw [hD, List.getElem?_append_left (by simp; omega), List.getElem?_append_right (by simp; omega), show m + i - (p ++ [x]).length = i by simp; omega]
    exact hy
  rw [← hD] at hS
  have HS0 := Lib.hid (SrtAt.start hS)
  have HNU := Lib.hid hn
  have HAT := Lib.hid hat
  have hlj := Lib.hid hlj
  have HA := Lib.hid ha
  have HB := Lib.hid hb
  have HM := Lib.hid hm
  have HV := Lib.hid hv
  have HOV := Lib.hid hov
  have HOx := Lib.hid hox
  have HD := Lib.hid hD
  clear hS hN hcap ha hn hb hov hox hv hD hat hm hlen
  go_enter Try.func53, Try.ntmps53
  go_wp2
  clear e0
  go_loopw [10, 11] (fun iv jv wr => ∃ (i j : Nat) (v1 v2 v3 : List El), iv = .int .i64 i ∧ jv = .int .i64 j ∧ v = v1 ++ v2 ++ v3 ∧ i = m + v1.length ∧ j = i + v2.length ∧ j ≤ b ∧ (∀ y ∈ v1, ltE y x = true) ∧ (∀ y ∈ v3, ltE y x = false) ∧ SrtAt W g off cap D wr) (fun iv jv _ => (intOf jv).toNat - (intOf iv).toNat)
  case atStart => exact ⟨m, b, [], v, [], rfl, rfl, by simp, rfl, by rw [HNU.out]; exact HB.out.symm, Nat.le_refl _, (fun _ h => by cases h), (fun _ h => by cases h), HS0.out⟩
  case round =>
    clear HS0
    obtain ⟨i, j, v1, v2, v3, rfl, rfl, hv, hi, hj, hjb, h1, h3, hAt⟩ := hrel
    have Hv := Lib.hid hv
    have H1 := Lib.hid h1
    have H3 := Lib.hid h3
    have him : m ≤ i := by omega
    by_cases hlt : i < j
    · obtain ⟨h, hh⟩ : ∃ h, h = (i + j) / 2 := ⟨_, rfl⟩
      obtain ⟨q1, y, q2, hv2, hw1, hw2⟩ := cut_mid v2 (h - i) (by omega)
      have hli : D[h]? = some y := by
        have := HAT.out (h - m) y (by
          rw [hv, hv2, List.append_assoc, List.getElem?_append_right (by omega), show h - m - v1.length = q1.length by omega, List.append_assoc, List.getElem?_append_right (Nat.le_refl _), Nat.sub_self]; rfl)
        rwa [show m + (h - m) = h by omega] at this
      have hoy : okE y := HOV.out y (by rw [hv, hv2]; simp)
      have c1 : IntKind.u64.wrap ((i : Int) + (j : Int)) = (i : Int) + (j : Int) := IntWalk.u64_in _ (by omega)
      have c2 : ((i : Int) + (j : Int)) / 2 = (h : Int) := by omega
      have c3 : IntKind.i64.wrap (h : Int) = (h : Int) := IntWalk.i64_in _ (by omega)
      have c4 : (0 : Int) ≤ (h : Int) := by omega
      have c5 : (h : Int) < (N : Int) := by omega
      have c6 : (a : Int) < (N : Int) := by omega
      have hih : i ≤ h := by omega
      have hhj : h < j := by omega
      have HOy := Lib.hid hoy
      have hli := Lib.hid hli
      have HS := Lib.hid hAt.drew
      have HI := Lib.hid hi
      have HJ := Lib.hid hj
      have HV2 := Lib.hid hv2
      have HW1 := Lib.hid hw1
      have HW2 := Lib.hid hw2
      have HSV2 : Hid (Srt.Sorted ltE v2) := by have := HV.out; rw [hv] at this; exact Srt.Sorted.right (Srt.Sorted.left this)
      clear hAt hi hj hv2 hw1 hw2 hoy hv h1 h3 hh
      have hcl := cmpE_lt y x
      cases hyx : ltE y x
      · rw [hyx] at hcl
        have HX := Lib.hid hyx
        clear hyx
        go_upto_region 5 with (fail)
        clear c1 c2 c3
        refine wp_region_ph (by kernel_rfl) [9] [.span 0 0, .span 0 0, .span 0 0, .span 0 0, .span 0 0, .span 0 0, .span 0 0, .span 0 0, .span 0 0, .phase 0, .span 1 1] [fun z9 => z9 = .func (.func 22) #[] #[], fun z9 => z9 = .slice (some ⟨g, off, none⟩) N cap, fun z9 => z9 = .int .i64 (h), fun z9 => z9 = .pointer (some ⟨g, off + (h) * 5, none⟩), fun z9 => z9 = .agg #[.int .i64 y.kind, .slice y.A y.n y.c, .string y.id, .int .i64 y.at_, .int .u32 y.crc], fun z9 => z9 = .slice (some ⟨g, off, none⟩) N cap, fun z9 => z9 = .int .i64 (a), fun z9 => z9 = .pointer (some ⟨g, off + (a) * 5, none⟩), fun z9 => z9 = .agg #[.int .i64 x.kind, .slice x.A x.n x.c, .string x.id, .int .i64 x.at_, .int .u32 x.crc], fun z9 => z9 = .int .i64 (cmpE y x), fun z9 => z9 = .bool false] (fun _ w => SrtAt W g off cap (D) w) (by kernel_rfl) (by kernel_rfl) (by kernel_rfl) (by kernel_rfl) (by kernel_rfl) (by kernel_rfl) rfl rfl (HS.out) ?steps ?done
        case steps =>
          refine ⟨?_, ?_, ?_, ?_, ?_, ?_, ?_, ?_, ?_, ?_, ?_, trivial⟩
          · intro us au w1 k0 hlo hhi ha hd hst hI
            obtain rfl : k0 = 0 := by omega
            have q4 := slot_far (t := 4) (v := .func (.func 22) #[] #[]) ha (by kernel_rfl) (by kernel_rfl)
            have p4 := slot_norm q4
            clear ha hd hst
            exact StepI.pure (v := .func (.func 22) #[] #[]) rfl rfl (by go_simp) ⟨rfl, hI⟩
          · intro us au w1 k1 hlo hhi ha hd hst hI
            obtain rfl : k1 = 0 := by omega
            have q0 := slot_far (t := 0) (v := .slice (some ⟨g, off, none⟩) N cap) ha (by kernel_rfl) (by kernel_rfl)
            have p0 := slot_norm q0
            clear ha hd hst
            exact StepI.pure (v := .slice (some ⟨g, off, none⟩) N cap) rfl rfl (by go_simp) ⟨rfl, hI⟩
          · intro us au w1 k2 hlo hhi ha hd hst hI
            obtain rfl : k2 = 0 := by omega
            have q12 := slot_far (t := 12) (v := .int .i64 (h)) ha (by kernel_rfl) (by kernel_rfl)
            have p12 := slot_norm q12
            clear ha hd hst
            exact StepI.pure (v := .int .i64 (h)) rfl rfl (by go_simp) ⟨rfl, hI⟩
          · intro us au w1 k3 hlo hhi ha hd hst hI
            obtain rfl : k3 = 0 := by omega
            have e1 := hd 1 _ (by kernel_rfl) rfl
            have e2 := hd 2 _ (by kernel_rfl) rfl
            have q41 := slot_at (t := 41) 1 ha (by kernel_rfl) (by kernel_rfl) (by kernel_rfl) e1
            have p41 := slot_norm q41
            have q42 := slot_at (t := 42) 2 ha (by kernel_rfl) (by kernel_rfl) (by kernel_rfl) e2
            have p42 := slot_norm q42
            clear ha hd hst
            exact StepI.pure (v := .pointer (some ⟨g, off + (h) * 5, none⟩)) rfl rfl (by go_simp) ⟨rfl, hI⟩
          · intro us au w1 k4 hlo hhi ha hd hst hI
            obtain rfl : k4 = 0 := by omega
            have e3 := hd 3 _ (by kernel_rfl) rfl
            have q43 := slot_at (t := 43) 3 ha (by kernel_rfl) (by kernel_rfl) (by kernel_rfl) e3
            have p43 := slot_norm q43
            clear ha hd hst
            have c0 := SrtAt.c0 hI hli.out
            have c1 := SrtAt.c1 hI hli.out
            have c2 := SrtAt.c2 hI hli.out
            have c3 := SrtAt.c3 hI hli.out
            have c4 := SrtAt.c4 hI hli.out
            exact StepI.pure (v := .agg #[.int .i64 y.kind, .slice y.A y.n y.c, .string y.id, .int .i64 y.at_, .int .u32 y.crc]) rfl rfl (by go_simp) ⟨rfl, hI⟩
          · intro us au w1 k5 hlo hhi ha hd hst hI
            obtain rfl : k5 = 0 := by omega
            have q0 := slot_far (t := 0) (v := .slice (some ⟨g, off, none⟩) N cap) ha (by kernel_rfl) (by kernel_rfl)
            have p0 := slot_norm q0
            clear ha hd hst
            exact StepI.pure (v := .slice (some ⟨g, off, none⟩) N cap) rfl rfl (by go_simp) ⟨rfl, hI⟩
          · intro us au w1 k6 hlo hhi ha hd hst hI
            obtain rfl : k6 = 0 := by omega
            have q1 := slot_far (t := 1) (v := .int .i64 (a)) ha (by kernel_rfl) (by kernel_rfl)
            have p1 := slot_norm q1
            clear ha hd hst
            exact StepI.pure (v := .int .i64 (a)) rfl rfl (by go_simp) ⟨rfl, hI⟩
          · intro us au w1 k7 hlo hhi ha hd hst hI
            obtain rfl : k7 = 0 := by omega
            have e5 := hd 5 _ (by kernel_rfl) rfl
            have e6 := hd 6 _ (by kernel_rfl) rfl
            have q45 := slot_at (t := 45) 5 ha (by kernel_rfl) (by kernel_rfl) (by kernel_rfl) e5
            have p45 := slot_norm q45
            have q46 := slot_at (t := 46) 6 ha (by kernel_rfl) (by kernel_rfl) (by kernel_rfl) e6
            have p46 := slot_norm q46
            clear ha hd hst
            exact StepI.pure (v := .pointer (some ⟨g, off + (a) * 5, none⟩)) rfl rfl (by go_simp) ⟨rfl, hI⟩
          · intro us au w1 k8 hlo hhi ha hd hst hI
            obtain rfl : k8 = 0 := by omega
            have e7 := hd 7 _ (by kernel_rfl) rfl
            have q47 := slot_at (t := 47) 7 ha (by kernel_rfl) (by kernel_rfl) (by kernel_rfl) e7
            have p47 := slot_norm q47
            clear ha hd hst
            have c0 := SrtAt.c0 hI hlj.out
            have c1 := SrtAt.c1 hI hlj.out
            have c2 := SrtAt.c2 hI hlj.out
            have c3 := SrtAt.c3 hI hlj.out
            have c4 := SrtAt.c4 hI hlj.out
            exact StepI.pure (v := .agg #[.int .i64 x.kind, .slice x.A x.n x.c, .string x.id, .int .i64 x.at_, .int .u32 x.crc]) rfl rfl (by go_simp) ⟨rfl, hI⟩
          · intro us au w1 ha hd hst hI
            have e0 := hd 0 _ (by kernel_rfl) rfl
            have e4 := hd 4 _ (by kernel_rfl) rfl
            have e8 := hd 8 _ (by kernel_rfl) rfl
            have q40 := slot_at (t := 40) 0 ha (by kernel_rfl) (by kernel_rfl) (by kernel_rfl) e0
            have p40 := slot_norm q40
            have q44 := slot_at (t := 44) 4 ha (by kernel_rfl) (by kernel_rfl) (by kernel_rfl) e4
            have p44 := slot_norm q44
            have q48 := slot_at (t := 48) 8 ha (by kernel_rfl) (by kernel_rfl) (by kernel_rfl) e8
            have p48 := slot_norm q48
            clear ha hd hst
            refine StepI.call (f := 22) (args := #[.agg #[.int .i64 y.kind, .slice y.A y.n y.c, .string y.id, .int .i64 y.at_, .int .u32 y.crc], .agg #[.int .i64 x.kind, .slice x.A x.n x.c, .string x.id, .int .i64 x.at_, .int .u32 x.crc]]) rfl rfl (by go_simp) ?_
            refine (cmp_any y x w1 HOy.out HOx.out).mono ?_
            rintro e w' ⟨rfl, hb⟩
            exact ⟨_, rfl, rfl, SrtAt.below hI hb⟩
          · intro us au w1 k10 hlo hhi ha hd hst hI
            obtain rfl : k10 = 1 := by omega
            have e9 := hd 9 _ (by kernel_rfl) rfl
            have q49 := slot_at (t := 49) 9 ha (by kernel_rfl) (by kernel_rfl) (by kernel_rfl) e9
            have p49 := slot_norm q49
            clear ha hd hst
            exact StepI.pure (v := .bool false) rfl rfl (by go_simp) ⟨rfl, hI⟩
        case done =>
          intro us w1 hI hd
          have e10 := hd 10 _ (by decide) rfl
          clear hd HS hli hcl
          simp only [putAll]
          go_simp
          go_wp2
          go_roundw
          case rel =>
            refine ⟨i, h, v1, q1, y :: q2 ++ v3, rfl, rfl, by rw [Hv.out, HV2.out]; simp, HI.out, by rw [HW1.out]; omega, by omega, H1.out, fun z hz => ?_, hI⟩
            rcases List.mem_append.1 hz with hz | hz
            · exact Srt.Sorted.all_ge swoE (l := q2) (z := y) (by have := HSV2.out; rw [HV2.out] at this; exact Srt.Sorted.right this) HX.out z hz
            · exact H3.out z hz
          case measure => simp [intOf]; omega
      · rw [hyx] at hcl
        have HX := Lib.hid hyx
        clear hyx
        go_upto_region 5 with (fail)
        clear c1 c2 c3
        refine wp_region_ph (by kernel_rfl) [9] [.span 0 0, .span 0 0, .span 0 0, .span 0 0, .span 0 0, .span 0 0, .span 0 0, .span 0 0, .span 0 0, .phase 0, .span 1 1] [fun z9 => z9 = .func (.func 22) #[] #[], fun z9 => z9 = .slice (some ⟨g, off, none⟩) N cap, fun z9 => z9 = .int .i64 (h), fun z9 => z9 = .pointer (some ⟨g, off + (h) * 5, none⟩), fun z9 => z9 = .agg #[.int .i64 y.kind, .slice y.A y.n y.c, .string y.id, .int .i64 y.at_, .int .u32 y.crc], fun z9 => z9 = .slice (some ⟨g, off, none⟩) N cap, fun z9 => z9 = .int .i64 (a), fun z9 => z9 = .pointer (some ⟨g, off + (a) * 5, none⟩), fun z9 => z9 = .agg #[.int .i64 x.kind, .slice x.A x.n x.c, .string x.id, .int .i64 x.at_, .int .u32 x.crc], fun z9 => z9 = .int .i64 (cmpE y x), fun z9 => z9 = .bool true] (fun _ w => SrtAt W g off cap (D) w) (by kernel_rfl) (by kernel_rfl) (by kernel_rfl) (by kernel_rfl) (by kernel_rfl) (by kernel_rfl) rfl rfl (HS.out) ?steps ?done
        case steps =>
          refine ⟨?_, ?_, ?_, ?_, ?_, ?_, ?_, ?_, ?_, ?_, ?_, trivial⟩
          · intro us au w1 k0 hlo hhi ha hd hst hI
            obtain rfl : k0 = 0 := by omega
            have q4 := slot_far (t := 4) (v := .func (.func 22) #[] #[]) ha (by kernel_rfl) (by kernel_rfl)
            have p4 := slot_norm q4
            clear ha hd hst
            exact StepI.pure (v := .func (.func 22) #[] #[]) rfl rfl (by go_simp) ⟨rfl, hI⟩
          · intro us au w1 k1 hlo hhi ha hd hst hI
            obtain rfl : k1 = 0 := by omega
            have q0 := slot_far (t := 0) (v := .slice (some ⟨g, off, none⟩) N cap) ha (by kernel_rfl) (by kernel_rfl)
            have p0 := slot_norm q0
            clear ha hd hst
            exact StepI.pure (v := .slice (some ⟨g, off, none⟩) N cap) rfl rfl (by go_simp) ⟨rfl, hI⟩
          · intro us au w1 k2 hlo hhi ha hd hst hI
            obtain rfl : k2 = 0 := by omega
            have q12 := slot_far (t := 12) (v := .int .i64 (h)) ha (by kernel_rfl) (by kernel_rfl)
            have p12 := slot_norm q12
            clear ha hd hst
            exact StepI.pure (v := .int .i64 (h)) rfl rfl (by go_simp) ⟨rfl, hI⟩
          · intro us au w1 k3 hlo hhi ha hd hst hI
            obtain rfl : k3 = 0 := by omega
            have e1 := hd 1 _ (by kernel_rfl) rfl
            have e2 := hd 2 _ (by kernel_rfl) rfl
            have q41 := slot_at (t := 41) 1 ha (by kernel_rfl) (by kernel_rfl) (by kernel_rfl) e1
            have p41 := slot_norm q41
            have q42 := slot_at (t := 42) 2 ha (by kernel_rfl) (by kernel_rfl) (by kernel_rfl) e2
            have p42 := slot_norm q42
            clear ha hd hst
            exact StepI.pure (v := .pointer (some ⟨g, off + (h) * 5, none⟩)) rfl rfl (by go_simp) ⟨rfl, hI⟩
          · intro us au w1 k4 hlo hhi ha hd hst hI
            obtain rfl : k4 = 0 := by omega
            have e3 := hd 3 _ (by kernel_rfl) rfl
            have q43 := slot_at (t := 43) 3 ha (by kernel_rfl) (by kernel_rfl) (by kernel_rfl) e3
            have p43 := slot_norm q43
            clear ha hd hst
            have c0 := SrtAt.c0 hI hli.out
            have c1 := SrtAt.c1 hI hli.out
            have c2 := SrtAt.c2 hI hli.out
            have c3 := SrtAt.c3 hI hli.out
            have c4 := SrtAt.c4 hI hli.out
            exact StepI.pure (v := .agg #[.int .i64 y.kind, .slice y.A y.n y.c, .string y.id, .int .i64 y.at_, .int .u32 y.crc]) rfl rfl (by go_simp) ⟨rfl, hI⟩
          · intro us au w1 k5 hlo hhi ha hd hst hI
            obtain rfl : k5 = 0 := by omega
            have q0 := slot_far (t := 0) (v := .slice (some ⟨g, off, none⟩) N cap) ha (by kernel_rfl) (by kernel_rfl)
            have p0 := slot_norm q0
            clear ha hd hst
            exact StepI.pure (v := .slice (some ⟨g, off, none⟩) N cap) rfl rfl (by go_simp) ⟨rfl, hI⟩
          · intro us au w1 k6 hlo hhi ha hd hst hI
            obtain rfl : k6 = 0 := by omega
            have q1 := slot_far (t := 1) (v := .int .i64 (a)) ha (by kernel_rfl) (by kernel_rfl)
            have p1 := slot_norm q1
            clear ha hd hst
            exact StepI.pure (v := .int .i64 (a)) rfl rfl (by go_simp) ⟨rfl, hI⟩
          · intro us au w1 k7 hlo hhi ha hd hst hI
            obtain rfl : k7 = 0 := by omega
            have e5 := hd 5 _ (by kernel_rfl) rfl
            have e6 := hd 6 _ (by kernel_rfl) rfl
            have q45 := slot_at (t := 45) 5 ha (by kernel_rfl) (by kernel_rfl) (by kernel_rfl) e5
            have p45 := slot_norm q45
            have q46 := slot_at (t := 46) 6 ha (by kernel_rfl) (by kernel_rfl) (by kernel_rfl) e6
            have p46 := slot_norm q46
            clear ha hd hst
            exact StepI.pure (v := .pointer (some ⟨g, off + (a) * 5, none⟩)) rfl rfl (by go_simp) ⟨rfl, hI⟩
          · intro us au w1 k8 hlo hhi ha hd hst hI
            obtain rfl : k8 = 0 := by omega
            have e7 := hd 7 _ (by kernel_rfl) rfl
            have q47 := slot_at (t := 47) 7 ha (by kernel_rfl) (by kernel_rfl) (by kernel_rfl) e7
            have p47 := slot_norm q47
            clear ha hd hst
            have c0 := SrtAt.c0 hI hlj.out
            have c1 := SrtAt.c1 hI hlj.out
            have c2 := SrtAt.c2 hI hlj.out
            have c3 := SrtAt.c3 hI hlj.out
            have c4 := SrtAt.c4 hI hlj.out
            exact StepI.pure (v := .agg #[.int .i64 x.kind, .slice x.A x.n x.c, .string x.id, .int .i64 x.at_, .int .u32 x.crc]) rfl rfl (by go_simp) ⟨rfl, hI⟩
          · intro us au w1 ha hd hst hI
            have e0 := hd 0 _ (by kernel_rfl) rfl
            have e4 := hd 4 _ (by kernel_rfl) rfl
            have e8 := hd 8 _ (by kernel_rfl) rfl
            have q40 := slot_at (t := 40) 0 ha (by kernel_rfl) (by kernel_rfl) (by kernel_rfl) e0
            have p40 := slot_norm q40
            have q44 := slot_at (t := 44) 4 ha (by kernel_rfl) (by kernel_rfl) (by kernel_rfl) e4
            have p44 := slot_norm q44
            have q48 := slot_at (t := 48) 8 ha (by kernel_rfl) (by kernel_rfl) (by kernel_rfl) e8
            have p48 := slot_norm q48
            clear ha hd hst
            refine StepI.call (f := 22) (args := #[.agg #[.int .i64 y.kind, .slice y.A y.n y.c, .string y.id, .int .i64 y.at_, .int .u32 y.crc], .agg #[.int .i64 x.kind, .slice x.A x.n x.c, .string x.id, .int .i64 x.at_, .int .u32 x.crc]]) rfl rfl (by go_simp) ?_
            refine (cmp_any y x w1 HOy.out HOx.out).mono ?_
            rintro e w' ⟨rfl, hb⟩
            exact ⟨_, rfl, rfl, SrtAt.below hI hb⟩
          · intro us au w1 k10 hlo hhi ha hd hst hI
            obtain rfl : k10 = 1 := by omega
            have e9 := hd 9 _ (by kernel_rfl) rfl
            have q49 := slot_at (t := 49) 9 ha (by kernel_rfl) (by kernel_rfl) (by kernel_rfl) e9
            have p49 := slot_norm q49
            clear ha hd hst
            exact StepI.pure (v := .bool true) rfl rfl (by go_simp) ⟨rfl, hI⟩
        case done =>
          intro us w1 hI hd
          have e10 := hd 10 _ (by decide) rfl
          clear hd HS hli hcl
          simp only [putAll]
          go_simp
          go_wp2
          go_roundw
          case rel =>
            refine ⟨h + 1, j, v1 ++ (q1 ++ [y]), q2, v3, by go_num, rfl, by rw [Hv.out, HV2.out]; simp, ?_, ?_, by omega, fun z hz => ?_, H3.out, hI⟩
            · have := HI.out; have := HW1.out; simp only [List.length_append, List.length_cons, List.length_nil]; omega
            · have := HJ.out; have := HW2.out; omega
            · rcases List.mem_append.1 hz with hz | hz
              · exact H1.out z hz
              · exact Srt.Sorted.all_lt swoE (l := q1) (z := y) (by have := HSV2.out; rw [HV2.out, show q1 ++ y :: q2 = (q1 ++ [y]) ++ q2 by simp] at this; exact Srt.Sorted.left this) HX.out z hz
          case measure => simp [intOf]; omega
    · obtain rfl : v2 = [] := List.eq_nil_of_length_eq_zero (by omega)
      obtain rfl : j = i := by simpa using hj
      obtain ⟨n1, hn1⟩ : ∃ n1, v1.length = n1 := ⟨_, rfl⟩
      have hT : p ++ v1 ++ x :: v3 ++ s = p ++ Srt.mrg ltE [x] v ++ s := by
        rw [hv, List.append_nil, Srt.mrg_one x v1 v3 h1 h3]; simp
      have hD2 : D = p ++ [] ++ x :: v1 ++ v3 ++ s := by rw [HD.out, hv]; simp
      rw [hD2] at hAt
      have hin : j = a + 1 + n1 := by have := HM.out; omega
      have HIN := Lib.hid hin
      have HT := Lib.hid hT
      have HAt := Lib.hid hAt
      have HN1 := Lib.hid hn1
      have hj1 : (1 : Int) ≤ (j : Int) := by omega
      clear hAt hT hD2 hi hj hv h1 h3 Hv H1 H3 hn1 hin HAT hlj HOV HV HNU HD
      go_wp2
      go_loopw [13] (fun kv wr => ∃ (K : Nat) (q1 q2 : List El), kv = .int .i64 K ∧ v1 = q1 ++ q2 ∧ K = a + q1.length ∧ SrtAt W g off cap (p ++ q1 ++ x :: q2 ++ v3 ++ s) wr) (fun kv _ => j - (intOf kv).toNat)
      case atStart => exact ⟨a, [], v1, rfl, rfl, rfl, HAt.out⟩
      case round =>
        clear HAt
        obtain ⟨K, q1, q2, rfl, hv1, hK, hAt⟩ := hrel
        have hl2 : q1.length + q2.length = n1 := by have := HN1.out; rw [hv1, List.length_append] at this; exact this
        have hjn := HIN.out
        by_cases hlt2 : 0 < q2.length
        · obtain ⟨y, q3, rfl, hw3⟩ := cons_of rfl hlt2
          obtain ⟨J, hJ⟩ : ∃ J, J = K + 1 := ⟨_, rfl⟩
          have e1 : (K : Int) + 1 = (J : Int) := by omega
          obtain ⟨D2, hD2⟩ : ∃ D2, D2 = (p ++ q1) ++ x :: [] ++ y :: (q3 ++ v3 ++ s) := ⟨_, rfl⟩
          have hDa : p ++ q1 ++ x :: (y :: q3) ++ v3 ++ s = D2 := by rw [hD2]; simp
          rw [hDa] at hAt
          have hpK : (p ++ q1).length = K := by rw [List.length_append, HA.out]; omega
          have hli : D2[K]? = some x := by
            have := at_1 (p ++ q1) [] (q3 ++ v3 ++ s) x y
            rw [hD2, ← hpK]; exact this
          have hlj : D2[J]? = some y := by
            have := at_2 (p ++ q1) [] (q3 ++ v3 ++ s) x y
            rw [hD2, hJ, ← hpK]; exact this
          have hset : (D2.set K y).set J x = p ++ (q1 ++ [y]) ++ x :: q3 ++ v3 ++ s := by
            have := set_set (p ++ q1) [] (q3 ++ v3 ++ s) x y
            rw [hD2, hJ, ← hpK]
            simp only [List.length_nil, Nat.add_zero] at this
            rw [this]; simp
          simp only [List.length_cons] at hl2
          have hJN : J < N := by omega
          have k0 : (0 : Int) ≤ (K : Int) := by omega
          have k1 : (K : Int) < (N : Int) := by omega
          have k2 : (0 : Int) ≤ (J : Int) := by omega
          have k3 : (J : Int) < (N : Int) := by omega
          have g1 : decide ((K : Int) < (j : Int) - 1) = true := decide_eq_true (by omega)
          have HSET := Lib.hid hset
          have HJ := Lib.hid hJ
          have hli := Lib.hid hli
          have hlj := Lib.hid hlj
          have HS := Lib.hid hAt.drew
          have HK := Lib.hid hK
          have HV1 := Lib.hid hv1
          have hKj : K < j := by omega
          clear hset hJ hAt hK hD2 hDa hpK hlt2 hv1 hjn hl2 hw3
          go_upto_region 11 with (fail)
          refine wp_region_ph (by kernel_rfl) [15, 17] [.span 0 0, .span 0 0, .span 0 1, .span 0 1, .span 0 1, .span 0 0, .span 0 0, .span 0 0, .span 0 0, .span 0 0, .span 0 0, .span 0 0, .span 0 0, .span 0 0, .span 0 0, .phase 0, .span 1 1, .phase 1] [fun z9 => z9 = .slice (some ⟨g, off, none⟩) N cap, fun z9 => z9 = .int .i64 (K), fun z9 => z9 = .slice (some ⟨g, off, none⟩) N cap, fun z9 => z9 = .int .i64 (K), fun z9 => z9 = .int .i64 (J), fun z9 => z9 = .slice (some ⟨g, off, none⟩) N cap, fun z9 => z9 = .int .i64 (K), fun z9 => z9 = .int .i64 (J), fun z9 => z9 = .pointer (some ⟨g, off + (J) * 5, none⟩), fun z9 => z9 = .agg #[.int .i64 y.kind, .slice y.A y.n y.c, .string y.id, .int .i64 y.at_, .int .u32 y.crc], fun z9 => z9 = .slice (some ⟨g, off, none⟩) N cap, fun z9 => z9 = .int .i64 (K), fun z9 => z9 = .pointer (some ⟨g, off + (K) * 5, none⟩), fun z9 => z9 = .agg #[.int .i64 x.kind, .slice x.A x.n x.c, .string x.id, .int .i64 x.at_, .int .u32 x.crc], fun z9 => z9 = .pointer (some ⟨g, off + (K) * 5, none⟩), fun _ => True, fun z9 => z9 = .pointer (some ⟨g, off + (J) * 5, none⟩), fun _ => True] (ISwap W g off cap (K) (J) x y (D2)) (by kernel_rfl) (by kernel_rfl) (by kernel_rfl) (by kernel_rfl) (by kernel_rfl) (by kernel_rfl) rfl rfl (HS.out) ?steps ?done
          case steps =>
            refine ⟨?_, ?_, ?_, ?_, ?_, ?_, ?_, ?_, ?_, ?_, ?_, ?_, ?_, ?_, ?_, ?_, ?_, ?_, trivial⟩
            · intro us au w1 k0 hlo hhi ha hd hst hI
              obtain rfl : k0 = 0 := by omega
              have q0 := slot_far (t := 0) (v := .slice (some ⟨g, off, none⟩) N cap) ha (by kernel_rfl) (by kernel_rfl)
              have p0 := slot_norm q0
              clear ha hd hst
              exact StepI.pure (v := .slice (some ⟨g, off, none⟩) N cap) rfl rfl (by go_simp) ⟨rfl, hI⟩
            · intro us au w1 k1 hlo hhi ha hd hst hI
              obtain rfl : k1 = 0 := by omega
              have q13 := slot_far (t := 13) (v := .int .i64 (K)) ha (by kernel_rfl) (by kernel_rfl)
              have p13 := slot_norm q13
              clear ha hd hst
              exact StepI.pure (v := .int .i64 (K)) rfl rfl (by go_simp) ⟨rfl, hI⟩
            · intro us au w1 k2 hlo hhi ha hd hst hI
              have q0 := slot_far (t := 0) (v := .slice (some ⟨g, off, none⟩) N cap) ha (by kernel_rfl) (by kernel_rfl)
              have p0 := slot_norm q0
              clear ha hd hst
              exact StepI.pure (v := .slice (some ⟨g, off, none⟩) N cap) rfl rfl (by go_simp) ⟨rfl, hI⟩
            · intro us au w1 k3 hlo hhi ha hd hst hI
              have q13 := slot_far (t := 13) (v := .int .i64 (K)) ha (by kernel_rfl) (by kernel_rfl)
              have p13 := slot_norm q13
              clear ha hd hst
              exact StepI.pure (v := .int .i64 (K)) rfl rfl (by go_simp) ⟨rfl, hI⟩
            · intro us au w1 k4 hlo hhi ha hd hst hI
              have e3 := hd 3 _ (by kernel_rfl) rfl
              have q64 := slot_at (t := 64) 3 ha (by kernel_rfl) (by kernel_rfl) (by kernel_rfl) e3
              have p64 := slot_norm q64
              clear ha hd hst
              exact StepI.pure (v := .int .i64 (J)) rfl rfl (by go_simp; exact IntWalk.i64_in _ (by omega)) ⟨rfl, hI⟩
            · intro us au w1 k5 hlo hhi ha hd hst hI
              obtain rfl : k5 = 0 := by omega
              have q0 := slot_far (t := 0) (v := .slice (some ⟨g, off, none⟩) N cap) ha (by kernel_rfl) (by kernel_rfl)
              have p0 := slot_norm q0
              clear ha hd hst
              exact StepI.pure (v := .slice (some ⟨g, off, none⟩) N cap) rfl rfl (by go_simp) ⟨rfl, hI⟩
            · intro us au w1 k6 hlo hhi ha hd hst hI
              obtain rfl : k6 = 0 := by omega
              have q13 := slot_far (t := 13) (v := .int .i64 (K)) ha (by kernel_rfl) (by kernel_rfl)
              have p13 := slot_norm q13
              clear ha hd hst
              exact StepI.pure (v := .int .i64 (K)) rfl rfl (by go_simp) ⟨rfl, hI⟩
            · intro us au w1 k7 hlo hhi ha hd hst hI
              obtain rfl : k7 = 0 := by omega
              have e6 := hd 6 _ (by kernel_rfl) rfl
              have q67 := slot_at (t := 67) 6 ha (by kernel_rfl) (by kernel_rfl) (by kernel_rfl) e6
              have p67 := slot_norm q67
              clear ha hd hst
              exact StepI.pure (v := .int .i64 (J)) rfl rfl (by go_simp; exact IntWalk.i64_in _ (by omega)) ⟨rfl, hI⟩
            · intro us au w1 k8 hlo hhi ha hd hst hI
              obtain rfl : k8 = 0 := by omega
              have e5 := hd 5 _ (by kernel_rfl) rfl
              have e7 := hd 7 _ (by kernel_rfl) rfl
              have q66 := slot_at (t := 66) 5 ha (by kernel_rfl) (by kernel_rfl) (by kernel_rfl) e5
              have p66 := slot_norm q66
              have q68 := slot_at (t := 68) 7 ha (by kernel_rfl) (by kernel_rfl) (by kernel_rfl) e7
              have p68 := slot_norm q68
              clear ha hd hst
              exact StepI.pure (v := .pointer (some ⟨g, off + (J) * 5, none⟩)) rfl rfl (by go_simp) ⟨rfl, hI⟩
            · intro us au w1 k9 hlo hhi ha hd hst hI
              obtain rfl : k9 = 0 := by omega
              have e8 := hd 8 _ (by kernel_rfl) rfl
              have q69 := slot_at (t := 69) 8 ha (by kernel_rfl) (by kernel_rfl) (by kernel_rfl) e8
              have p69 := slot_norm q69
              clear ha hd hst
              have c0 := SrtAt.c0 hI hlj.out
              have c1 := SrtAt.c1 hI hlj.out
              have c2 := SrtAt.c2 hI hlj.out
              have c3 := SrtAt.c3 hI hlj.out
              have c4 := SrtAt.c4 hI hlj.out
              exact StepI.pure (v := .agg #[.int .i64 y.kind, .slice y.A y.n y.c, .string y.id, .int .i64 y.at_, .int .u32 y.crc]) rfl rfl (by go_simp) ⟨rfl, hI⟩
            · intro us au w1 k10 hlo hhi ha hd hst hI
              obtain rfl : k10 = 0 := by omega
              have q0 := slot_far (t := 0) (v := .slice (some ⟨g, off, none⟩) N cap) ha (by kernel_rfl) (by kernel_rfl)
              have p0 := slot_norm q0
              clear ha hd hst
              exact StepI.pure (v := .slice (some ⟨g, off, none⟩) N cap) rfl rfl (by go_simp) ⟨rfl, hI⟩
            · intro us au w1 k11 hlo hhi ha hd hst hI
              obtain rfl : k11 = 0 := by omega
              have q13 := slot_far (t := 13) (v := .int .i64 (K)) ha (by kernel_rfl) (by kernel_rfl)
              have p13 := slot_norm q13
              clear ha hd hst
              exact StepI.pure (v := .int .i64 (K)) rfl rfl (by go_simp) ⟨rfl, hI⟩
            · intro us au w1 k12 hlo hhi ha hd hst hI
              obtain rfl : k12 = 0 := by omega
              have e10 := hd 10 _ (by kernel_rfl) rfl
              have e11 := hd 11 _ (by kernel_rfl) rfl
              have q71 := slot_at (t := 71) 10 ha (by kernel_rfl) (by kernel_rfl) (by kernel_rfl) e10
              have p71 := slot_norm q71
              have q72 := slot_at (t := 72) 11 ha (by kernel_rfl) (by kernel_rfl) (by kernel_rfl) e11
              have p72 := slot_norm q72
              clear ha hd hst
              exact StepI.pure (v := .pointer (some ⟨g, off + (K) * 5, none⟩)) rfl rfl (by go_simp) ⟨rfl, hI⟩
            · intro us au w1 k13 hlo hhi ha hd hst hI
              obtain rfl : k13 = 0 := by omega
              have e12 := hd 12 _ (by kernel_rfl) rfl
              have q73 := slot_at (t := 73) 12 ha (by kernel_rfl) (by kernel_rfl) (by kernel_rfl) e12
              have p73 := slot_norm q73
              clear ha hd hst
              have c0 := SrtAt.c0 hI hli.out
              have c1 := SrtAt.c1 hI hli.out
              have c2 := SrtAt.c2 hI hli.out
              have c3 := SrtAt.c3 hI hli.out
              have c4 := SrtAt.c4 hI hli.out
              exact StepI.pure (v := .agg #[.int .i64 x.kind, .slice x.A x.n x.c, .string x.id, .int .i64 x.at_, .int .u32 x.crc]) rfl rfl (by go_simp) ⟨rfl, hI⟩
            · intro us au w1 k14 hlo hhi ha hd hst hI
              obtain rfl : k14 = 0 := by omega
              have e0 := hd 0 _ (by kernel_rfl) rfl
              have e1 := hd 1 _ (by kernel_rfl) rfl
              have q61 := slot_at (t := 61) 0 ha (by kernel_rfl) (by kernel_rfl) (by kernel_rfl) e0
              have p61 := slot_norm q61
              have q62 := slot_at (t := 62) 1 ha (by kernel_rfl) (by kernel_rfl) (by kernel_rfl) e1
              have p62 := slot_norm q62
              clear ha hd hst
              exact StepI.pure (v := .pointer (some ⟨g, off + (K) * 5, none⟩)) rfl rfl (by go_simp) ⟨rfl, hI⟩
            · intro us au w1 ha hd hst hI
              have e14 := hd 14 _ (by kernel_rfl) rfl
              have e9 := hd 9 _ (by kernel_rfl) rfl
              have q75 := slot_at (t := 75) 14 ha (by kernel_rfl) (by kernel_rfl) (by kernel_rfl) e14
              have p75 := slot_norm q75
              have q70 := slot_at (t := 70) 9 ha (by kernel_rfl) (by kernel_rfl) (by kernel_rfl) e9
              have p70 := slot_norm q70
              clear ha hd hst
              have hlt : K < (D2).length := (List.getElem?_eq_some_iff.1 hli.out).1
              have hx := hli.out
              have c0 := SrtAt.c0 hI hx
              have c1 := SrtAt.c1 hI hx
              have c2 := SrtAt.c2 hI hx
              have c3 := SrtAt.c3 hI hx
              have c4 := SrtAt.c4 hI hx
              have f0 := SrtAt.f0 hI hlt
              have f1 := SrtAt.f1 hI hlt
              have f2 := SrtAt.f2 hI hlt
              have f3 := SrtAt.f3 hI hlt
              have f4 := SrtAt.f4 hI hlt
              exact StepI.stored (w' := putCells w1 g (off + (K) * 5) (encE y)) rfl rfl (by simp only [putCells, encE]; go_simp) ⟨trivial, SrtAt.put hI hlt y⟩
            · intro us au w1 k16 hlo hhi ha hd hst hI
              obtain rfl : k16 = 1 := by omega
              have e2 := hd 2 _ (by kernel_rfl) rfl
              have e4 := hd 4 _ (by kernel_rfl) rfl
              have q63 := slot_at (t := 63) 2 ha (by kernel_rfl) (by kernel_rfl) (by kernel_rfl) e2
              have p63 := slot_norm q63
              have q65 := slot_at (t := 65) 4 ha (by kernel_rfl) (by kernel_rfl) (by kernel_rfl) e4
              have p65 := slot_norm q65
              clear ha hd hst
              exact StepI.pure (v := .pointer (some ⟨g, off + (J) * 5, none⟩)) rfl rfl (by go_simp) ⟨rfl, hI⟩
            · intro us au w1 ha hd hst hI
              have e16 := hd 16 _ (by kernel_rfl) rfl
              have e13 := hd 13 _ (by kernel_rfl) rfl
              have q76 := slot_at (t := 76) 16 ha (by kernel_rfl) (by kernel_rfl) (by kernel_rfl) e16
              have p76 := slot_norm q76
              have q74 := slot_at (t := 74) 13 ha (by kernel_rfl) (by kernel_rfl) (by kernel_rfl) e13
              have p74 := slot_norm q74
              clear ha hd hst
              have hlt : J < ((D2).set (K) y).length := by rw [List.length_set]; exact (List.getElem?_eq_some_iff.1 hlj.out).1
              have hx : ((D2).set (K) y)[J]? = some y := by rw [List.getElem?_set_ne (by omega)]; exact hlj.out
              have c0 := SrtAt.c0 hI hx
              have c1 := SrtAt.c1 hI hx
              have c2 := SrtAt.c2 hI hx
              have c3 := SrtAt.c3 hI hx
              have c4 := SrtAt.c4 hI hx
              have f0 := SrtAt.f0 hI hlt
              have f1 := SrtAt.f1 hI hlt
              have f2 := SrtAt.f2 hI hlt
              have f3 := SrtAt.f3 hI hlt
              have f4 := SrtAt.f4 hI hlt
              exact StepI.stored (w' := putCells w1 g (off + (J) * 5) (encE x)) rfl rfl (by simp only [putCells, encE]; go_simp) ⟨trivial, SrtAt.put hI hlt x⟩
          case done =>
            intro us w1 hI hd
            have HJo := HJ.out
            clear hd HS hli hlj e1
            simp only [putAll]
            go_simp
            go_wp2
            go_roundw
            case rel => exact ⟨K + 1, q1 ++ [y], q3, by go_num, by rw [HV1.out]; simp, by rw [List.length_append, HK.out]; simp; omega, by rw [← HSET.out]; exact hI⟩
            case measure => simp [intOf]; omega
        · obtain rfl : q2 = [] := List.eq_nil_of_length_eq_zero (by omega)
          have g1 : decide ((K : Int) < (j : Int) - 1) = false := decide_eq_false (by simp at hl2; omega)
          have hx : v1 = q1 := by simpa using hv1
          rw [← hx] at hAt
          have hAt' : SrtAt W g off cap (p ++ Srt.mrg ltE [x] v ++ s) wr := by
            rw [← HT.out]
            have := hAt
            simp only [List.append_assoc, List.cons_append, List.nil_append] at this ⊢
            exact this
          have HAt := Lib.hid hAt'
          clear hAt hAt' hv1 hx hK hl2 hjn
          go_wp2
          go_end0
          exact ⟨rfl, HAt.out.1, HAt.out.2⟩
end Go.Proofs.Ytndjebddgnmpfaa
namespace Go.Proofs.Ytndjebddgnmpfaa
open Go.RowKit
set_option linter.unusedVariables false
set_option linter.unusedSimpArgs false

set_option maxRecDepth 100000 in
set_option maxHeartbeats 8000000 in
theorem symMerge_last (g off cap N a m b : Nat) (p u : List El) (y : El) (s : List El) (W : World) (hS : SRow W 30 5 encE g off cap (p ++ u ++ [y] ++ s)) (hN : (p ++ u ++ [y] ++ s).length = N) (ha : p.length = a) (hm : a + u.length = m) (hb : m + 1 = b) (h2 : 2 ≤ u.length)
    (hu : Srt.Sorted ltE u) (hoy : okE y) (hou : ∀ x ∈ u, okE x) (hNb : N ≤ 140737488355328) :
    Calls Try.prog 53 #[.slice (some ⟨g, off, none⟩) N cap, .int .i64 a, .int .i64 m, .int .i64 b, .func (.func 22) #[] #[]] W (SrtPost g off cap (p ++ Srt.mrg ltE u [y] ++ s) W) := by
  have hcap := hS.capLe
  unfold maxLen at hcap
  have hNc : N ≤ cap := by rw [← hN]; exact hcap.1
  have hcm : cap ≤ 9223372036854775807 := hcap.2
  have hlen : b + s.length = N := by simp at hN; omega
  have hbN : b ≤ N := by omega
  obtain ⟨n, hn⟩ : ∃ n, u.length = n := ⟨_, rfl⟩
  rw [hn] at hm h2
  have ham : a < m := by omega
  have hmb : m < b := by omega
  have e0 : (m : Int) - (a : Int) = (n : Int) := by omega
  have z0 : ((n : Int) == 1) = false := by rw [beq_eq_false_iff_ne]; omega
  have e1 : (b : Int) - (m : Int) = 1 := by omega
  obtain ⟨D, hD⟩ : ∃ D, D = p ++ u ++ [y] ++ s := ⟨_, rfl⟩
  have hpu : (p ++ u).length = m := by rw [List.length_append, ha, hn]; exact hm
  have hlj : D[m]? = some y := by
    rw [hD, ← hpu, List.append_assoc, List.getElem?_append_right (Nat.le_refl _), Nat.sub_self]; rfl
  have hat : ∀ (i : Nat) (x : El), u[i]? = some x → D[a + i]? = some x := fun i x hx => by
    have hi := (List.getElem?_eq_some_iff.1 hx).1
    rw [hD, List.append_assoc, List.getElem?_append_left (by rw [hpu]; omega), List.getElem?_append_right (by omega), show a + i - p.length = i by omega]
    exact hx
  rw [← hD] at hS
  have HS0 := Lib.hid (SrtAt.start hS)
  have HNU := Lib.hid hn
  have HAT := Lib.hid hat
  have hlj := Lib.hid hlj
  have HA := Lib.hid ha
  have HB := Lib.hid hb
  have HM := Lib.hid hm
  have HV := Lib.hid hu
  have HOV := Lib.hid hou
  have HOy := Lib.hid hoy
  have HD := Lib.hid hD
  clear hS hN hcap ha hn hb hou hoy hu hD hat hm hlen hpu h2
  go_enter Try.func53, Try.ntmps53
  go_wp2
  clear e0 e1 z0
  go_loopw [14, 15] (fun iv jv wr => ∃ (i j : Nat) (u1 u2 u3 : List El), iv = .int .i64 i ∧ jv = .int .i64 j ∧ u = u1 ++ u2 ++ u3 ∧ i = a + u1.length ∧ j = i + u2.length ∧ j ≤ m ∧ (∀ x ∈ u1, ltE y x = false) ∧ (∀ x ∈ u3, ltE y x = true) ∧ SrtAt W g off cap D wr) (fun iv jv _ => (intOf jv).toNat - (intOf iv).toNat)
  case atStart => exact ⟨a, m, [], u, [], rfl, rfl, by simp, rfl, by rw [HNU.out]; exact HM.out.symm, Nat.le_refl _, (fun _ h => by cases h), (fun _ h => by cases h), HS0.out⟩
  case round =>
    clear HS0
    obtain ⟨i, j, u1, u2, u3, rfl, rfl, hv, hi, hj, hjb, h1, h3, hAt⟩ := hrel
    have Hv := Lib.hid hv
    have H1 := Lib.hid h1
    have H3 := Lib.hid h3
    have him : a ≤ i := by omega
    by_cases hlt : i < j
    · obtain ⟨h, hh⟩ : ∃ h, h = (i + j) / 2 := ⟨_, rfl⟩
      obtain ⟨q1, x, q2, hv2, hq1, hq2⟩ := cut_mid u2 (h - i) (by omega)
      have hli : D[h]? = some x := by
        have := HAT.out (h - a) x (by
          rw [hv, hv2, List.append_assoc, List.getElem?_append_right (by omega), show h - a - u1.length = q1.length by omega, List.append_assoc, List.getElem?_append_right (Nat.le_refl _), Nat.sub_self]; rfl)
        rwa [show a + (h - a) = h by omega] at this
      have hox : okE x := HOV.out x (by rw [hv, hv2]; simp)
      have c1 : IntKind.u64.wrap ((i : Int) + (j : Int)) = (i : Int) + (j : Int) := IntWalk.u64_in _ (by omega)
      have c2 : ((i : Int) + (j : Int)) / 2 = (h : Int) := by omega
      have c3 : IntKind.i64.wrap (h : Int) = (h : Int) := IntWalk.i64_in _ (by omega)
      have c4 : (0 : Int) ≤ (h : Int) := by omega
      have c5 : (h : Int) < (N : Int) := by omega
      have c6 : (m : Int) < (N : Int) := by omega
      have hih : i ≤ h := by omega
      have hhj : h < j := by omega
      have HOx := Lib.hid hox
      have hli := Lib.hid hli
      have HS := Lib.hid hAt.drew
      have HI := Lib.hid hi
      have HJ := Lib.hid hj
      have HV2 := Lib.hid hv2
      have HW1 := Lib.hid hq1
      have HW2 := Lib.hid hq2
      have HSV2 : Hid (Srt.Sorted ltE u2) := by have := HV.out; rw [hv] at this; exact Srt.Sorted.right (Srt.Sorted.left this)
      clear hAt hi hj hv2 hq1 hq2 hox hv h1 h3 hh
      have hcl := cmpE_lt y x
      cases hyx : ltE y x
      · rw [hyx] at hcl
        have HX := Lib.hid hyx
        clear hyx
        go_upto_region 17 with (fail)
        clear c1 c2 c3
        refine wp_region_ph (by kernel_rfl) [9] [.span 0 0, .span 0 0, .span 0 0, .span 0 0, .span 0 0, .span 0 0, .span 0 0, .span 0 0, .span 0 0, .phase 0, .span 1 1, .span 1 1] [fun z9 => z9 = .func (.func 22) #[] #[], fun z9 => z9 = .slice (some ⟨g, off, none⟩) N cap, fun z9 => z9 = .int .i64 (m), fun z9 => z9 = .pointer (some ⟨g, off + (m) * 5, none⟩), fun z9 => z9 = .agg #[.int .i64 y.kind, .slice y.A y.n y.c, .string y.id, .int .i64 y.at_, .int .u32 y.crc], fun z9 => z9 = .slice (some ⟨g, off, none⟩) N cap, fun z9 => z9 = .int .i64 (h), fun z9 => z9 = .pointer (some ⟨g, off + (h) * 5, none⟩), fun z9 => z9 = .agg #[.int .i64 x.kind, .slice x.A x.n x.c, .string x.id, .int .i64 x.at_, .int .u32 x.crc], fun z9 => z9 = .int .i64 (cmpE y x), fun z9 => z9 = .bool false, fun z9 => z9 = .bool true] (fun _ w => SrtAt W g off cap (D) w) (by kernel_rfl) (by kernel_rfl) (by kernel_rfl) (by kernel_rfl) (by kernel_rfl) (by kernel_rfl) rfl rfl (HS.out) ?steps ?done
        case steps =>
          refine ⟨?_, ?_, ?_, ?_, ?_, ?_, ?_, ?_, ?_, ?_, ?_, ?_, trivial⟩
          · intro us au w1 k0 hlo hhi ha hd hst hI
            obtain rfl : k0 = 0 := by omega
            have q4 := slot_far (t := 4) (v := .func (.func 22) #[] #[]) ha (by kernel_rfl) (by kernel_rfl)
            have p4 := slot_norm q4
            clear ha hd hst
            exact StepI.pure (v := .func (.func 22) #[] #[]) rfl rfl (by go_simp) ⟨rfl, hI⟩
          · intro us au w1 k1 hlo hhi ha hd hst hI
            obtain rfl : k1 = 0 := by omega
            have q0 := slot_far (t := 0) (v := .slice (some ⟨g, off, none⟩) N cap) ha (by kernel_rfl) (by kernel_rfl)
            have p0 := slot_norm q0
            clear ha hd hst
            exact StepI.pure (v := .slice (some ⟨g, off, none⟩) N cap) rfl rfl (by go_simp) ⟨rfl, hI⟩
          · intro us au w1 k2 hlo hhi ha hd hst hI
            obtain rfl : k2 = 0 := by omega
            have q2 := slot_far (t := 2) (v := .int .i64 (m)) ha (by kernel_rfl) (by kernel_rfl)
            have p2 := slot_norm q2
            clear ha hd hst
            exact StepI.pure (v := .int .i64 (m)) rfl rfl (by go_simp) ⟨rfl, hI⟩
          · intro us au w1 k3 hlo hhi ha hd hst hI
            obtain rfl : k3 = 0 := by omega
            have e1 := hd 1 _ (by kernel_rfl) rfl
            have e2 := hd 2 _ (by kernel_rfl) rfl
            have q93 := slot_at (t := 93) 1 ha (by kernel_rfl) (by kernel_rfl) (by kernel_rfl) e1
            have p93 := slot_norm q93
            have q94 := slot_at (t := 94) 2 ha (by kernel_rfl) (by kernel_rfl) (by kernel_rfl) e2
            have p94 := slot_norm q94
            clear ha hd hst
            exact StepI.pure (v := .pointer (some ⟨g, off + (m) * 5, none⟩)) rfl rfl (by go_simp) ⟨rfl, hI⟩
          · intro us au w1 k4 hlo hhi ha hd hst hI
            obtain rfl : k4 = 0 := by omega
            have e3 := hd 3 _ (by kernel_rfl) rfl
            have q95 := slot_at (t := 95) 3 ha (by kernel_rfl) (by kernel_rfl) (by kernel_rfl) e3
            have p95 := slot_norm q95
            clear ha hd hst
            have c0 := SrtAt.c0 hI hlj.out
            have c1 := SrtAt.c1 hI hlj.out
            have c2 := SrtAt.c2 hI hlj.out
            have c3 := SrtAt.c3 hI hlj.out
            have c4 := SrtAt.c4 hI hlj.out
            exact StepI.pure (v := .agg #[.int .i64 y.kind, .slice y.A y.n y.c, .string y.id, .int .i64 y.at_, .int .u32 y.crc]) rfl rfl (by go_simp) ⟨rfl, hI⟩
          · intro us au w1 k5 hlo hhi ha hd hst hI
            obtain rfl : k5 = 0 := by omega
            have q0 := slot_far (t := 0) (v := .slice (some ⟨g, off, none⟩) N cap) ha (by kernel_rfl) (by kernel_rfl)
            have p0 := slot_norm q0
            clear ha hd hst
            exact StepI.pure (v := .slice (some ⟨g, off, none⟩) N cap) rfl rfl (by go_simp) ⟨rfl, hI⟩
          · intro us au w1 k6 hlo hhi ha hd hst hI
            obtain rfl : k6 = 0 := by omega
            have q16 := slot_far (t := 16) (v := .int .i64 (h)) ha (by kernel_rfl) (by kernel_rfl)
            have p16 := slot_norm q16
            clear ha hd hst
            exact StepI.pure (v := .int .i64 (h)) rfl rfl (by go_simp) ⟨rfl, hI⟩
          · intro us au w1 k7 hlo hhi ha hd hst hI
            obtain rfl : k7 = 0 := by omega
            have e5 := hd 5 _ (by kernel_rfl) rfl
            have e6 := hd 6 _ (by kernel_rfl) rfl
            have q97 := slot_at (t := 97) 5 ha (by kernel_rfl) (by kernel_rfl) (by kernel_rfl) e5
            have p97 := slot_norm q97
            have q98 := slot_at (t := 98) 6 ha (by kernel_rfl) (by kernel_rfl) (by kernel_rfl) e6
            have p98 := slot_norm q98
            clear ha hd hst
            exact StepI.pure (v := .pointer (some ⟨g, off + (h) * 5, none⟩)) rfl rfl (by go_simp) ⟨rfl, hI⟩
          · intro us au w1 k8 hlo hhi ha hd hst hI
            obtain rfl : k8 = 0 := by omega
            have e7 := hd 7 _ (by kernel_rfl) rfl
            have q99 := slot_at (t := 99) 7 ha (by kernel_rfl) (by kernel_rfl) (by kernel_rfl) e7
            have p99 := slot_norm q99
            clear ha hd hst
            have c0 := SrtAt.c0 hI hli.out
            have c1 := SrtAt.c1 hI hli.out
            have c2 := SrtAt.c2 hI hli.out
            have c3 := SrtAt.c3 hI hli.out
            have c4 := SrtAt.c4 hI hli.out
            exact StepI.pure (v := .agg #[.int .i64 x.kind, .slice x.A x.n x.c, .string x.id, .int .i64 x.at_, .int .u32 x.crc]) rfl rfl (by go_simp) ⟨rfl, hI⟩
          · intro us au w1 ha hd hst hI
            have e0 := hd 0 _ (by kernel_rfl) rfl
            have e4 := hd 4 _ (by kernel_rfl) rfl
            have e8 := hd 8 _ (by kernel_rfl) rfl
            have q92 := slot_at (t := 92) 0 ha (by kernel_rfl) (by kernel_rfl) (by kernel_rfl) e0
            have p92 := slot_norm q92
            have q96 := slot_at (t := 96) 4 ha (by kernel_rfl) (by kernel_rfl) (by kernel_rfl) e4
            have p96 := slot_norm q96
            have q100 := slot_at (t := 100) 8 ha (by kernel_rfl) (by kernel_rfl) (by kernel_rfl) e8
            have p100 := slot_norm q100
            clear ha hd hst
            refine StepI.call (f := 22) (args := #[.agg #[.int .i64 y.kind, .slice y.A y.n y.c, .string y.id, .int .i64 y.at_, .int .u32 y.crc], .agg #[.int .i64 x.kind, .slice x.A x.n x.c, .string x.id, .int .i64 x.at_, .int .u32 x.crc]]) rfl rfl (by go_simp) ?_
            refine (cmp_any y x w1 HOy.out HOx.out).mono ?_
            rintro e w' ⟨rfl, hb⟩
            exact ⟨_, rfl, rfl, SrtAt.below hI hb⟩
          · intro us au w1 k10 hlo hhi ha hd hst hI
            obtain rfl : k10 = 1 := by omega
            have e9 := hd 9 _ (by kernel_rfl) rfl
            have q101 := slot_at (t := 101) 9 ha (by kernel_rfl) (by kernel_rfl) (by kernel_rfl) e9
            have p101 := slot_norm q101
            clear ha hd hst
            exact StepI.pure (v := .bool false) rfl rfl (by go_simp) ⟨rfl, hI⟩
          · intro us au w1 k11 hlo hhi ha hd hst hI
            obtain rfl : k11 = 1 := by omega
            have e10 := hd 10 _ (by kernel_rfl) rfl
            have q102 := slot_at (t := 102) 10 ha (by kernel_rfl) (by kernel_rfl) (by kernel_rfl) e10
            have p102 := slot_norm q102
            clear ha hd hst
            exact StepI.pure (v := .bool true) rfl rfl (by go_simp) ⟨rfl, hI⟩
        case done =>
          intro us w1 hI hd
          have e11 := hd 11 _ (by decide) rfl
          clear hd HS hli hcl
          simp only [putAll]
          go_simp
          go_wp2
          go_roundw
          case rel =>
            refine ⟨h + 1, j, u1 ++ (q1 ++ [x]), q2, u3, by go_num, rfl, by rw [Hv.out, HV2.out]; simp, ?_, ?_, by omega, fun z hz => ?_, H3.out, hI⟩
            · have := HI.out; have := HW1.out; simp only [List.length_append, List.length_cons, List.length_nil]; omega
            · have := HJ.out; have := HW2.out; omega
            · rcases List.mem_append.1 hz with hz | hz
              · exact H1.out z hz
              · exact Srt.Sorted.all_le swoE (l := q1) (z := x) (by have := HSV2.out; rw [HV2.out, show q1 ++ x :: q2 = (q1 ++ [x]) ++ q2 by simp] at this; exact Srt.Sorted.left this) HX.out z hz
          case measure => simp [intOf]; omega
      · rw [hyx] at hcl
        have HX := Lib.hid hyx
        clear hyx
        go_upto_region 17 with (fail)
        clear c1 c2 c3
        refine wp_region_ph (by kernel_rfl) [9] [.span 0 0, .span 0 0, .span 0 0, .span 0 0, .span 0 0, .span 0 0, .span 0 0, .span 0 0, .span 0 0, .phase 0, .span 1 1, .span 1 1] [fun z9 => z9 = .func (.func 22) #[] #[], fun z9 => z9 = .slice (some ⟨g, off, none⟩) N cap, fun z9 => z9 = .int .i64 (m), fun z9 => z9 = .pointer (some ⟨g, off + (m) * 5, none⟩), fun z9 => z9 = .agg #[.int .i64 y.kind, .slice y.A y.n y.c, .string y.id, .int .i64 y.at_, .int .u32 y.crc], fun z9 => z9 = .slice (some ⟨g, off, none⟩) N cap, fun z9 => z9 = .int .i64 (h), fun z9 => z9 = .pointer (some ⟨g, off + (h) * 5, none⟩), fun z9 => z9 = .agg #[.int .i64 x.kind, .slice x.A x.n x.c, .string x.id, .int .i64 x.at_, .int .u32 x.crc], fun z9 => z9 = .int .i64 (cmpE y x), fun z9 => z9 = .bool true, fun z9 => z9 = .bool false] (fun _ w => SrtAt W g off cap (D) w) (by kernel_rfl) (by kernel_rfl) (by kernel_rfl) (by kernel_rfl) (by kernel_rfl) (by kernel_rfl) rfl rfl (HS.out) ?steps ?done
        case steps =>
          refine ⟨?_, ?_, ?_, ?_, ?_, ?_, ?_, ?_, ?_, ?_, ?_, ?_, trivial⟩
          · intro us au w1 k0 hlo hhi ha hd hst hI
            obtain rfl : k0 = 0 := by omega
            have q4 := slot_far (t := 4) (v := .func (.func 22) #[] #[]) ha (by kernel_rfl) (by kernel_rfl)
            have p4 := slot_norm q4
            clear ha hd hst
            exact StepI.pure (v := .func (.func 22) #[] #[]) rfl rfl (by go_simp) ⟨rfl, hI⟩
          · intro us au w1 k1 hlo hhi ha hd hst hI
            obtain rfl : k1 = 0 := by omega
            have q0 := slot_far (t := 0) (v := .slice (some ⟨g, off, none⟩) N cap) ha (by kernel_rfl) (by kernel_rfl)
            have p0 := slot_norm q0
            clear ha hd hst
            exact StepI.pure (v := .slice (some ⟨g, off, none⟩) N cap) rfl rfl (by go_simp) ⟨rfl, hI⟩
          · intro us au w1 k2 hlo hhi ha hd hst hI
            obtain rfl : k2 = 0 := by omega
            have q2 := slot_far (t := 2) (v := .int .i64 (m)) ha (by kernel_rfl) (by kernel_rfl)
            have p2 := slot_norm q2
            clear ha hd hst
            exact StepI.pure (v := .int .i64 (m)) rfl rfl (by go_simp) ⟨rfl, hI⟩
          · intro us au w1 k3 hlo hhi ha hd hst hI
            obtain rfl : k3 = 0 := by omega
            have e1 := hd 1 _ (by kernel_rfl) rfl
            have e2 := hd 2 _ (by kernel_rfl) rfl
            have q93 := slot_at (t := 93) 1 ha (by kernel_rfl) (by kernel_rfl) (by kernel_rfl) e1
            have p93 := slot_norm q93
            have q94 := slot_at (t := 94) 2 ha (by kernel_rfl) (by kernel_rfl) (by kernel_rfl) e2
            have p94 := slot_norm q94
            clear ha hd hst
            exact StepI.pure (v := .pointer (some ⟨g, off + (m) * 5, none⟩)) rfl rfl (by go_simp) ⟨rfl, hI⟩
          · intro us au w1 k4 hlo hhi ha hd hst hI
            obtain rfl : k4 = 0 := by omega
            have e3 := hd 3 _ (by kernel_rfl) rfl
            have q95 := slot_at (t := 95) 3 ha (by kernel_rfl) (by kernel_rfl) (by kernel_rfl) e3
            have p95 := slot_norm q95
            clear ha hd hst
            have c0 := SrtAt.c0 hI hlj.out
            have c1 := SrtAt.c1 hI hlj.out
            have c2 := SrtAt.c2 hI hlj.out
            have c3 := SrtAt.c3 hI hlj.out
            have c4 := SrtAt.c4 hI hlj.out
            exact StepI.pure (v := .agg #[.int .i64 y.kind, .slice y.A y.n y.c, .string y.id, .int .i64 y.at_, .int .u32 y.crc]) rfl rfl (by go_simp) ⟨rfl, hI⟩
          · intro us au w1 k5 hlo hhi ha hd hst hI
            obtain rfl : k5 = 0 := by omega
            have q0 := slot_far (t := 0) (v := .slice (some ⟨g, off, none⟩) N cap) ha (by kernel_rfl) (by kernel_rfl)
            have p0 := slot_norm q0
            clear ha hd hst
            exact StepI.pure (v := .slice (some ⟨g, off, none⟩) N cap) rfl rfl (by go_simp) ⟨rfl, hI⟩
          · intro us au w1 k6 hlo hhi ha hd hst hI
            obtain rfl : k6 = 0 := by omega
            have q16 := slot_far (t := 16) (v := .int .i64 (h)) ha (by kernel_rfl) (by kernel_rfl)
            have p16 := slot_norm q16
            clear ha hd hst
            exact StepI.pure (v := .int .i64 (h)) rfl rfl (by go_simp) ⟨rfl, hI⟩
          · intro us au w1 k7 hlo hhi ha hd hst hI
            obtain rfl : k7 = 0 := by omega
            have e5 := hd 5 _ (by kernel_rfl) rfl
            have e6 := hd 6 _ (by kernel_rfl) rfl
            have q97 := slot_at (t := 97) 5 ha (by kernel_rfl) (by kernel_rfl) (by kernel_rfl) e5
            have p97 := slot_norm q97
            have q98 := slot_at (t := 98) 6 ha (by kernel_rfl) (by kernel_rfl) (by kernel_rfl) e6
            have p98 := slot_norm q98
            clear ha hd hst
            exact StepI.pure (v := .pointer (some ⟨g, off + (h) * 5, none⟩)) rfl rfl (by go_simp) ⟨rfl, hI⟩
          · intro us au w1 k8 hlo hhi ha hd hst hI
            obtain rfl : k8 = 0 := by omega
            have e7 := hd 7 _ (by kernel_rfl) rfl
            have q99 := slot_at (t := 99) 7 ha (by kernel_rfl) (by kernel_rfl) (by kernel_rfl) e7
            have p99 := slot_norm q99
            clear ha hd hst
            have c0 := SrtAt.c0 hI hli.out
            have c1 := SrtAt.c1 hI hli.out
            have c2 := SrtAt.c2 hI hli.out
            have c3 := SrtAt.c3 hI hli.out
            have c4 := SrtAt.c4 hI hli.out
            exact StepI.pure (v := .agg #[.int .i64 x.kind, .slice x.A x.n x.c, .string x.id, .int .i64 x.at_, .int .u32 x.crc]) rfl rfl (by go_simp) ⟨rfl, hI⟩
          · intro us au w1 ha hd hst hI
            have e0 := hd 0 _ (by kernel_rfl) rfl
            have e4 := hd 4 _ (by kernel_rfl) rfl
            have e8 := hd 8 _ (by kernel_rfl) rfl
            have q92 := slot_at (t := 92) 0 ha (by kernel_rfl) (by kernel_rfl) (by kernel_rfl) e0
            have p92 := slot_norm q92
            have q96 := slot_at (t := 96) 4 ha (by kernel_rfl) (by kernel_rfl) (by kernel_rfl) e4
            have p96 := slot_norm q96
            have q100 := slot_at (t := 100) 8 ha (by kernel_rfl) (by kernel_rfl) (by kernel_rfl) e8
            have p100 := slot_norm q100
            clear ha hd hst
            refine StepI.call (f := 22) (args := #[.agg #[.int .i64 y.kind, .slice y.A y.n y.c, .string y.id, .int .i64 y.at_, .int .u32 y.crc], .agg #[.int .i64 x.kind, .slice x.A x.n x.c, .string x.id, .int .i64 x.at_, .int .u32 x.crc]]) rfl rfl (by go_simp) ?_
            refine (cmp_any y x w1 HOy.out HOx.out).mono ?_
            rintro e w' ⟨rfl, hb⟩
            exact ⟨_, rfl, rfl, SrtAt.below hI hb⟩
          · intro us au w1 k10 hlo hhi ha hd hst hI
            obtain rfl : k10 = 1 := by omega
            have e9 := hd 9 _ (by kernel_rfl) rfl
            have q101 := slot_at (t := 101) 9 ha (by kernel_rfl) (by kernel_rfl) (by kernel_rfl) e9
            have p101 := slot_norm q101
            clear ha hd hst
            exact StepI.pure (v := .bool true) rfl rfl (by go_simp) ⟨rfl, hI⟩
          · intro us au w1 k11 hlo hhi ha hd hst hI
            obtain rfl : k11 = 1 := by omega
            have e10 := hd 10 _ (by kernel_rfl) rfl
            have q102 := slot_at (t := 102) 10 ha (by kernel_rfl) (by kernel_rfl) (by kernel_rfl) e10
            have p102 := slot_norm q102
            clear ha hd hst
            exact StepI.pure (v := .bool false) rfl rfl (by go_simp) ⟨rfl, hI⟩
        case done =>
          intro us w1 hI hd
          have e11 := hd 11 _ (by decide) rfl
          clear hd HS hli hcl
          simp only [putAll]
          go_simp
          go_wp2
          go_roundw
          case rel =>
            refine ⟨i, h, u1, q1, x :: q2 ++ u3, rfl, rfl, by rw [Hv.out, HV2.out]; simp, HI.out, by rw [HW1.out]; omega, by omega, H1.out, fun z hz => ?_, hI⟩
            rcases List.mem_append.1 hz with hz | hz
            · exact Srt.Sorted.all_gt swoE (l := q2) (z := x) (by have := HSV2.out; rw [HV2.out] at this; exact Srt.Sorted.right this) HX.out z hz
            · exact H3.out z hz
          case measure => simp [intOf]; omega
    · obtain rfl : u2 = [] := List.eq_nil_of_length_eq_zero (by omega)
      obtain rfl : j = i := by simpa using hj
      obtain ⟨n3, hn3⟩ : ∃ n3, u3.length = n3 := ⟨_, rfl⟩
      have hT : p ++ u1 ++ y :: u3 ++ s = p ++ Srt.mrg ltE u [y] ++ s := by
        rw [hv, List.append_nil, Srt.mrg_last y u1 u3 h1 h3]; simp
      have hD2 : D = p ++ u1 ++ u3 ++ y :: [] ++ s := by rw [HD.out, hv]; simp
      rw [hD2] at hAt
      have hin : m = j + n3 := by
        have h4 := HNU.out
        have h5 := HM.out
        rw [hv] at h4
        simp only [List.length_append, List.length_nil] at h4
        omega
      have HIN := Lib.hid hin
      have HT := Lib.hid hT
      have HAt := Lib.hid hAt
      have HN3 := Lib.hid hn3
      have HJ1 := Lib.hid hi
      clear hAt hT hD2 hi hj hv h1 h3 Hv H1 H3 hn3 hin HAT hlj HOV HV HNU HD
      go_wp2
      go_loopw [17] (fun kv wr => ∃ (K : Nat) (q1 q2 : List El), kv = .int .i64 K ∧ u3 = q1 ++ q2 ∧ K = j + q1.length ∧ SrtAt W g off cap (p ++ u1 ++ q1 ++ y :: q2 ++ s) wr) (fun kv _ => (intOf kv).toNat)
      case atStart => exact ⟨m, u3, [], rfl, by simp, by rw [HN3.out]; exact HIN.out, HAt.out⟩
      case round =>
        clear HAt
        obtain ⟨K, q1, q2, rfl, hv1, hK, hAt⟩ := hrel
        have hl2 : q1.length + q2.length = n3 := by have := HN3.out; rw [hv1, List.length_append] at this; exact this
        have hjn := HIN.out
        by_cases hlt2 : 0 < q1.length
        · obtain ⟨q0, x, rfl, hq0⟩ := last_of hlt2
          obtain ⟨J, hJ⟩ : ∃ J, J = j + q0.length := ⟨_, rfl⟩
          have hJK : J + 1 = K := by omega
          have e1 : (K : Int) - 1 = (J : Int) := by omega
          obtain ⟨D2, hD2⟩ : ∃ D2, D2 = (p ++ u1 ++ q0) ++ x :: [] ++ y :: (q2 ++ s) := ⟨_, rfl⟩
          have hDa : p ++ u1 ++ (q0 ++ [x]) ++ y :: q2 ++ s = D2 := by rw [hD2]; simp
          rw [hDa] at hAt
          have hpK : (p ++ u1 ++ q0).length = J := by rw [List.length_append, List.length_append, HA.out, hJ, HJ1.out]
          have hlj : D2[J]? = some x := by
            have := at_1 (p ++ u1 ++ q0) [] (q2 ++ s) x y
            rw [hD2, ← hpK]; exact this
          have hli : D2[K]? = some y := by
            have := at_2 (p ++ u1 ++ q0) [] (q2 ++ s) x y
            rw [hD2, ← hJK, ← hpK]; exact this
          have hset : (D2.set K x).set J y = p ++ u1 ++ q0 ++ y :: (x :: q2) ++ s := by
            have := set_set' (p ++ u1 ++ q0) [] (q2 ++ s) x y
            rw [hD2, ← hJK, ← hpK]
            simp only [List.length_nil, Nat.add_zero] at this
            rw [this]; simp
          have hKN : K < N := by
            simp only [List.length_append, List.length_cons, List.length_nil] at hl2
            omega
          have k0 : (0 : Int) ≤ (K : Int) := by omega
          have k1 : (K : Int) < (N : Int) := by omega
          have k2 : (0 : Int) ≤ (J : Int) := by omega
          have k3 : (J : Int) < (N : Int) := by omega
          have g1 : decide ((j : Int) < (K : Int)) = true := decide_eq_true (by omega)
          have g2 : decide (j < K) = true := decide_eq_true (by omega)
          have HSET := Lib.hid hset
          have HJ := Lib.hid hJ
          have HJK := Lib.hid hJK
          have hli := Lib.hid hli
          have hlj := Lib.hid hlj
          have HS := Lib.hid hAt.drew
          have HV1 := Lib.hid hv1
          clear hset hJ hAt hK hD2 hDa hpK hlt2 hv1 hjn hl2 hq0
          have hJK := HJK.out
          go_upto_region 23 with (fail)
          refine wp_region_ph (by kernel_rfl) [15, 17] [.span 0 0, .span 0 0, .span 0 1, .span 0 1, .span 0 1, .span 0 0, .span 0 0, .span 0 0, .span 0 0, .span 0 0, .span 0 0, .span 0 0, .span 0 0, .span 0 0, .span 0 0, .phase 0, .span 1 1, .phase 1] [fun z9 => z9 = .slice (some ⟨g, off, none⟩) N cap, fun z9 => z9 = .int .i64 (K), fun z9 => z9 = .slice (some ⟨g, off, none⟩) N cap, fun z9 => z9 = .int .i64 (K), fun z9 => z9 = .int .i64 (J), fun z9 => z9 = .slice (some ⟨g, off, none⟩) N cap, fun z9 => z9 = .int .i64 (K), fun z9 => z9 = .int .i64 (J), fun z9 => z9 = .pointer (some ⟨g, off + (J) * 5, none⟩), fun z9 => z9 = .agg #[.int .i64 x.kind, .slice x.A x.n x.c, .string x.id, .int .i64 x.at_, .int .u32 x.crc], fun z9 => z9 = .slice (some ⟨g, off, none⟩) N cap, fun z9 => z9 = .int .i64 (K), fun z9 => z9 = .pointer (some ⟨g, off + (K) * 5, none⟩), fun z9 => z9 = .agg #[.int .i64 y.kind, .slice y.A y.n y.c, .string y.id, .int .i64 y.at_, .int .u32 y.crc], fun z9 => z9 = .pointer (some ⟨g, off + (K) * 5, none⟩), fun _ => True, fun z9 => z9 = .pointer (some ⟨g, off + (J) * 5, none⟩), fun _ => True] (ISwap W g off cap (K) (J) y x (D2)) (by kernel_rfl) (by kernel_rfl) (by kernel_rfl) (by kernel_rfl) (by kernel_rfl) (by kernel_rfl) rfl rfl (HS.out) ?steps ?done
          case steps =>
            refine ⟨?_, ?_, ?_, ?_, ?_, ?_, ?_, ?_, ?_, ?_, ?_, ?_, ?_, ?_, ?_, ?_, ?_, ?_, trivial⟩
            · intro us au w1 k0 hlo hhi ha hd hst hI
              obtain rfl : k0 = 0 := by omega
              have q0 := slot_far (t := 0) (v := .slice (some ⟨g, off, none⟩) N cap) ha (by kernel_rfl) (by kernel_rfl)
              have p0 := slot_norm q0
              clear ha hd hst
              exact StepI.pure (v := .slice (some ⟨g, off, none⟩) N cap) rfl rfl (by go_simp) ⟨rfl, hI⟩
            · intro us au w1 k1 hlo hhi ha hd hst hI
              obtain rfl : k1 = 0 := by omega
              have q17 := slot_far (t := 17) (v := .int .i64 (K)) ha (by kernel_rfl) (by kernel_rfl)
              have p17 := slot_norm q17
              clear ha hd hst
              exact StepI.pure (v := .int .i64 (K)) rfl rfl (by go_simp) ⟨rfl, hI⟩
            · intro us au w1 k2 hlo hhi ha hd hst hI
              have q0 := slot_far (t := 0) (v := .slice (some ⟨g, off, none⟩) N cap) ha (by kernel_rfl) (by kernel_rfl)
              have p0 := slot_norm q0
              clear ha hd hst
              exact StepI.pure (v := .slice (some ⟨g, off, none⟩) N cap) rfl rfl (by go_simp) ⟨rfl, hI⟩
            · intro us au w1 k3 hlo hhi ha hd hst hI
              have q17 := slot_far (t := 17) (v := .int .i64 (K)) ha (by kernel_rfl) (by kernel_rfl)
              have p17 := slot_norm q17
              clear ha hd hst
              exact StepI.pure (v := .int .i64 (K)) rfl rfl (by go_simp) ⟨rfl, hI⟩
            · intro us au w1 k4 hlo hhi ha hd hst hI
              have e3 := hd 3 _ (by kernel_rfl) rfl
              have q116 := slot_at (t := 116) 3 ha (by kernel_rfl) (by kernel_rfl) (by kernel_rfl) e3
              have p116 := slot_norm q116
              clear ha hd hst
              exact StepI.pure (v := .int .i64 (J)) rfl rfl (by go_simp; exact IntWalk.i64_in _ (by omega)) ⟨rfl, hI⟩
            · intro us au w1 k5 hlo hhi ha hd hst hI
              obtain rfl : k5 = 0 := by omega
              have q0 := slot_far (t := 0) (v := .slice (some ⟨g, off, none⟩) N cap) ha (by kernel_rfl) (by kernel_rfl)
              have p0 := slot_norm q0
              clear ha hd hst
              exact StepI.pure (v := .slice (some ⟨g, off, none⟩) N cap) rfl rfl (by go_simp) ⟨rfl, hI⟩
            · intro us au w1 k6 hlo hhi ha hd hst hI
              obtain rfl : k6 = 0 := by omega
              have q17 := slot_far (t := 17) (v := .int .i64 (K)) ha (by kernel_rfl) (by kernel_rfl)
              have p17 := slot_norm q17
              clear ha hd hst
              exact StepI.pure (v := .int .i64 (K)) rfl rfl (by go_simp) ⟨rfl, hI⟩
            · intro us au w1 k7 hlo hhi ha hd hst hI
              obtain rfl : k7 = 0 := by omega
              have e6 := hd 6 _ (by kernel_rfl) rfl
              have q119 := slot_at (t := 119) 6 ha (by kernel_rfl) (by kernel_rfl) (by kernel_rfl) e6
              have p119 := slot_norm q119
              clear ha hd hst
              exact StepI.pure (v := .int .i64 (J)) rfl rfl (by go_simp; exact IntWalk.i64_in _ (by omega)) ⟨rfl, hI⟩
            · intro us au w1 k8 hlo hhi ha hd hst hI
              obtain rfl : k8 = 0 := by omega
              have e5 := hd 5 _ (by kernel_rfl) rfl
              have e7 := hd 7 _ (by kernel_rfl) rfl
              have q118 := slot_at (t := 118) 5 ha (by kernel_rfl) (by kernel_rfl) (by kernel_rfl) e5
              have p118 := slot_norm q118
              have q120 := slot_at (t := 120) 7 ha (by kernel_rfl) (by kernel_rfl) (by kernel_rfl) e7
              have p120 := slot_norm q120
              clear ha hd hst
              exact StepI.pure (v := .pointer (some ⟨g, off + (J) * 5, none⟩)) rfl rfl (by go_simp) ⟨rfl, hI⟩
            · intro us au w1 k9 hlo hhi ha hd hst hI
              obtain rfl : k9 = 0 := by omega
              have e8 := hd 8 _ (by kernel_rfl) rfl
              have q121 := slot_at (t := 121) 8 ha (by kernel_rfl) (by kernel_rfl) (by kernel_rfl) e8
              have p121 := slot_norm q121
              clear ha hd hst
              have c0 := SrtAt.c0 hI hlj.out
              have c1 := SrtAt.c1 hI hlj.out
              have c2 := SrtAt.c2 hI hlj.out
              have c3 := SrtAt.c3 hI hlj.out
              have c4 := SrtAt.c4 hI hlj.out
              exact StepI.pure (v := .agg #[.int .i64 x.kind, .slice x.A x.n x.c, .string x.id, .int .i64 x.at_, .int .u32 x.crc]) rfl rfl (by go_simp) ⟨rfl, hI⟩
            · intro us au w1 k10 hlo hhi ha hd hst hI
              obtain rfl : k10 = 0 := by omega
              have q0 := slot_far (t := 0) (v := .slice (some ⟨g, off, none⟩) N cap) ha (by kernel_rfl) (by kernel_rfl)
              have p0 := slot_norm q0
              clear ha hd hst
              exact StepI.pure (v := .slice (some ⟨g, off, none⟩) N cap) rfl rfl (by go_simp) ⟨rfl, hI⟩
            · intro us au w1 k11 hlo hhi ha hd hst hI
              obtain rfl : k11 = 0 := by omega
              have q17 := slot_far (t := 17) (v := .int .i64 (K)) ha (by kernel_rfl) (by kernel_rfl)
              have p17 := slot_norm q17
              clear ha hd hst
              exact StepI.pure (v := .int .i64 (K)) rfl rfl (by go_simp) ⟨rfl, hI⟩
            · intro us au w1 k12 hlo hhi ha hd hst hI
              obtain rfl : k12 = 0 := by omega
              have e10 := hd 10 _ (by kernel_rfl) rfl
              have e11 := hd 11 _ (by kernel_rfl) rfl
              have q123 := slot_at (t := 123) 10 ha (by kernel_rfl) (by kernel_rfl) (by kernel_rfl) e10
              have p123 := slot_norm q123
              have q124 := slot_at (t := 124) 11 ha (by kernel_rfl) (by kernel_rfl) (by kernel_rfl) e11
              have p124 := slot_norm q124
              clear ha hd hst
              exact StepI.pure (v := .pointer (some ⟨g, off + (K) * 5, none⟩)) rfl rfl (by go_simp) ⟨rfl, hI⟩
            · intro us au w1 k13 hlo hhi ha hd hst hI
              obtain rfl : k13 = 0 := by omega
              have e12 := hd 12 _ (by kernel_rfl) rfl
              have q125 := slot_at (t := 125) 12 ha (by kernel_rfl) (by kernel_rfl) (by kernel_rfl) e12
              have p125 := slot_norm q125
              clear ha hd hst
              have c0 := SrtAt.c0 hI hli.out
              have c1 := SrtAt.c1 hI hli.out
              have c2 := SrtAt.c2 hI hli.out
              have c3 := SrtAt.c3 hI hli.out
              have c4 := SrtAt.c4 hI hli.out
              exact StepI.pure (v := .agg #[.int .i64 y.kind, .slice y.A y.n y.c, .string y.id, .int .i64 y.at_, .int .u32 y.crc]) rfl rfl (by go_simp) ⟨rfl, hI⟩
            · intro us au w1 k14 hlo hhi ha hd hst hI
              obtain rfl : k14 = 0 := by omega
              have e0 := hd 0 _ (by kernel_rfl) rfl
              have e1 := hd 1 _ (by kernel_rfl) rfl
              have q113 := slot_at (t := 113) 0 ha (by kernel_rfl) (by kernel_rfl) (by kernel_rfl) e0
              have p113 := slot_norm q113
              have q114 := slot_at (t := 114) 1 ha (by kernel_rfl) (by kernel_rfl) (by kernel_rfl) e1
              have p114 := slot_norm q114
              clear ha hd hst
              exact StepI.pure (v := .pointer (some ⟨g, off + (K) * 5, none⟩)) rfl rfl (by go_simp) ⟨rfl, hI⟩
            · intro us au w1 ha hd hst hI
              have e14 := hd 14 _ (by kernel_rfl) rfl
              have e9 := hd 9 _ (by kernel_rfl) rfl
              have q127 := slot_at (t := 127) 14 ha (by kernel_rfl) (by kernel_rfl) (by kernel_rfl) e14
              have p127 := slot_norm q127
              have q122 := slot_at (t := 122) 9 ha (by kernel_rfl) (by kernel_rfl) (by kernel_rfl) e9
              have p122 := slot_norm q122
              clear ha hd hst
              have hlt : K < (D2).length := (List.getElem?_eq_some_iff.1 hli.out).1
              have hx := hli.out
              have c0 := SrtAt.c0 hI hx
              have c1 := SrtAt.c1 hI hx
              have c2 := SrtAt.c2 hI hx
              have c3 := SrtAt.c3 hI hx
              have c4 := SrtAt.c4 hI hx
              have f0 := SrtAt.f0 hI hlt
              have f1 := SrtAt.f1 hI hlt
              have f2 := SrtAt.f2 hI hlt
              have f3 := SrtAt.f3 hI hlt
              have f4 := SrtAt.f4 hI hlt
              exact StepI.stored (w' := putCells w1 g (off + (K) * 5) (encE x)) rfl rfl (by simp only [putCells, encE]; go_simp) ⟨trivial, SrtAt.put hI hlt x⟩
            · intro us au w1 k16 hlo hhi ha hd hst hI
              obtain rfl : k16 = 1 := by omega
              have e2 := hd 2 _ (by kernel_rfl) rfl
              have e4 := hd 4 _ (by kernel_rfl) rfl
              have q115 := slot_at (t := 115) 2 ha (by kernel_rfl) (by kernel_rfl) (by kernel_rfl) e2
              have p115 := slot_norm q115
              have q117 := slot_at (t := 117) 4 ha (by kernel_rfl) (by kernel_rfl) (by kernel_rfl) e4
              have p117 := slot_norm q117
              clear ha hd hst
              exact StepI.pure (v := .pointer (some ⟨g, off + (J) * 5, none⟩)) rfl rfl (by go_simp) ⟨rfl, hI⟩
            · intro us au w1 ha hd hst hI
              have e16 := hd 16 _ (by kernel_rfl) rfl
              have e13 := hd 13 _ (by kernel_rfl) rfl
              have q128 := slot_at (t := 128) 16 ha (by kernel_rfl) (by kernel_rfl) (by kernel_rfl) e16
              have p128 := slot_norm q128
              have q126 := slot_at (t := 126) 13 ha (by kernel_rfl) (by kernel_rfl) (by kernel_rfl) e13
              have p126 := slot_norm q126
              clear ha hd hst
              have hlt : J < ((D2).set (K) x).length := by rw [List.length_set]; exact (List.getElem?_eq_some_iff.1 hlj.out).1
              have hx : ((D2).set (K) x)[J]? = some x := by rw [List.getElem?_set_ne (by omega)]; exact hlj.out
              have c0 := SrtAt.c0 hI hx
              have c1 := SrtAt.c1 hI hx
              have c2 := SrtAt.c2 hI hx
              have c3 := SrtAt.c3 hI hx
              have c4 := SrtAt.c4 hI hx
              have f0 := SrtAt.f0 hI hlt
              have f1 := SrtAt.f1 hI hlt
              have f2 := SrtAt.f2 hI hlt
              have f3 := SrtAt.f3 hI hlt
              have f4 := SrtAt.f4 hI hlt
              exact StepI.stored (w' := putCells w1 g (off + (J) * 5) (encE y)) rfl rfl (by simp only [putCells, encE]; go_simp) ⟨trivial, SrtAt.put hI hlt y⟩
          case done =>
            intro us w1 hI hd
            clear hd HS hli hlj hJK
            simp only [putAll]
            go_simp
            go_wp2
            go_roundw
            case rel => exact ⟨J, q0, x :: q2, rfl, by rw [HV1.out]; simp, HJ.out, by rw [← HSET.out]; exact hI⟩
            case measure => have := HJK.out; simp [intOf]; omega
        · obtain rfl : q1 = [] := List.eq_nil_of_length_eq_zero (by omega)
          obtain rfl : K = j := by simpa using hK
          have hx : u3 = q2 := by simpa using hv1
          rw [← hx] at hAt
          have hAt' : SrtAt W g off cap (p ++ Srt.mrg ltE u [y] ++ s) wr := by
            rw [← HT.out]
            have := hAt
            simp only [List.append_assoc, List.cons_append, List.nil_append] at this ⊢
            exact this
          have HAt := Lib.hid hAt'
          clear hAt hAt' hv1 hx hK hl2 hjn
          go_wp2
          go_end0
          exact ⟨rfl, HAt.out.1, HAt.out.2⟩
end Go.Proofs.Ytndjebddgnmpfaa
namespace Go.Proofs.Ytndjebddgnmpfaa
open Go.RowKit
set_option linter.unusedVariables false
set_option linter.unusedSimpArgs false

theorem SrtAt.eq {W w : World} {g off cap : Nat} {L L' : List El} (h : SrtAt W g off cap L w) (e : L = L') : SrtAt W g off cap L' w := e ▸ h
/-- What the search has found: the parts that stay ahead are no greater than those behind. -/
theorem split_ok {α : Type} {lt : α → α → Bool} (h : Srt.Swo lt) {u1 u2 v1 v2 : List α} (hu : Srt.Sorted lt (u1 ++ u2)) (hv : Srt.Sorted lt (v1 ++ v2))
    (h1 : u1 = [] ∨ v2 = [] ∨ ∃ x y, u1[u1.length - 1]? = some x ∧ v2[0]? = some y ∧ lt y x = false)
    (h2 : u2 = [] ∨ v1 = [] ∨ ∃ x y, u2[0]? = some x ∧ v1[v1.length - 1]? = some y ∧ lt y x = true) :
    (∀ x ∈ u1, ∀ y ∈ v2, lt y x = false) ∧ (∀ x ∈ u2, ∀ y ∈ v1, lt y x = true) := by
  refine ⟨?_, ?_⟩
  · rcases h1 with rfl | rfl | ⟨x', y', hx', hy', hxy⟩
    · intro x hx; cases hx
    · intro x _ y hy; cases hy
    · intro x hx y hy
      have e1 : lt x' x = false := by
        obtain ⟨t, z, rfl, _⟩ := last_of (List.length_pos_of_mem hx)
        have hz : z = x' := by
          rw [List.length_append] at hx'
          simp at hx'
          exact hx'
        subst hz
        have hs := Srt.Sorted.left hu
        rcases List.mem_append.1 hx with hx | hx
        · exact (List.pairwise_append.1 hs).2.2 x hx z (by simp)
        · rw [List.mem_singleton.1 hx]; exact h.irr _
      have e2 : lt y y' = false := by
        cases v2 with
        | nil => cases hy
        | cons z t =>
          simp at hy'
          subst hy'
          rcases List.mem_cons.1 hy with rfl | hy
          · exact h.irr _
          · exact (List.pairwise_cons.1 (Srt.Sorted.right hv)).1 y hy
      exact h.co x y' y (h.co x x' y' e1 hxy) e2
  · rcases h2 with rfl | rfl | ⟨x', y', hx', hy', hxy⟩
    · intro x hx; cases hx
    · intro x _ y hy; cases hy
    · intro x hx y hy
      have e1 : lt x x' = false := by
        cases u2 with
        | nil => cases hx
        | cons z t =>
          simp at hx'
          subst hx'
          rcases List.mem_cons.1 hx with rfl | hx
          · exact h.irr _
          · exact (List.pairwise_cons.1 (Srt.Sorted.right hu)).1 x hx
      have e2 : lt y' y = false := by
        obtain ⟨t, z, rfl, _⟩ := last_of (List.length_pos_of_mem hy)
        have hz : z = y' := by
          rw [List.length_append] at hy'
          simp at hy'
          exact hy'
        subst hz
        have hs := Srt.Sorted.left hv
        rcases List.mem_append.1 hy with hy | hy
        · exact (List.pairwise_append.1 hs).2.2 y hy z (by simp)
        · rw [List.mem_singleton.1 hy]; exact h.irr _
      cases hyx : lt y x
      · have := h.co x' y y' (h.co x' x y e1 hyx) e2
        rw [hxy] at this; cases this
      · rfl
/-- What is asked of a call of symMerge. -/
def SymOk (d : Nat) : Prop :=
  ∀ (g off cap N a m b : Nat) (p u v s : List El) (W : World), b - a ≤ d → SRow W 30 5 encE g off cap (p ++ u ++ v ++ s) → (p ++ u ++ v ++ s).length = N → p.length = a → a + u.length = m → m + v.length = b → 0 < u.length → 0 < v.length →
    Srt.Sorted ltE u → Srt.Sorted ltE v → (∀ x ∈ u, okE x) → (∀ x ∈ v, okE x) → N ≤ 140737488355328 →
    Calls Try.prog 53 #[.slice (some ⟨g, off, none⟩) N cap, .int .i64 a, .int .i64 m, .int .i64 b, .func (.func 22) #[] #[]] W (SrtPost g off cap (p ++ Srt.mrg ltE u v ++ s) W)
theorem sym_rest {N a m b st M Q P1 E : Nat} {D p u v s : List El} (hD : D = p ++ u ++ v ++ s) (hN : (p ++ u ++ v ++ s).length = N) (ha : p.length = a) (hm : a + u.length = m) (hb : m + v.length = b) (hu : Srt.Sorted ltE u) (hv : Srt.Sorted ltE v)
    (hou : ∀ x ∈ u, okE x) (hov : ∀ x ∈ v, okE x) (hNb : N ≤ 140737488355328) (hIH : SymOk (b - a - 1)) (hau : ∀ (i : Nat) (x : El), u[i]? = some x → D[a + i]? = some x) (hav : ∀ (i : Nat) (x : El), v[i]? = some x → D[m + i]? = some x)
    (hM : M = (a + b) / 2) (hQ : Q = M + m) (hE : E = Q - st) (hQ1 : P1 + 1 = Q) (b1 : a ≤ st) (b2 : st ≤ m) (b3 : st ≤ M) (b4 : Q ≤ st + b) (hab : a + 2 ≤ b)
    (c1 : st = a ∨ st + b = Q ∨ ∃ x y, D[st - 1]? = some x ∧ D[Q - st]? = some y ∧ ltE y x = false) (c2 : st = m ∨ st = M ∨ ∃ x y, D[st]? = some x ∧ D[P1 - st]? = some y ∧ ltE y x = true) (W : World) (g off cap : Nat) :
    ∃ D1 D2 : List El, m ≤ E ∧ E ≤ b ∧ E + st = M + m ∧
      Hid (st < m → m < E → ∀ w, SrtAt W g off cap D w → Calls Try.prog 58 #[.slice (some ⟨g, off, none⟩) N cap, .int .i64 st, .int .i64 m, .int .i64 E, .func (.func 22) #[] #[]] w fun e w' => e = .returned (.tuple #[]) ∧ SrtAt W g off cap D1 w') ∧
      Hid (a < st → m < E → ∀ w, SrtAt W g off cap D1 w → Calls Try.prog 53 #[.slice (some ⟨g, off, none⟩) N cap, .int .i64 a, .int .i64 st, .int .i64 M, .func (.func 22) #[] #[]] w fun e w' => e = .returned (.tuple #[]) ∧ SrtAt W g off cap D2 w') ∧
      Hid (st < m → E < b → ∀ w, SrtAt W g off cap D2 w → Calls Try.prog 53 #[.slice (some ⟨g, off, none⟩) N cap, .int .i64 M, .int .i64 E, .int .i64 b, .func (.func 22) #[] #[]] w fun e w' => e = .returned (.tuple #[]) ∧ SrtAt W g off cap (p ++ Srt.mrg ltE u v ++ s) w') ∧
      Hid (¬ (st < m ∧ m < E) → D = D1) ∧ Hid (¬ (a < st ∧ m < E) → D1 = D2) ∧ Hid (¬ (st < m ∧ E < b) → D2 = p ++ Srt.mrg ltE u v ++ s) := by
  have hEm : m ≤ E := by omega
  have hEb : E ≤ b := by omega
  have hEs : E + st = M + m := by omega
  have haM : a < M := by omega
  have hMb : M < b := by omega
  obtain ⟨u1, u2, rfl, l1, l2⟩ := split_at u (st - a) (by omega)
  obtain ⟨v1, v2, rfl, l3, l4⟩ := split_at v (E - m) (by omega)
  simp only [List.length_append] at hm hb l2 l4
  have hs := split_ok swoE hu hv
    (by
      rcases c1 with h | h | ⟨x, y, h1, h2, h3⟩
      · exact .inl (List.eq_nil_of_length_eq_zero (by omega))
      · exact .inr (.inl (List.eq_nil_of_length_eq_zero (by omega)))
      · rcases Nat.eq_zero_or_pos u1.length with h | h
        · exact .inl (List.eq_nil_of_length_eq_zero h)
        rcases Nat.eq_zero_or_pos v2.length with h' | h'
        · exact .inr (.inl (List.eq_nil_of_length_eq_zero h'))
        have e1 : u1[u1.length - 1]? = some (u1[u1.length - 1]'(by omega)) := List.getElem?_eq_getElem (by omega)
        have e2 : v2[0]? = some (v2[0]'(by omega)) := List.getElem?_eq_getElem (by omega)
        have k1 := hau (u1.length - 1) _ (by rw [List.getElem?_append_left (by omega)]; exact e1)
        have k2 := hav v1.length _ (by rw [List.getElem?_append_right (Nat.le_refl _), Nat.sub_self]; exact e2)
        rw [show a + (u1.length - 1) = st - 1 by omega, h1] at k1
        rw [show m + v1.length = Q - st by omega, h2] at k2
        injection k1 with k1
        injection k2 with k2
        exact .inr (.inr ⟨x, y, by rw [k1]; exact e1, by rw [k2]; exact e2, h3⟩))
    (by
      rcases c2 with h | h | ⟨x, y, h1, h2, h3⟩
      · exact .inl (List.eq_nil_of_length_eq_zero (by omega))
      · exact .inr (.inl (List.eq_nil_of_length_eq_zero (by omega)))
      · rcases Nat.eq_zero_or_pos u2.length with h | h
        · exact .inl (List.eq_nil_of_length_eq_zero h)
        rcases Nat.eq_zero_or_pos v1.length with h' | h'
        · exact .inr (.inl (List.eq_nil_of_length_eq_zero h'))
        have e1 : u2[0]? = some (u2[0]'(by omega)) := List.getElem?_eq_getElem (by omega)
        have e2 : v1[v1.length - 1]? = some (v1[v1.length - 1]'(by omega)) := List.getElem?_eq_getElem (by omega)
        have k1 := hau u1.length _ (by rw [List.getElem?_append_right (Nat.le_refl _), Nat.sub_self]; exact e1)
        have k2 := hav (v1.length - 1) _ (by rw [List.getElem?_append_left (by omega)]; exact e2)
        rw [show a + u1.length = st by omega, h1] at k1
        rw [show m + (v1.length - 1) = P1 - st by omega, h2] at k2
        injection k1 with k1
        injection k2 with k2
        exact .inr (.inr ⟨x, y, by rw [k1]; exact e1, by rw [k2]; exact e2, h3⟩))
  have hm1 : Srt.mrg ltE (u1 ++ u2) (v1 ++ v2) = Srt.mrg ltE u1 v1 ++ Srt.mrg ltE u2 v2 := Srt.mrg_split u1 u2 v1 v2 hs.1 hs.2
  have hl1 := Srt.mrg_length (lt := ltE) u1 v1
  simp only [List.length_append] at hN
  subst hD
  refine ⟨(p ++ u1) ++ v1 ++ u2 ++ (v2 ++ s), p ++ Srt.mrg ltE u1 v1 ++ (u2 ++ (v2 ++ s)), hEm, hEb, hEs, Lib.hid ?_, Lib.hid ?_, Lib.hid ?_, Lib.hid ?_, Lib.hid ?_, Lib.hid ?_⟩
  · intro h1 h2 w hA
    refine (rotate_any g off cap N st m E (p ++ u1) u2 v1 (v2 ++ s) _ w (by have := hA.2; simpa only [List.append_assoc] using this) (by simp only [List.length_append]; omega) (by rw [List.length_append]; omega) (by omega) (by omega) (by omega) (by omega)).mono ?_
    rintro e w' ⟨rfl, hc, hr⟩
    exact ⟨rfl, hA.1.trans hc (fun _ _ h => h), hr⟩
  · intro h1 h2 w hA
    refine (hIH g off cap N a st M p u1 v1 (u2 ++ (v2 ++ s)) w (by omega) (by have := hA.2; simpa only [List.append_assoc] using this) (by simp only [List.length_append]; omega) ha (by omega) (by omega) (by omega) (by omega) (Srt.Sorted.left hu) (Srt.Sorted.left hv) (fun x hx => hou x (by simp [hx])) (fun x hx => hov x (by simp [hx])) hNb).mono ?_
    rintro e w' ⟨rfl, hc, hr⟩
    exact ⟨rfl, hA.1.trans hc (fun _ _ h => h), hr⟩
  · intro h1 h2 w hA
    refine (hIH g off cap N M E b (p ++ Srt.mrg ltE u1 v1) u2 v2 s w (by omega) (by have := hA.2; simpa only [List.append_assoc] using this) (by simp only [List.length_append]; omega) (by rw [List.length_append]; omega) (by omega) (by omega) (by omega) (by omega) (Srt.Sorted.right hu) (Srt.Sorted.right hv) (fun x hx => hou x (by simp [hx])) (fun x hx => hov x (by simp [hx])) hNb).mono ?_
    rintro e w' ⟨rfl, hc, hr⟩
    refine ⟨rfl, hA.1.trans hc (fun _ _ h => h), ?_⟩
    rw [hm1]
    have := hr
    simpa only [List.append_assoc] using this
  · intro h
    have : u2 = [] ∨ v1 = [] := by
      rcases Nat.eq_zero_or_pos u2.length with h' | h'
      · exact .inl (List.eq_nil_of_length_eq_zero h')
      · exact .inr (List.eq_nil_of_length_eq_zero (by omega))
    rcases this with rfl | rfl <;> simp
  · intro h
    have : u1 = [] ∨ v1 = [] := by
      rcases Nat.eq_zero_or_pos u1.length with h' | h'
      · exact .inl (List.eq_nil_of_length_eq_zero h')
      · exact .inr (List.eq_nil_of_length_eq_zero (by omega))
    rcases this with rfl | rfl <;> simp
  · intro h
    rw [hm1]
    have : u2 = [] ∨ v2 = [] := by
      rcases Nat.eq_zero_or_pos u2.length with h' | h'
      · exact .inl (List.eq_nil_of_length_eq_zero h')
      · exact .inr (List.eq_nil_of_length_eq_zero (by omega))
    rcases this with rfl | rfl <;> simp
set_option maxRecDepth 100000 in
set_option maxHeartbeats 16000000 in
theorem symMerge_step (g off cap N a m b : Nat) (p u v s : List El) (W : World) (hIH : SymOk (b - a - 1)) (hS : SRow W 30 5 encE g off cap (p ++ u ++ v ++ s)) (hN : (p ++ u ++ v ++ s).length = N) (ha : p.length = a) (hm : a + u.length = m) (hb : m + v.length = b) (hu2 : 2 ≤ u.length) (hv2 : 2 ≤ v.length)
    (hu : Srt.Sorted ltE u) (hv : Srt.Sorted ltE v) (hou : ∀ x ∈ u, okE x) (hov : ∀ x ∈ v, okE x) (hNb : N ≤ 140737488355328) :
    Calls Try.prog 53 #[.slice (some ⟨g, off, none⟩) N cap, .int .i64 a, .int .i64 m, .int .i64 b, .func (.func 22) #[] #[]] W (SrtPost g off cap (p ++ Srt.mrg ltE u v ++ s) W) := by
  have hcap := hS.capLe
  unfold maxLen at hcap
  have hNc : N ≤ cap := by rw [← hN]; exact hcap.1
  have hcm : cap ≤ 9223372036854775807 := hcap.2
  have hlen : b + s.length = N := by simp at hN; omega
  have hbN : b ≤ N := by omega
  obtain ⟨nu, hnu⟩ : ∃ n, u.length = n := ⟨_, rfl⟩
  obtain ⟨nv, hnv⟩ : ∃ n, v.length = n := ⟨_, rfl⟩
  rw [hnu] at hm hu2
  rw [hnv] at hb hv2
  have ham : a < m := by omega
  have hmb : m < b := by omega
  have e0 : (m : Int) - (a : Int) = (nu : Int) := by omega
  have z0 : ((nu : Int) == 1) = false := by rw [beq_eq_false_iff_ne]; omega
  have e1 : (b : Int) - (m : Int) = (nv : Int) := by omega
  have z1 : ((nv : Int) == 1) = false := by rw [beq_eq_false_iff_ne]; omega
  obtain ⟨D, hD⟩ : ∃ D, D = p ++ u ++ v ++ s := ⟨_, rfl⟩
  have hpu : (p ++ u).length = m := by rw [List.length_append, ha, hnu]; exact hm
  have hau : ∀ (i : Nat) (x : El), u[i]? = some x → D[a + i]? = some x := fun i x hx => by
    have hi := (List.getElem?_eq_some_iff.1 hx).1
    rw [hD, List.append_assoc, List.getElem?_append_left (by rw [hpu]; omega), List.getElem?_append_right (by omega), show a + i - p.length = i by omega]
    exact hx
  have hav : ∀ (i : Nat) (x : El), v[i]? = some x → D[m + i]? = some x := fun i x hx => by
    have hi := (List.getElem?_eq_some_iff.1 hx).1
    rw [hD, List.getElem?_append_left (by rw [List.length_append, hpu]; omega), List.getElem?_append_right (by omega), show m + i - (p ++ u).length = i by omega]
    exact hx
  rw [← hD] at hS
  have HS0 := Lib.hid (SrtAt.start hS)
  have HNU := Lib.hid hnu
  have HNV := Lib.hid hnv
  have HAU := Lib.hid hau
  have HAV := Lib.hid hav
  have HA := Lib.hid ha
  have HB := Lib.hid hb
  have HM := Lib.hid hm
  have HU := Lib.hid hu
  have HV := Lib.hid hv
  have HOU := Lib.hid hou
  have HOV := Lib.hid hov
  have HD := Lib.hid hD
  have HN := Lib.hid hN
  have HIH := Lib.hid hIH
  clear hS hN hcap ha hnu hnv hou hov hu hv hD hau hav hlen hpu hIH
  obtain ⟨M, hM⟩ : ∃ M, M = (a + b) / 2 := ⟨_, rfl⟩
  obtain ⟨Q, hQ⟩ : ∃ Q, Q = M + m := ⟨_, rfl⟩
  obtain ⟨P1, hP1⟩ : ∃ P1, P1 = Q - 1 := ⟨_, rfl⟩
  have f1 : IntKind.u64.wrap ((a : Int) + (b : Int)) = (a : Int) + (b : Int) := IntWalk.u64_in _ (by omega)
  have f2 : ((a : Int) + (b : Int)) / 2 = (M : Int) := by omega
  have f3 : IntKind.i64.wrap (M : Int) = (M : Int) := IntWalk.i64_in _ (by omega)
  have f4 : (M : Int) + (m : Int) = (Q : Int) := by omega
  have f5 : (Q : Int) - 1 = (P1 : Int) := by omega
  obtain ⟨lo, hi, hl1, hl2, hl3, hl4, hl5, hl6, hl7, hsel⟩ : ∃ lo hi : Nat, a ≤ lo ∧ lo ≤ hi ∧ hi ≤ m ∧ hi ≤ M ∧ Q ≤ lo + b ∧ (lo = a ∨ lo + b = Q) ∧ (hi = m ∨ hi = M) ∧ ((M < m ∧ lo + b = Q ∧ hi = M) ∨ (¬ M < m ∧ lo = a ∧ hi = m)) := by
    by_cases h : M < m
    · exact ⟨Q - b, M, by omega, by omega, by omega, by omega, by omega, by omega, by omega, .inl ⟨h, by omega, rfl⟩⟩
    · exact ⟨a, m, by omega, by omega, by omega, by omega, by omega, by omega, by omega, .inr ⟨h, rfl, rfl⟩⟩
  have HMM := Lib.hid hM
  have HQ := Lib.hid hQ
  have HP1 := Lib.hid hP1
  have HL6 := Lib.hid hl6
  have HL7 := Lib.hid hl7
  have hMb : M < b := by omega
  have haM : a < M := by omega
  have hQn : Q ≤ 281474976710656 := by omega
  have hQ1 : P1 + 1 = Q := by omega
  have HQ1 := Lib.hid hQ1
  clear hM hQ hP1 hl6 hl7 hm hb hQ1
  go_enter Try.func53, Try.ntmps53
  go_upto_if 140 with (fail)
  clear f1 f2 f3 e0 e1 z0 z1
  go_cut [20, 21] (fun v1 v2 wx => v1 = .int .i64 lo ∧ v2 = .int .i64 hi ∧ SrtAt W g off cap D wx)
  case first =>
    rcases hsel with ⟨hs1, hs2, hs3⟩ | ⟨hs1, hs2, hs3⟩
    · have hs4 : decide ((M : Int) < (m : Int)) = true := decide_eq_true (by omega)
      have hs5 : decide (M < m) = true := decide_eq_true hs1
      have hs6 : (Q : Int) - (b : Int) = (lo : Int) := by omega
      have H3 := Lib.hid hs3
      clear hs2 hs3
      go_wp2
      all_goals first
        | (exfalso; omega)
        | (go_meet; exact ⟨rfl, by rw [H3.out], HS0.out⟩)
    · have hs4 : decide ((M : Int) < (m : Int)) = false := decide_eq_false (by omega)
      have hs5 : decide (M < m) = false := decide_eq_false hs1
      have H2 := Lib.hid hs2
      have H3 := Lib.hid hs3
      clear hs2 hs3
      go_wp2
      all_goals first
        | (exfalso; omega)
        | (go_meet; exact ⟨by rw [H2.out], by rw [H3.out], HS0.out⟩)
  case rest =>
    obtain ⟨rfl, rfl, hC⟩ := hcut
    clear hsel HS0
    have HS0 := Lib.hid hC
    clear hC
    generalize wc = wr0 at *
    go_wp2
    clear f5
    go_loopw [20, 21] (fun iv jv wr => ∃ (st r : Nat), iv = .int .i64 st ∧ jv = .int .i64 r ∧ lo ≤ st ∧ st ≤ r ∧ r ≤ hi ∧ (st = lo ∨ ∃ x y, D[st - 1]? = some x ∧ D[Q - st]? = some y ∧ ltE y x = false) ∧ (r = hi ∨ ∃ x y, D[r]? = some x ∧ D[P1 - r]? = some y ∧ ltE y x = true) ∧ SrtAt W g off cap D wr) (fun iv jv _ => (intOf jv).toNat - (intOf iv).toNat)
    case atStart => exact ⟨lo, hi, rfl, rfl, Nat.le_refl _, hl2, Nat.le_refl _, .inl rfl, .inl rfl, HS0.out⟩
    case round =>
      clear HS0
      obtain ⟨st, r, rfl, rfl, r1, r2, r3, r4, r5, hAt⟩ := hrel
      have R4 := Lib.hid r4
      have R5 := Lib.hid r5
      clear r4 r5
      have hq1 := HQ1.out
      have hqq := HQ.out
      by_cases hlt : st < r
      · obtain ⟨c, hc⟩ : ∃ c, c = (st + r) / 2 := ⟨_, rfl⟩
        obtain ⟨e, he⟩ : ∃ e, e = P1 - c := ⟨_, rfl⟩
        have hmm := HMM.out
        have hnu := HNU.out
        have hnv := HNV.out
        have hmo := HM.out
        have hbo := HB.out
        have hex : ∃ x, u[c - a]? = some x := ⟨u[c - a]'(by omega), List.getElem?_eq_getElem (by omega)⟩
        obtain ⟨x, hx⟩ := hex
        have hey : ∃ y, v[e - m]? = some y := ⟨v[e - m]'(by omega), List.getElem?_eq_getElem (by omega)⟩
        obtain ⟨y, hy⟩ := hey
        have hli : D[c]? = some x := by have := HAU.out _ _ hx; rwa [show a + (c - a) = c by omega] at this
        have hlj : D[e]? = some y := by have := HAV.out _ _ hy; rwa [show m + (e - m) = e by omega] at this
        have HOx := Lib.hid (HOU.out x (List.mem_of_getElem? hx))
        have HOy := Lib.hid (HOV.out y (List.mem_of_getElem? hy))
        have c1 : IntKind.u64.wrap ((st : Int) + (r : Int)) = (st : Int) + (r : Int) := IntWalk.u64_in _ (by omega)
        have c2 : ((st : Int) + (r : Int)) / 2 = (c : Int) := by omega
        have c3 : IntKind.i64.wrap (c : Int) = (c : Int) := IntWalk.i64_in _ (by omega)
        have c4 : (0 : Int) ≤ (c : Int) := by omega
        have c5 : (c : Int) < (N : Int) := by omega
        have c6 : (0 : Int) ≤ (e : Int) := by omega
        have c7 : (e : Int) < (N : Int) := by omega
        have c8 : (P1 : Int) - (c : Int) = (e : Int) := by omega
        have hic : st ≤ c := by omega
        have hcr : c < r := by omega
        have he1 : Q - (c + 1) = e := by omega
        have HE0 := Lib.hid he1
        have HE := Lib.hid he
        have hli := Lib.hid hli
        have hlj := Lib.hid hlj
        have HS := Lib.hid hAt.drew
        clear hAt hc he hx hy hnu hnv hmo hbo hmm hq1 hqq he1
        have hcl := cmpE_lt y x
        cases hyx : ltE y x
        · rw [hyx] at hcl
          have HX := Lib.hid hyx
          clear hyx
          go_upto_region 35 with (fail)
          clear c1 c2 c3
          refine wp_region_ph (by kernel_rfl) [11] [.span 0 0, .span 0 0, .span 0 0, .span 0 0, .span 0 0, .span 0 0, .span 0 0, .span 0 0, .span 0 0, .span 0 0, .span 0 0, .phase 0, .span 1 1, .span 1 1] [fun z9 => z9 = .func (.func 22) #[] #[], fun z9 => z9 = .slice (some ⟨g, off, none⟩) N cap, fun z9 => z9 = .int .i64 (P1), fun z9 => z9 = .int .i64 (c), fun z9 => z9 = .int .i64 (e), fun z9 => z9 = .pointer (some ⟨g, off + (e) * 5, none⟩), fun z9 => z9 = .agg #[.int .i64 y.kind, .slice y.A y.n y.c, .string y.id, .int .i64 y.at_, .int .u32 y.crc], fun z9 => z9 = .slice (some ⟨g, off, none⟩) N cap, fun z9 => z9 = .int .i64 (c), fun z9 => z9 = .pointer (some ⟨g, off + (c) * 5, none⟩), fun z9 => z9 = .agg #[.int .i64 x.kind, .slice x.A x.n x.c, .string x.id, .int .i64 x.at_, .int .u32 x.crc], fun z9 => z9 = .int .i64 (cmpE y x), fun z9 => z9 = .bool false, fun z9 => z9 = .bool true] (fun _ w => SrtAt W g off cap (D) w) (by kernel_rfl) (by kernel_rfl) (by kernel_rfl) (by kernel_rfl) (by kernel_rfl) (by kernel_rfl) rfl rfl (HS.out) ?steps ?done
          case steps =>
            refine ⟨?_, ?_, ?_, ?_, ?_, ?_, ?_, ?_, ?_, ?_, ?_, ?_, ?_, ?_, trivial⟩
            · intro us au w1 k0 hlo hhi ha hd hst hI
              obtain rfl : k0 = 0 := by omega
              have q4 := slot_far (t := 4) (v := .func (.func 22) #[] #[]) ha (by kernel_rfl) (by kernel_rfl)
              have p4 := slot_norm q4
              clear ha hd hst
              exact StepI.pure (v := .func (.func 22) #[] #[]) rfl rfl (by go_simp) ⟨rfl, hI⟩
            · intro us au w1 k1 hlo hhi ha hd hst hI
              obtain rfl : k1 = 0 := by omega
              have q0 := slot_far (t := 0) (v := .slice (some ⟨g, off, none⟩) N cap) ha (by kernel_rfl) (by kernel_rfl)
              have p0 := slot_norm q0
              clear ha hd hst
              exact StepI.pure (v := .slice (some ⟨g, off, none⟩) N cap) rfl rfl (by go_simp) ⟨rfl, hI⟩
            · intro us au w1 k2 hlo hhi ha hd hst hI
              obtain rfl : k2 = 0 := by omega
              have q22 := slot_far (t := 22) (v := .int .i64 (P1)) ha (by kernel_rfl) (by kernel_rfl)
              have p22 := slot_norm q22
              clear ha hd hst
              exact StepI.pure (v := .int .i64 (P1)) rfl rfl (by go_simp) ⟨rfl, hI⟩
            · intro us au w1 k3 hlo hhi ha hd hst hI
              obtain rfl : k3 = 0 := by omega
              have q23 := slot_far (t := 23) (v := .int .i64 (c)) ha (by kernel_rfl) (by kernel_rfl)
              have p23 := slot_norm q23
              clear ha hd hst
              exact StepI.pure (v := .int .i64 (c)) rfl rfl (by go_simp) ⟨rfl, hI⟩
            · intro us au w1 k4 hlo hhi ha hd hst hI
              obtain rfl : k4 = 0 := by omega
              have e2 := hd 2 _ (by kernel_rfl) rfl
              have e3 := hd 3 _ (by kernel_rfl) rfl
              have q160 := slot_at (t := 160) 2 ha (by kernel_rfl) (by kernel_rfl) (by kernel_rfl) e2
              have p160 := slot_norm q160
              have q161 := slot_at (t := 161) 3 ha (by kernel_rfl) (by kernel_rfl) (by kernel_rfl) e3
              have p161 := slot_norm q161
              clear ha hd hst
              exact StepI.pure (v := .int .i64 (e)) rfl rfl (by go_simp; exact IntWalk.i64_in _ (by omega)) ⟨rfl, hI⟩
            · intro us au w1 k5 hlo hhi ha hd hst hI
              obtain rfl : k5 = 0 := by omega
              have e1 := hd 1 _ (by kernel_rfl) rfl
              have e4 := hd 4 _ (by kernel_rfl) rfl
              have q159 := slot_at (t := 159) 1 ha (by kernel_rfl) (by kernel_rfl) (by kernel_rfl) e1
              have p159 := slot_norm q159
              have q162 := slot_at (t := 162) 4 ha (by kernel_rfl) (by kernel_rfl) (by kernel_rfl) e4
              have p162 := slot_norm q162
              clear ha hd hst
              exact StepI.pure (v := .pointer (some ⟨g, off + (e) * 5, none⟩)) rfl rfl (by go_simp) ⟨rfl, hI⟩
            · intro us au w1 k6 hlo hhi ha hd hst hI
              obtain rfl : k6 = 0 := by omega
              have e5 := hd 5 _ (by kernel_rfl) rfl
              have q163 := slot_at (t := 163) 5 ha (by kernel_rfl) (by kernel_rfl) (by kernel_rfl) e5
              have p163 := slot_norm q163
              clear ha hd hst
              have c0 := SrtAt.c0 hI hlj.out
              have c1 := SrtAt.c1 hI hlj.out
              have c2 := SrtAt.c2 hI hlj.out
              have c3 := SrtAt.c3 hI hlj.out
              have c4 := SrtAt.c4 hI hlj.out
              exact StepI.pure (v := .agg #[.int .i64 y.kind, .slice y.A y.n y.c, .string y.id, .int .i64 y.at_, .int .u32 y.crc]) rfl rfl (by go_simp) ⟨rfl, hI⟩
            · intro us au w1 k7 hlo hhi ha hd hst hI
              obtain rfl : k7 = 0 := by omega
              have q0 := slot_far (t := 0) (v := .slice (some ⟨g, off, none⟩) N cap) ha (by kernel_rfl) (by kernel_rfl)
              have p0 := slot_norm q0
              clear ha hd hst
              exact StepI.pure (v := .slice (some ⟨g, off, none⟩) N cap) rfl rfl (by go_simp) ⟨rfl, hI⟩
            · intro us au w1 k8 hlo hhi ha hd hst hI
              obtain rfl : k8 = 0 := by omega
              have q23 := slot_far (t := 23) (v := .int .i64 (c)) ha (by kernel_rfl) (by kernel_rfl)
              have p23 := slot_norm q23
              clear ha hd hst
              exact StepI.pure (v := .int .i64 (c)) rfl rfl (by go_simp) ⟨rfl, hI⟩
            · intro us au w1 k9 hlo hhi ha hd hst hI
              obtain rfl : k9 = 0 := by omega
              have e7 := hd 7 _ (by kernel_rfl) rfl
              have e8 := hd 8 _ (by kernel_rfl) rfl
              have q165 := slot_at (t := 165) 7 ha (by kernel_rfl) (by kernel_rfl) (by kernel_rfl) e7
              have p165 := slot_norm q165
              have q166 := slot_at (t := 166) 8 ha (by kernel_rfl) (by kernel_rfl) (by kernel_rfl) e8
              have p166 := slot_norm q166
              clear ha hd hst
              exact StepI.pure (v := .pointer (some ⟨g, off + (c) * 5, none⟩)) rfl rfl (by go_simp) ⟨rfl, hI⟩
            · intro us au w1 k10 hlo hhi ha hd hst hI
              obtain rfl : k10 = 0 := by omega
              have e9 := hd 9 _ (by kernel_rfl) rfl
              have q167 := slot_at (t := 167) 9 ha (by kernel_rfl) (by kernel_rfl) (by kernel_rfl) e9
              have p167 := slot_norm q167
              clear ha hd hst
              have c0 := SrtAt.c0 hI hli.out
              have c1 := SrtAt.c1 hI hli.out
              have c2 := SrtAt.c2 hI hli.out
              have c3 := SrtAt.c3 hI hli.out
              have c4 := SrtAt.c4 hI hli.out
              exact StepI.pure (v := .agg #[.int .i64 x.kind, .slice x.A x.n x.c, .string x.id, .int .i64 x.at_, .int .u32 x.crc]) rfl rfl (by go_simp) ⟨rfl, hI⟩
            · intro us au w1 ha hd hst hI
              have e0 := hd 0 _ (by kernel_rfl) rfl
              have e6 := hd 6 _ (by kernel_rfl) rfl
              have e10 := hd 10 _ (by kernel_rfl) rfl
              have q158 := slot_at (t := 158) 0 ha (by kernel_rfl) (by kernel_rfl) (by kernel_rfl) e0
              have p158 := slot_norm q158
              have q164 := slot_at (t := 164) 6 ha (by kernel_rfl) (by kernel_rfl) (by kernel_rfl) e6
              have p164 := slot_norm q164
              have q168 := slot_at (t := 168) 10 ha (by kernel_rfl) (by kernel_rfl) (by kernel_rfl) e10
              have p168 := slot_norm q168
              clear ha hd hst
              refine StepI.call (f := 22) (args := #[.agg #[.int .i64 y.kind, .slice y.A y.n y.c, .string y.id, .int .i64 y.at_, .int .u32 y.crc], .agg #[.int .i64 x.kind, .slice x.A x.n x.c, .string x.id, .int .i64 x.at_, .int .u32 x.crc]]) rfl rfl (by go_simp) ?_
              refine (cmp_any y x w1 HOy.out HOx.out).mono ?_
              rintro e w' ⟨rfl, hb⟩
              exact ⟨_, rfl, rfl, SrtAt.below hI hb⟩
            · intro us au w1 k12 hlo hhi ha hd hst hI
              obtain rfl : k12 = 1 := by omega
              have e11 := hd 11 _ (by kernel_rfl) rfl
              have q169 := slot_at (t := 169) 11 ha (by kernel_rfl) (by kernel_rfl) (by kernel_rfl) e11
              have p169 := slot_norm q169
              clear ha hd hst
              exact StepI.pure (v := .bool false) rfl rfl (by go_simp) ⟨rfl, hI⟩
            · intro us au w1 k13 hlo hhi ha hd hst hI
              obtain rfl : k13 = 1 := by omega
              have e12 := hd 12 _ (by kernel_rfl) rfl
              have q170 := slot_at (t := 170) 12 ha (by kernel_rfl) (by kernel_rfl) (by kernel_rfl) e12
              have p170 := slot_norm q170
              clear ha hd hst
              exact StepI.pure (v := .bool true) rfl rfl (by go_simp) ⟨rfl, hI⟩
          case done =>
            intro us w1 hI hd
            have e13 := hd 13 _ (by decide) rfl
            clear hd HS hcl c8
            simp only [putAll]
            go_simp
            go_wp2
            go_roundw
            case rel => exact ⟨c + 1, r, by go_num, rfl, by omega, by omega, r3, .inr ⟨x, y, hli.out, by rw [HE0.out]; exact hlj.out, HX.out⟩, R5.out, hI⟩
            case measure => simp [intOf]; omega
        · rw [hyx] at hcl
          have HX := Lib.hid hyx
          clear hyx
          go_upto_region 35 with (fail)
          clear c1 c2 c3
          refine wp_region_ph (by kernel_rfl) [11] [.span 0 0, .span 0 0, .span 0 0, .span 0 0, .span 0 0, .span 0 0, .span 0 0, .span 0 0, .span 0 0, .span 0 0, .span 0 0, .phase 0, .span 1 1, .span 1 1] [fun z9 => z9 = .func (.func 22) #[] #[], fun z9 => z9 = .slice (some ⟨g, off, none⟩) N cap, fun z9 => z9 = .int .i64 (P1), fun z9 => z9 = .int .i64 (c), fun z9 => z9 = .int .i64 (e), fun z9 => z9 = .pointer (some ⟨g, off + (e) * 5, none⟩), fun z9 => z9 = .agg #[.int .i64 y.kind, .slice y.A y.n y.c, .string y.id, .int .i64 y.at_, .int .u32 y.crc], fun z9 => z9 = .slice (some ⟨g, off, none⟩) N cap, fun z9 => z9 = .int .i64 (c), fun z9 => z9 = .pointer (some ⟨g, off + (c) * 5, none⟩), fun z9 => z9 = .agg #[.int .i64 x.kind, .slice x.A x.n x.c, .string x.id, .int .i64 x.at_, .int .u32 x.crc], fun z9 => z9 = .int .i64 (cmpE y x), fun z9 => z9 = .bool true, fun z9 => z9 = .bool false] (fun _ w => SrtAt W g off cap (D) w) (by kernel_rfl) (by kernel_rfl) (by kernel_rfl) (by kernel_rfl) (by kernel_rfl) (by kernel_rfl) rfl rfl (HS.out) ?steps ?done
          case steps =>
            refine ⟨?_, ?_, ?_, ?_, ?_, ?_, ?_, ?_, ?_, ?_, ?_, ?_, ?_, ?_, trivial⟩
            · intro us au w1 k0 hlo hhi ha hd hst hI
              obtain rfl : k0 = 0 := by omega
              have q4 := slot_far (t := 4) (v := .func (.func 22) #[] #[]) ha (by kernel_rfl) (by kernel_rfl)
              have p4 := slot_norm q4
              clear ha hd hst
              exact StepI.pure (v := .func (.func 22) #[] #[]) rfl rfl (by go_simp) ⟨rfl, hI⟩
            · intro us au w1 k1 hlo hhi ha hd hst hI
              obtain rfl : k1 = 0 := by omega
              have q0 := slot_far (t := 0) (v := .slice (some ⟨g, off, none⟩) N cap) ha (by kernel_rfl) (by kernel_rfl)
              have p0 := slot_norm q0
              clear ha hd hst
              exact StepI.pure (v := .slice (some ⟨g, off, none⟩) N cap) rfl rfl (by go_simp) ⟨rfl, hI⟩
            · intro us au w1 k2 hlo hhi ha hd hst hI
              obtain rfl : k2 = 0 := by omega
              have q22 := slot_far (t := 22) (v := .int .i64 (P1)) ha (by kernel_rfl) (by kernel_rfl)
              have p22 := slot_norm q22
              clear ha hd hst
              exact StepI.pure (v := .int .i64 (P1)) rfl rfl (by go_simp) ⟨rfl, hI⟩
            · intro us au w1 k3 hlo hhi ha hd hst hI
              obtain rfl : k3 = 0 := by omega
              have q23 := slot_far (t := 23) (v := .int .i64 (c)) ha (by kernel_rfl) (by kernel_rfl)
              have p23 := slot_norm q23
              clear ha hd hst
              exact StepI.pure (v := .int .i64 (c)) rfl rfl (by go_simp) ⟨rfl, hI⟩
            · intro us au w1 k4 hlo hhi ha hd hst hI
              obtain rfl : k4 = 0 := by omega
              have e2 := hd 2 _ (by kernel_rfl) rfl
              have e3 := hd 3 _ (by kernel_rfl) rfl
              have q160 := slot_at (t := 160) 2 ha (by kernel_rfl) (by kernel_rfl) (by kernel_rfl) e2
              have p160 := slot_norm q160
              have q161 := slot_at (t := 161) 3 ha (by kernel_rfl) (by kernel_rfl) (by kernel_rfl) e3
              have p161 := slot_norm q161
              clear ha hd hst
              exact StepI.pure (v := .int .i64 (e)) rfl rfl (by go_simp; exact IntWalk.i64_in _ (by omega)) ⟨rfl, hI⟩
            · intro us au w1 k5 hlo hhi ha hd hst hI
              obtain rfl : k5 = 0 := by omega
              have e1 := hd 1 _ (by kernel_rfl) rfl
              have e4 := hd 4 _ (by kernel_rfl) rfl
              have q159 := slot_at (t := 159) 1 ha (by kernel_rfl) (by kernel_rfl) (by kernel_rfl) e1
              have p159 := slot_norm q159
              have q162 := slot_at (t := 162) 4 ha (by kernel_rfl) (by kernel_rfl) (by kernel_rfl) e4
              have p162 := slot_norm q162
              clear ha hd hst
              exact StepI.pure (v := .pointer (some ⟨g, off + (e) * 5, none⟩)) rfl rfl (by go_simp) ⟨rfl, hI⟩
            · intro us au w1 k6 hlo hhi ha hd hst hI
              obtain rfl : k6 = 0 := by omega
              have e5 := hd 5 _ (by kernel_rfl) rfl
              have q163 := slot_at (t := 163) 5 ha (by kernel_rfl) (by kernel_rfl) (by kernel_rfl) e5
              have p163 := slot_norm q163
              clear ha hd hst
              have c0 := SrtAt.c0 hI hlj.out
              have c1 := SrtAt.c1 hI hlj.out
              have c2 := SrtAt.c2 hI hlj.out
              have c3 := SrtAt.c3 hI hlj.out
              have c4 := SrtAt.c4 hI hlj.out
              exact StepI.pure (v := .agg #[.int .i64 y.kind, .slice y.A y.n y.c, .string y.id, .int .i64 y.at_, .int .u32 y.crc]) rfl rfl (by go_simp) ⟨rfl, hI⟩
            · intro us au w1 k7 hlo hhi ha hd hst hI
              obtain rfl : k7 = 0 := by omega
              have q0 := slot_far (t := 0) (v := .slice (some ⟨g, off, none⟩) N cap) ha (by kernel_rfl) (by kernel_rfl)
              have p0 := slot_norm q0
              clear ha hd hst
              exact StepI.pure (v := .slice (some ⟨g, off, none⟩) N cap) rfl rfl (by go_simp) ⟨rfl, hI⟩
            · intro us au w1 k8 hlo hhi ha hd hst hI
              obtain rfl : k8 = 0 := by omega
              have q23 := slot_far (t := 23) (v := .int .i64 (c)) ha (by kernel_rfl) (by kernel_rfl)
              have p23 := slot_norm q23
              clear ha hd hst
              exact StepI.pure (v := .int .i64 (c)) rfl rfl (by go_simp) ⟨rfl, hI⟩
            · intro us au w1 k9 hlo hhi ha hd hst hI
              obtain rfl : k9 = 0 := by omega
              have e7 := hd 7 _ (by kernel_rfl) rfl
              have e8 := hd 8 _ (by kernel_rfl) rfl
              have q165 := slot_at (t := 165) 7 ha (by kernel_rfl) (by kernel_rfl) (by kernel_rfl) e7
              have p165 := slot_norm q165
              have q166 := slot_at (t := 166) 8 ha (by kernel_rfl) (by kernel_rfl) (by kernel_rfl) e8
              have p166 := slot_norm q166
              clear ha hd hst
              exact StepI.pure (v := .pointer (some ⟨g, off + (c) * 5, none⟩)) rfl rfl (by go_simp) ⟨rfl, hI⟩
            · intro us au w1 k10 hlo hhi ha hd hst hI
              obtain rfl : k10 = 0 := by omega
              have e9 := hd 9 _ (by kernel_rfl) rfl
              have q167 := slot_at (t := 167) 9 ha (by kernel_rfl) (by kernel_rfl) (by kernel_rfl) e9
              have p167 := slot_norm q167
              clear ha hd hst
              have c0 := SrtAt.c0 hI hli.out
              have c1 := SrtAt.c1 hI hli.out
              have c2 := SrtAt.c2 hI hli.out
              have c3 := SrtAt.c3 hI hli.out
              have c4 := SrtAt.c4 hI hli.out
              exact StepI.pure (v := .agg #[.int .i64 x.kind, .slice x.A x.n x.c, .string x.id, .int .i64 x.at_, .int .u32 x.crc]) rfl rfl (by go_simp) ⟨rfl, hI⟩
            · intro us au w1 ha hd hst hI
              have e0 := hd 0 _ (by kernel_rfl) rfl
              have e6 := hd 6 _ (by kernel_rfl) rfl
              have e10 := hd 10 _ (by kernel_rfl) rfl
              have q158 := slot_at (t := 158) 0 ha (by kernel_rfl) (by kernel_rfl) (by kernel_rfl) e0
              have p158 := slot_norm q158
              have q164 := slot_at (t := 164) 6 ha (by kernel_rfl) (by kernel_rfl) (by kernel_rfl) e6
              have p164 := slot_norm q164
              have q168 := slot_at (t := 168) 10 ha (by kernel_rfl) (by kernel_rfl) (by kernel_rfl) e10
              have p168 := slot_norm q168
              clear ha hd hst
              refine StepI.call (f := 22) (args := #[.agg #[.int .i64 y.kind, .slice y.A y.n y.c, .string y.id, .int .i64 y.at_, .int .u32 y.crc], .agg #[.int .i64 x.kind, .slice x.A x.n x.c, .string x.id, .int .i64 x.at_, .int .u32 x.crc]]) rfl rfl (by go_simp) ?_
              refine (cmp_any y x w1 HOy.out HOx.out).mono ?_
              rintro e w' ⟨rfl, hb⟩
              exact ⟨_, rfl, rfl, SrtAt.below hI hb⟩
            · intro us au w1 k12 hlo hhi ha hd hst hI
              obtain rfl : k12 = 1 := by omega
              have e11 := hd 11 _ (by kernel_rfl) rfl
              have q169 := slot_at (t := 169) 11 ha (by kernel_rfl) (by kernel_rfl) (by kernel_rfl) e11
              have p169 := slot_norm q169
              clear ha hd hst
              exact StepI.pure (v := .bool true) rfl rfl (by go_simp) ⟨rfl, hI⟩
            · intro us au w1 k13 hlo hhi ha hd hst hI
              obtain rfl : k13 = 1 := by omega
              have e12 := hd 12 _ (by kernel_rfl) rfl
              have q170 := slot_at (t := 170) 12 ha (by kernel_rfl) (by kernel_rfl) (by kernel_rfl) e12
              have p170 := slot_norm q170
              clear ha hd hst
              exact StepI.pure (v := .bool false) rfl rfl (by go_simp) ⟨rfl, hI⟩
          case done =>
            intro us w1 hI hd
            have e13 := hd 13 _ (by decide) rfl
            clear hd HS hcl c8
            simp only [putAll]
            go_simp
            go_wp2
            go_roundw
            case rel => exact ⟨st, c, rfl, rfl, r1, by omega, by omega, R4.out, .inr ⟨x, y, hli.out, by rw [← HE.out]; exact hlj.out, HX.out⟩, hI⟩
            case measure => simp [intOf]; omega
      · obtain rfl : r = st := by omega
        obtain ⟨E, hE⟩ : ∃ E, E = Q - r := ⟨_, rfl⟩
        have hc1 : r = a ∨ r + b = Q ∨ ∃ x y, D[r - 1]? = some x ∧ D[Q - r]? = some y ∧ ltE y x = false := by
          rcases R4.out with h | h
          · rcases HL6.out with h' | h'
            · exact .inl (by omega)
            · exact .inr (.inl (by omega))
          · exact .inr (.inr h)
        have hc2 : r = m ∨ r = M ∨ ∃ x y, D[r]? = some x ∧ D[P1 - r]? = some y ∧ ltE y x = true := by
          rcases R5.out with h | h
          · rcases HL7.out with h' | h'
            · exact .inl (by omega)
            · exact .inr (.inl (by omega))
          · exact .inr (.inr h)
        obtain ⟨D1, D2, K1, K2, K3, HRO, HLE, HRI, HE1, HE2, HE3⟩ := sym_rest HD.out HN.out HA.out (by rw [HNU.out]; exact HM.out) (by rw [HNV.out]; exact HB.out) HU.out HV.out HOU.out HOV.out hNb HIH.out HAU.out HAV.out HMM.out HQ.out hE HQ1.out (by omega) (by omega) (by omega) (by omega) (by omega) hc1 hc2 W g off cap
        clear hc1 hc2
        have g0 : (Q : Int) - (r : Int) = (E : Int) := by omega
        have HAt := Lib.hid hAt
        clear hAt hE hlt hq1 hqq
        generalize r = st at *
        by_cases A1 : a < st
        · by_cases A2 : st < m
          · by_cases A3 : m < E
            · by_cases A4 : E < b
              · have gA : decide ((a : Int) < (st : Int)) = true := decide_eq_true (by omega)
                have gA' : decide (a < st) = true := decide_eq_true (by omega)
                have gB : decide ((st : Int) < (m : Int)) = true := decide_eq_true (by omega)
                have gB' : decide (st < m) = true := decide_eq_true (by omega)
                have gC : decide ((m : Int) < (E : Int)) = true := decide_eq_true (by omega)
                have gC' : decide (m < E) = true := decide_eq_true (by omega)
                have gD : decide ((E : Int) < (b : Int)) = true := decide_eq_true (by omega)
                have gD' : decide (E < b) = true := decide_eq_true (by omega)
                have gE : decide ((st : Int) < (M : Int)) = true := decide_eq_true (by omega)
                have gE' : decide (st < M) = true := decide_eq_true (by omega)
                have gF : decide ((M : Int) < (E : Int)) = true := decide_eq_true (by omega)
                have gF' : decide (M < E) = true := decide_eq_true (by omega)
                go_wp2_with fail
                refine (HRO.out A2 A3 _ HAt.out).mono ?_
                rintro e w5 ⟨rfl, hS5⟩
                go_wp2_with fail
                refine (HLE.out A1 A3 _ hS5).mono ?_
                rintro e w6 ⟨rfl, hS6⟩
                go_wp2_with fail
                refine (HRI.out A2 A4 _ hS6).mono ?_
                rintro e w7 ⟨rfl, hS7⟩
                clear hS5 hS6
                have HS7 := Lib.hid hS7
                clear hS7
                go_wp2
                go_end0
                exact ⟨rfl, HS7.out.1, HS7.out.2⟩
              · have gA : decide ((a : Int) < (st : Int)) = true := decide_eq_true (by omega)
                have gA' : decide (a < st) = true := decide_eq_true (by omega)
                have gB : decide ((st : Int) < (m : Int)) = true := decide_eq_true (by omega)
                have gB' : decide (st < m) = true := decide_eq_true (by omega)
                have gC : decide ((m : Int) < (E : Int)) = true := decide_eq_true (by omega)
                have gC' : decide (m < E) = true := decide_eq_true (by omega)
                have gD : decide ((E : Int) < (b : Int)) = false := decide_eq_false (by omega)
                have gD' : decide (E < b) = false := decide_eq_false (by omega)
                have gE : decide ((st : Int) < (M : Int)) = true := decide_eq_true (by omega)
                have gE' : decide (st < M) = true := decide_eq_true (by omega)
                have gF : decide ((M : Int) < (E : Int)) = true := decide_eq_true (by omega)
                have gF' : decide (M < E) = true := decide_eq_true (by omega)
                go_wp2_with fail
                refine (HRO.out A2 A3 _ HAt.out).mono ?_
                rintro e w5 ⟨rfl, hS5⟩
                go_wp2_with fail
                refine (HLE.out A1 A3 _ hS5).mono ?_
                rintro e w6 ⟨rfl, hS6⟩
                have hS7 := SrtAt.eq hS6 (HE3.out (by omega))
                clear hS5 hS6
                have HS7 := Lib.hid hS7
                clear hS7
                go_wp2
                go_end0
                exact ⟨rfl, HS7.out.1, HS7.out.2⟩
            · by_cases A4 : E < b
              · have gA : decide ((a : Int) < (st : Int)) = true := decide_eq_true (by omega)
                have gA' : decide (a < st) = true := decide_eq_true (by omega)
                have gB : decide ((st : Int) < (m : Int)) = true := decide_eq_true (by omega)
                have gB' : decide (st < m) = true := decide_eq_true (by omega)
                have gC : decide ((m : Int) < (E : Int)) = false := decide_eq_false (by omega)
                have gC' : decide (m < E) = false := decide_eq_false (by omega)
                have gD : decide ((E : Int) < (b : Int)) = true := decide_eq_true (by omega)
                have gD' : decide (E < b) = true := decide_eq_true (by omega)
                have gE : decide ((st : Int) < (M : Int)) = false := decide_eq_false (by omega)
                have gE' : decide (st < M) = false := decide_eq_false (by omega)
                have gF : decide ((M : Int) < (E : Int)) = true := decide_eq_true (by omega)
                have gF' : decide (M < E) = true := decide_eq_true (by omega)
                have hS5 := SrtAt.eq HAt.out (HE1.out (by omega))
                have hS6 := SrtAt.eq hS5 (HE2.out (by omega))
                go_wp2_with fail
                refine (HRI.out A2 A4 _ hS6).mono ?_
                rintro e w7 ⟨rfl, hS7⟩
                clear hS5 hS6
                have HS7 := Lib.hid hS7
                clear hS7
                go_wp2
                go_end0
                exact ⟨rfl, HS7.out.1, HS7.out.2⟩
              · have gA : decide ((a : Int) < (st : Int)) = true := decide_eq_true (by omega)
                have gA' : decide (a < st) = true := decide_eq_true (by omega)
                have gB : decide ((st : Int) < (m : Int)) = true := decide_eq_true (by omega)
                have gB' : decide (st < m) = true := decide_eq_true (by omega)
                have gC : decide ((m : Int) < (E : Int)) = false := decide_eq_false (by omega)
                have gC' : decide (m < E) = false := decide_eq_false (by omega)
                have gD : decide ((E : Int) < (b : Int)) = false := decide_eq_false (by omega)
                have gD' : decide (E < b) = false := decide_eq_false (by omega)
                have gE : decide ((st : Int) < (M : Int)) = false := decide_eq_false (by omega)
                have gE' : decide (st < M) = false := decide_eq_false (by omega)
                have gF : decide ((M : Int) < (E : Int)) = true := decide_eq_true (by omega)
                have gF' : decide (M < E) = true := decide_eq_true (by omega)
                have hS5 := SrtAt.eq HAt.out (HE1.out (by omega))
                have hS6 := SrtAt.eq hS5 (HE2.out (by omega))
                have hS7 := SrtAt.eq hS6 (HE3.out (by omega))
                clear hS5 hS6
                have HS7 := Lib.hid hS7
                clear hS7
                go_wp2
                go_end0
                exact ⟨rfl, HS7.out.1, HS7.out.2⟩
          · by_cases A3 : m < E
            · by_cases A4 : E < b
              · have gA : decide ((a : Int) < (st : Int)) = true := decide_eq_true (by omega)
                have gA' : decide (a < st) = true := decide_eq_true (by omega)
                have gB : decide ((st : Int) < (m : Int)) = false := decide_eq_false (by omega)
                have gB' : decide (st < m) = false := decide_eq_false (by omega)
                have gC : decide ((m : Int) < (E : Int)) = true := decide_eq_true (by omega)
                have gC' : decide (m < E) = true := decide_eq_true (by omega)
                have gD : decide ((E : Int) < (b : Int)) = true := decide_eq_true (by omega)
                have gD' : decide (E < b) = true := decide_eq_true (by omega)
                have gE : decide ((st : Int) < (M : Int)) = true := decide_eq_true (by omega)
                have gE' : decide (st < M) = true := decide_eq_true (by omega)
                have gF : decide ((M : Int) < (E : Int)) = false := decide_eq_false (by omega)
                have gF' : decide (M < E) = false := decide_eq_false (by omega)
                have hS5 := SrtAt.eq HAt.out (HE1.out (by omega))
                go_wp2_with fail
                refine (HLE.out A1 A3 _ hS5).mono ?_
                rintro e w6 ⟨rfl, hS6⟩
                have hS7 := SrtAt.eq hS6 (HE3.out (by omega))
                clear hS5 hS6
                have HS7 := Lib.hid hS7
                clear hS7
                go_wp2
                go_end0
                exact ⟨rfl, HS7.out.1, HS7.out.2⟩
              · have gA : decide ((a : Int) < (st : Int)) = true := decide_eq_true (by omega)
                have gA' : decide (a < st) = true := decide_eq_true (by omega)
                have gB : decide ((st : Int) < (m : Int)) = false := decide_eq_false (by omega)
                have gB' : decide (st < m) = false := decide_eq_false (by omega)
                have gC : decide ((m : Int) < (E : Int)) = true := decide_eq_true (by omega)
                have gC' : decide (m < E) = true := decide_eq_true (by omega)
                have gD : decide ((E : Int) < (b : Int)) = false := decide_eq_false (by omega)
                have gD' : decide (E < b) = false := decide_eq_false (by omega)
                have gE : decide ((st : Int) < (M : Int)) = true := decide_eq_true (by omega)
                have gE' : decide (st < M) = true := decide_eq_true (by omega)
                have gF : decide ((M : Int) < (E : Int)) = false := decide_eq_false (by omega)
                have gF' : decide (M < E) = false := decide_eq_false (by omega)
                have hS5 := SrtAt.eq HAt.out (HE1.out (by omega))
                go_wp2_with fail
                refine (HLE.out A1 A3 _ hS5).mono ?_
                rintro e w6 ⟨rfl, hS6⟩
                have hS7 := SrtAt.eq hS6 (HE3.out (by omega))
                clear hS5 hS6
                have HS7 := Lib.hid hS7
                clear hS7
                go_wp2
                go_end0
                exact ⟨rfl, HS7.out.1, HS7.out.2⟩
            · by_cases A4 : E < b
              · have gA : decide ((a : Int) < (st : Int)) = true := decide_eq_true (by omega)
                have gA' : decide (a < st) = true := decide_eq_true (by omega)
                have gB : decide ((st : Int) < (m : Int)) = false := decide_eq_false (by omega)
                have gB' : decide (st < m) = false := decide_eq_false (by omega)
                have gC : decide ((m : Int) < (E : Int)) = false := decide_eq_false (by omega)
                have gC' : decide (m < E) = false := decide_eq_false (by omega)
                have gD : decide ((E : Int) < (b : Int)) = true := decide_eq_true (by omega)
                have gD' : decide (E < b) = true := decide_eq_true (by omega)
                have gE : decide ((st : Int) < (M : Int)) = false := decide_eq_false (by omega)
                have gE' : decide (st < M) = false := decide_eq_false (by omega)
                have gF : decide ((M : Int) < (E : Int)) = false := decide_eq_false (by omega)
                have gF' : decide (M < E) = false := decide_eq_false (by omega)
                have hS5 := SrtAt.eq HAt.out (HE1.out (by omega))
                have hS6 := SrtAt.eq hS5 (HE2.out (by omega))
                have hS7 := SrtAt.eq hS6 (HE3.out (by omega))
                clear hS5 hS6
                have HS7 := Lib.hid hS7
                clear hS7
                go_wp2
                go_end0
                exact ⟨rfl, HS7.out.1, HS7.out.2⟩
              · have gA : decide ((a : Int) < (st : Int)) = true := decide_eq_true (by omega)
                have gA' : decide (a < st) = true := decide_eq_true (by omega)
                have gB : decide ((st : Int) < (m : Int)) = false := decide_eq_false (by omega)
                have gB' : decide (st < m) = false := decide_eq_false (by omega)
                have gC : decide ((m : Int) < (E : Int)) = false := decide_eq_false (by omega)
                have gC' : decide (m < E) = false := decide_eq_false (by omega)
                have gD : decide ((E : Int) < (b : Int)) = false := decide_eq_false (by omega)
                have gD' : decide (E < b) = false := decide_eq_false (by omega)
                have gE : decide ((st : Int) < (M : Int)) = false := decide_eq_false (by omega)
                have gE' : decide (st < M) = false := decide_eq_false (by omega)
                have gF : decide ((M : Int) < (E : Int)) = false := decide_eq_false (by omega)
                have gF' : decide (M < E) = false := decide_eq_false (by omega)
                have hS5 := SrtAt.eq HAt.out (HE1.out (by omega))
                have hS6 := SrtAt.eq hS5 (HE2.out (by omega))
                have hS7 := SrtAt.eq hS6 (HE3.out (by omega))
                clear hS5 hS6
                have HS7 := Lib.hid hS7
                clear hS7
                go_wp2
                go_end0
                exact ⟨rfl, HS7.out.1, HS7.out.2⟩
        · by_cases A2 : st < m
          · by_cases A3 : m < E
            · by_cases A4 : E < b
              · have gA : decide ((a : Int) < (st : Int)) = false := decide_eq_false (by omega)
                have gA' : decide (a < st) = false := decide_eq_false (by omega)
                have gB : decide ((st : Int) < (m : Int)) = true := decide_eq_true (by omega)
                have gB' : decide (st < m) = true := decide_eq_true (by omega)
                have gC : decide ((m : Int) < (E : Int)) = true := decide_eq_true (by omega)
                have gC' : decide (m < E) = true := decide_eq_true (by omega)
                have gD : decide ((E : Int) < (b : Int)) = true := decide_eq_true (by omega)
                have gD' : decide (E < b) = true := decide_eq_true (by omega)
                have gE : decide ((st : Int) < (M : Int)) = true := decide_eq_true (by omega)
                have gE' : decide (st < M) = true := decide_eq_true (by omega)
                have gF : decide ((M : Int) < (E : Int)) = true := decide_eq_true (by omega)
                have gF' : decide (M < E) = true := decide_eq_true (by omega)
                go_wp2_with fail
                refine (HRO.out A2 A3 _ HAt.out).mono ?_
                rintro e w5 ⟨rfl, hS5⟩
                have hS6 := SrtAt.eq hS5 (HE2.out (by omega))
                go_wp2_with fail
                refine (HRI.out A2 A4 _ hS6).mono ?_
                rintro e w7 ⟨rfl, hS7⟩
                clear hS5 hS6
                have HS7 := Lib.hid hS7
                clear hS7
                go_wp2
                go_end0
                exact ⟨rfl, HS7.out.1, HS7.out.2⟩
              · have gA : decide ((a : Int) < (st : Int)) = false := decide_eq_false (by omega)
                have gA' : decide (a < st) = false := decide_eq_false (by omega)
                have gB : decide ((st : Int) < (m : Int)) = true := decide_eq_true (by omega)
                have gB' : decide (st < m) = true := decide_eq_true (by omega)
                have gC : decide ((m : Int) < (E : Int)) = true := decide_eq_true (by omega)
                have gC' : decide (m < E) = true := decide_eq_true (by omega)
                have gD : decide ((E : Int) < (b : Int)) = false := decide_eq_false (by omega)
                have gD' : decide (E < b) = false := decide_eq_false (by omega)
                have gE : decide ((st : Int) < (M : Int)) = true := decide_eq_true (by omega)
                have gE' : decide (st < M) = true := decide_eq_true (by omega)
                have gF : decide ((M : Int) < (E : Int)) = true := decide_eq_true (by omega)
                have gF' : decide (M < E) = true := decide_eq_true (by omega)
                go_wp2_with fail
                refine (HRO.out A2 A3 _ HAt.out).mono ?_
                rintro e w5 ⟨rfl, hS5⟩
                have hS6 := SrtAt.eq hS5 (HE2.out (by omega))
                have hS7 := SrtAt.eq hS6 (HE3.out (by omega))
                clear hS5 hS6
                have HS7 := Lib.hid hS7
                clear hS7
                go_wp2
                go_end0
                exact ⟨rfl, HS7.out.1, HS7.out.2⟩
            · by_cases A4 : E < b
              · have gA : decide ((a : Int) < (st : Int)) = false := decide_eq_false (by omega)
                have gA' : decide (a < st) = false := decide_eq_false (by omega)
                have gB : decide ((st : Int) < (m : Int)) = true := decide_eq_true (by omega)
                have gB' : decide (st < m) = true := decide_eq_true (by omega)
                have gC : decide ((m : Int) < (E : Int)) = false := decide_eq_false (by omega)
                have gC' : decide (m < E) = false := decide_eq_false (by omega)
                have gD : decide ((E : Int) < (b : Int)) = true := decide_eq_true (by omega)
                have gD' : decide (E < b) = true := decide_eq_true (by omega)
                have gE : decide ((st : Int) < (M : Int)) = false := decide_eq_false (by omega)
                have gE' : decide (st < M) = false := decide_eq_false (by omega)
                have gF : decide ((M : Int) < (E : Int)) = true := decide_eq_true (by omega)
                have gF' : decide (M < E) = true := decide_eq_true (by omega)
                have hS5 := SrtAt.eq HAt.out (HE1.out (by omega))
                have hS6 := SrtAt.eq hS5 (HE2.out (by omega))
                go_wp2_with fail
                refine (HRI.out A2 A4 _ hS6).mono ?_
                rintro e w7 ⟨rfl, hS7⟩
                clear hS5 hS6
                have HS7 := Lib.hid hS7
                clear hS7
                go_wp2
                go_end0
                exact ⟨rfl, HS7.out.1, HS7.out.2⟩
              · have gA : decide ((a : Int) < (st : Int)) = false := decide_eq_false (by omega)
                have gA' : decide (a < st) = false := decide_eq_false (by omega)
                have gB : decide ((st : Int) < (m : Int)) = true := decide_eq_true (by omega)
                have gB' : decide (st < m) = true := decide_eq_true (by omega)
                have gC : decide ((m : Int) < (E : Int)) = false := decide_eq_false (by omega)
                have gC' : decide (m < E) = false := decide_eq_false (by omega)
                have gD : decide ((E : Int) < (b : Int)) = false := decide_eq_false (by omega)
                have gD' : decide (E < b) = false := decide_eq_false (by omega)
                have gE : decide ((st : Int) < (M : Int)) = false := decide_eq_false (by omega)
                have gE' : decide (st < M) = false := decide_eq_false (by omega)
                have gF : decide ((M : Int) < (E : Int)) = true := decide_eq_true (by omega)
                have gF' : decide (M < E) = true := decide_eq_true (by omega)
                have hS5 := SrtAt.eq HAt.out (HE1.out (by omega))
                have hS6 := SrtAt.eq hS5 (HE2.out (by omega))
                have hS7 := SrtAt.eq hS6 (HE3.out (by omega))
                clear hS5 hS6
                have HS7 := Lib.hid hS7
                clear hS7
                go_wp2
                go_end0
                exact ⟨rfl, HS7.out.1, HS7.out.2⟩
          · by_cases A3 : m < E
            · by_cases A4 : E < b
              · have gA : decide ((a : Int) < (st : Int)) = false := decide_eq_false (by omega)
                have gA' : decide (a < st) = false := decide_eq_false (by omega)
                have gB : decide ((st : Int) < (m : Int)) = false := decide_eq_false (by omega)
                have gB' : decide (st < m) = false := decide_eq_false (by omega)
                have gC : decide ((m : Int) < (E : Int)) = true := decide_eq_true (by omega)
                have gC' : decide (m < E) = true := decide_eq_true (by omega)
                have gD : decide ((E : Int) < (b : Int)) = true := decide_eq_true (by omega)
                have gD' : decide (E < b) = true := decide_eq_true (by omega)
                have gE : decide ((st : Int) < (M : Int)) = true := decide_eq_true (by omega)
                have gE' : decide (st < M) = true := decide_eq_true (by omega)
                have gF : decide ((M : Int) < (E : Int)) = false := decide_eq_false (by omega)
                have gF' : decide (M < E) = false := decide_eq_false (by omega)
                have hS5 := SrtAt.eq HAt.out (HE1.out (by omega))
                have hS6 := SrtAt.eq hS5 (HE2.out (by omega))
                have hS7 := SrtAt.eq hS6 (HE3.out (by omega))
                clear hS5 hS6
                have HS7 := Lib.hid hS7
                clear hS7
                go_wp2
                go_end0
                exact ⟨rfl, HS7.out.1, HS7.out.2⟩
              · have gA : decide ((a : Int) < (st : Int)) = false := decide_eq_false (by omega)
                have gA' : decide (a < st) = false := decide_eq_false (by omega)
                have gB : decide ((st : Int) < (m : Int)) = false := decide_eq_false (by omega)
                have gB' : decide (st < m) = false := decide_eq_false (by omega)
                have gC : decide ((m : Int) < (E : Int)) = true := decide_eq_true (by omega)
                have gC' : decide (m < E) = true := decide_eq_true (by omega)
                have gD : decide ((E : Int) < (b : Int)) = false := decide_eq_false (by omega)
                have gD' : decide (E < b) = false := decide_eq_false (by omega)
                have gE : decide ((st : Int) < (M : Int)) = true := decide_eq_true (by omega)
                have gE' : decide (st < M) = true := decide_eq_true (by omega)
                have gF : decide ((M : Int) < (E : Int)) = false := decide_eq_false (by omega)
                have gF' : decide (M < E) = false := decide_eq_false (by omega)
                have hS5 := SrtAt.eq HAt.out (HE1.out (by omega))
                have hS6 := SrtAt.eq hS5 (HE2.out (by omega))
                have hS7 := SrtAt.eq hS6 (HE3.out (by omega))
                clear hS5 hS6
                have HS7 := Lib.hid hS7
                clear hS7
                go_wp2
                go_end0
                exact ⟨rfl, HS7.out.1, HS7.out.2⟩
            · by_cases A4 : E < b
              · have gA : decide ((a : Int) < (st : Int)) = false := decide_eq_false (by omega)
                have gA' : decide (a < st) = false := decide_eq_false (by omega)
                have gB : decide ((st : Int) < (m : Int)) = false := decide_eq_false (by omega)
                have gB' : decide (st < m) = false := decide_eq_false (by omega)
                have gC : decide ((m : Int) < (E : Int)) = false := decide_eq_false (by omega)
                have gC' : decide (m < E) = false := decide_eq_false (by omega)
                have gD : decide ((E : Int) < (b : Int)) = true := decide_eq_true (by omega)
                have gD' : decide (E < b) = true := decide_eq_true (by omega)
                have gE : decide ((st : Int) < (M : Int)) = false := decide_eq_false (by omega)
                have gE' : decide (st < M) = false := decide_eq_false (by omega)
                have gF : decide ((M : Int) < (E : Int)) = false := decide_eq_false (by omega)
                have gF' : decide (M < E) = false := decide_eq_false (by omega)
                have hS5 := SrtAt.eq HAt.out (HE1.out (by omega))
                have hS6 := SrtAt.eq hS5 (HE2.out (by omega))
                have hS7 := SrtAt.eq hS6 (HE3.out (by omega))
                clear hS5 hS6
                have HS7 := Lib.hid hS7
                clear hS7
                go_wp2
                go_end0
                exact ⟨rfl, HS7.out.1, HS7.out.2⟩
              · have gA : decide ((a : Int) < (st : Int)) = false := decide_eq_false (by omega)
                have gA' : decide (a < st) = false := decide_eq_false (by omega)
                have gB : decide ((st : Int) < (m : Int)) = false := decide_eq_false (by omega)
                have gB' : decide (st < m) = false := decide_eq_false (by omega)
                have gC : decide ((m : Int) < (E : Int)) = false := decide_eq_false (by omega)
                have gC' : decide (m < E) = false := decide_eq_false (by omega)
                have gD : decide ((E : Int) < (b : Int)) = false := decide_eq_false (by omega)
                have gD' : decide (E < b) = false := decide_eq_false (by omega)
                have gE : decide ((st : Int) < (M : Int)) = false := decide_eq_false (by omega)
                have gE' : decide (st < M) = false := decide_eq_false (by omega)
                have gF : decide ((M : Int) < (E : Int)) = false := decide_eq_false (by omega)
                have gF' : decide (M < E) = false := decide_eq_false (by omega)
                have hS5 := SrtAt.eq HAt.out (HE1.out (by omega))
                have hS6 := SrtAt.eq hS5 (HE2.out (by omega))
                have hS7 := SrtAt.eq hS6 (HE3.out (by omega))
                clear hS5 hS6
                have HS7 := Lib.hid hS7
                clear hS7
                go_wp2
                go_end0
                exact ⟨rfl, HS7.out.1, HS7.out.2⟩
end Go.Proofs.Ytndjebddgnmpfaa
namespace Go.Proofs.Ytndjebddgnmpfaa
open Go.RowKit
set_option linter.unusedVariables false
set_option linter.unusedSimpArgs false

theorem sym_ok : ∀ d, SymOk d
  | 0 => by
    intro g off cap N a m b p u v s W hd _ _ _ hm hb hu hv
    omega
  | d + 1 => by
    intro g off cap N a m b p u v s W hd hS hN ha hm hb hu hv hsu hsv hou hov hNb
    by_cases h1 : u.length = 1
    · obtain ⟨x, t, rfl, ht⟩ := cons_of h1 (by omega)
      obtain rfl : t = [] := List.eq_nil_of_length_eq_zero (by omega)
      exact symMerge_one g off cap N a m b p x v s W hS hN ha hm hb hsv (hou x (by simp)) hov hNb
    by_cases h2 : v.length = 1
    · obtain ⟨y, t, rfl, ht⟩ := cons_of h2 (by omega)
      obtain rfl : t = [] := List.eq_nil_of_length_eq_zero (by omega)
      exact symMerge_last g off cap N a m b p u y s W hS hN ha hm hb (by omega) hsu (hov y (by simp)) hou hNb
    · have hI : SymOk (b - a - 1) := fun g off cap N a' m' b' p u v s W hd' => sym_ok d g off cap N a' m' b' p u v s W (by omega)
      exact symMerge_step g off cap N a m b p u v s W hI hS hN ha hm hb (by omega) (by omega) hsu hsv hou hov hNb
theorem SrtAt.then {W w w' : World} {e : Ending} {g off cap : Nat} {L L' : List El} (h : SrtAt W g off cap L w) (hp : SrtPost g off cap L' w e w') : e = .returned (.tuple #[]) ∧ SrtAt W g off cap L' w' :=
  ⟨hp.1, h.1.trans hp.2.1 (fun _ _ h => h), hp.2.2⟩
set_option maxRecDepth 100000 in
set_option maxHeartbeats 16000000 in
theorem stable_any (g off cap N : Nat) (L : List El) (W : World) (hS : SRow W 30 5 encE g off cap L) (hN : L.length = N) (hok : ∀ x ∈ L, okE x) (hNb : N ≤ 140737488355328) :
    Calls Try.prog 44 #[.slice (some ⟨g, off, none⟩) N cap, .int .i64 N, .func (.func 22) #[] #[]] W (SrtPost g off cap (Srt.isort ltE L) W) := by
  have HS := Lib.hid (SrtAt.start hS)
  have HN := Lib.hid hN
  have HOK := Lib.hid hok
  clear hS hN hok
  go_enter Try.func44, Try.ntmps44
  go_wp2
  go_loopw [7, 8] (fun av bv wr => ∃ (A B : Nat) (d R dn : List El), av = .int .i64 A ∧ bv = .int .i64 B ∧ B = A + 20 ∧ L = d ++ R ∧ d.length = A ∧ dn.length = A ∧ A ≤ N ∧ (∀ T, Srt.lvl ltE 20 (d ++ T) = dn ++ Srt.lvl ltE 20 T) ∧ SrtAt W g off cap (dn ++ R) wr) (fun av _ _ => N - (intOf av).toNat)
  case atStart => exact ⟨0, 20, [], L, [], rfl, rfl, rfl, rfl, rfl, rfl, Nat.zero_le _, (fun T => by simp), HS.out⟩
  case round =>
    clear HS
    obtain ⟨A, B, d, R, dn, rfl, rfl, hB, hL, hd, hdn, hAN, hT, hAt⟩ := hrel
    have hR : A + R.length = N := by have := HN.out; rw [hL, List.length_append] at this; omega
    have hRo : ∀ x ∈ R, okE x := fun x hx => HOK.out x (by rw [hL]; exact List.mem_append_right _ hx)
    have HL := Lib.hid hL
    have HD := Lib.hid hd
    have HDN := Lib.hid hdn
    have HT := Lib.hid hT
    have HAt := Lib.hid hAt
    clear hL hd hdn hT hAt
    by_cases hlt : B ≤ N
    · obtain ⟨x, R2, rfl, h1, h2⟩ := split_at R 20 (by omega)
      have hc := insSort_any g off cap N A B dn x R2 wr (by have := HAt.out.2; simpa only [List.append_assoc] using this) (by have := HDN.out; simp only [List.length_append] at hR ⊢; omega) HDN.out (by omega) (fun z hz => hRo z (by simp [hz])) hNb
      have H1 := Lib.hid h1
      have HBB := Lib.hid hB
      have hAB : A < B := by omega
      clear h1 h2 hRo hR hB
      go_wp2_with (go_at_call 52; refine hc.mono ?_; intro e w5 hp; obtain ⟨rfl, hS5⟩ := HAt.out.then hp)
      go_roundw
      case rel =>
        refine ⟨B, B + 20, d ++ x, R2, dn ++ Srt.isort ltE x, rfl, by go_num, rfl, by rw [HL.out]; simp, by rw [List.length_append, HD.out, H1.out]; exact HBB.out.symm, by rw [List.length_append, HDN.out, Srt.isort_length, H1.out]; exact HBB.out.symm, hlt, fun T => ?_, hS5⟩
        rw [List.append_assoc, HT.out, Srt.lvl_cut _ _ (by decide) H1.out, List.append_assoc]
      case measure => simp [intOf]; omega
    · have hR20 : R.length ≤ 20 := by omega
      have hc := insSort_any g off cap N A N dn R [] wr (by have := HAt.out.2; rwa [List.append_nil]) (by have := HDN.out; simp only [List.length_append, List.length_nil]; omega) HDN.out hR hRo hNb
      have hlv : dn ++ Srt.isort ltE R ++ [] = Srt.lvl ltE 20 L := by rw [HL.out, HT.out, Srt.lvl_short (by decide) hR20, List.append_nil]
      have HLV := Lib.hid hlv
      clear hlv hRo hR hR20 HT HL HD hB
      go_wp2_with (go_at_call 52; refine hc.mono ?_; intro e w5 hp; obtain ⟨rfl, hS5⟩ := HAt.out.then hp)
      rw [HLV.out] at hS5
      have HS5 := Lib.hid hS5
      clear hS5 hc HLV HAt HDN hlt
      go_loopw [6] (fun bv wr => ∃ bs : Nat, bv = .int .i64 bs ∧ 0 < bs ∧ SrtAt W g off cap (Srt.lvl ltE bs L) wr) (fun bv _ => N - (intOf bv).toNat)
      case atStart => exact ⟨20, rfl, by decide, HS5.out⟩
      case round =>
        clear HS5
        obtain ⟨bs, rfl, hbs, hAt⟩ := hrel
        have HAt := Lib.hid hAt
        clear hAt
        by_cases hlt : bs < N
        · obtain ⟨b2, hb2⟩ : ∃ b2, b2 = 2 * bs := ⟨_, rfl⟩
          have f1 : (2 : Int) * (bs : Int) = (b2 : Int) := by omega
          have HB2 := Lib.hid hb2
          have hb2N : b2 ≤ 281474976710656 := by omega
          have hb20 : bs < b2 := by omega
          clear hb2
          go_wp2
          go_loopw [7, 8] (fun av bv wr => ∃ (A B : Nat) (d R dn : List El), av = .int .i64 A ∧ bv = .int .i64 B ∧ B = A + b2 ∧ L = d ++ R ∧ d.length = A ∧ dn.length = A ∧ A ≤ N ∧ (∀ T, Srt.lvl ltE b2 (d ++ T) = dn ++ Srt.lvl ltE b2 T) ∧ SrtAt W g off cap (dn ++ Srt.lvl ltE bs R) wr) (fun av _ _ => N - (intOf av).toNat)
          case atStart => exact ⟨0, b2, [], L, [], rfl, rfl, by omega, rfl, rfl, rfl, Nat.zero_le _, (fun T => by simp), HAt.out⟩
          case round =>
            clear HAt
            obtain ⟨A, B, d, R, dn, rfl, rfl, hB, hL, hd, hdn, hAN, hT, hAt⟩ := hrel
            have hR : A + R.length = N := by have := HN.out; rw [hL, List.length_append] at this; omega
            have hRo : ∀ x ∈ R, okE x := fun x hx => HOK.out x (by rw [hL]; exact List.mem_append_right _ hx)
            have HL := Lib.hid hL
            have HD := Lib.hid hd
            have HDN := Lib.hid hdn
            have HT := Lib.hid hT
            have HAt := Lib.hid hAt
            have hbb := HB2.out
            clear hL hd hdn hT hAt
            obtain ⟨m, hm⟩ : ∃ m, m = A + bs := ⟨_, rfl⟩
            have f2 : (A : Int) + (bs : Int) = (m : Int) := by omega
            have HMM := Lib.hid hm
            by_cases hlt2 : B ≤ N
            · obtain ⟨x, R1, rfl, h1, h2⟩ := split_at R bs (by omega)
              obtain ⟨y, R2, rfl, h3, h4⟩ := split_at R1 bs (by omega)
              have hlv : Srt.lvl ltE bs (x ++ (y ++ R2)) = Srt.isort ltE x ++ (Srt.isort ltE y ++ Srt.lvl ltE bs R2) := by rw [Srt.lvl_cut _ _ hbs h1, Srt.lvl_cut _ _ hbs h3]
              have hA2 : SrtAt W g off cap (dn ++ Srt.isort ltE x ++ Srt.isort ltE y ++ Srt.lvl ltE bs R2) wr := by have := HAt.out; rw [hlv] at this; simpa only [List.append_assoc] using this
              have hc := sym_ok (B - A) g off cap N A m B dn (Srt.isort ltE x) (Srt.isort ltE y) (Srt.lvl ltE bs R2) wr (Nat.le_refl _) hA2.2 (by have := HDN.out; simp only [List.length_append, Srt.isort_length, Srt.lvl_length] at hR ⊢; omega) HDN.out (by rw [Srt.isort_length]; omega) (by rw [Srt.isort_length]; omega) (by rw [Srt.isort_length]; omega) (by rw [Srt.isort_length]; omega) (Srt.isort_sorted swoE _) (Srt.isort_sorted swoE _) (fun z hz => hRo z (by simp [Srt.mem_isort.1 hz])) (fun z hz => hRo z (by simp [Srt.mem_isort.1 hz])) hNb
              rw [← Srt.isort_append swoE] at hc
              have H1 := Lib.hid h1
              have H3 := Lib.hid h3
              have HA2 := Lib.hid hA2
              have HBB := Lib.hid hB
              have hAB : A < B := by omega
              clear h1 h2 h3 h4 hRo hR hlv hA2 hm hbb hB
              go_wp2_with (go_at_call 53; refine hc.mono ?_; intro e w5 hp; obtain ⟨rfl, hS5⟩ := HA2.out.then hp)
              go_roundw
              case rel =>
                refine ⟨B, B + b2, d ++ (x ++ y), R2, dn ++ Srt.isort ltE (x ++ y), rfl, by go_num, rfl, by rw [HL.out]; simp, ?_, ?_, hlt2, fun T => ?_, hS5⟩
                · have := HD.out; have := H1.out; have := H3.out; have := HB2.out; have := HBB.out; simp only [List.length_append]; omega
                · have := HDN.out; have := H1.out; have := H3.out; have := HB2.out; have := HBB.out; simp only [List.length_append, Srt.isort_length]; omega
                · have := H1.out
                  have := H3.out
                  have := HB2.out
                  rw [List.append_assoc, HT.out, Srt.lvl_cut _ _ (by omega) (by rw [List.length_append]; omega), List.append_assoc]
              case measure => have := HBB.out; simp [intOf]; omega
            · by_cases hmn : m < N
              · obtain ⟨x, R1, rfl, h1, h2⟩ := split_at R bs (by omega)
                have hlv : Srt.lvl ltE bs (x ++ R1) = Srt.isort ltE x ++ Srt.isort ltE R1 := by rw [Srt.lvl_cut _ _ hbs h1, Srt.lvl_short hbs (by omega)]
                have hA2 : SrtAt W g off cap (dn ++ Srt.isort ltE x ++ Srt.isort ltE R1 ++ []) wr := by have := HAt.out; rw [hlv] at this; simpa only [List.append_assoc, List.append_nil] using this
                have hc := sym_ok (N - A) g off cap N A m N dn (Srt.isort ltE x) (Srt.isort ltE R1) [] wr (Nat.le_refl _) hA2.2 (by have := HDN.out; simp only [List.length_append, Srt.isort_length, List.length_nil] at hR ⊢; omega) HDN.out (by rw [Srt.isort_length]; omega) (by rw [Srt.isort_length]; omega) (by rw [Srt.isort_length]; omega) (by rw [Srt.isort_length]; omega) (Srt.isort_sorted swoE _) (Srt.isort_sorted swoE _) (fun z hz => hRo z (by simp [Srt.mem_isort.1 hz])) (fun z hz => hRo z (by simp [Srt.mem_isort.1 hz])) hNb
                rw [← Srt.isort_append swoE] at hc
                have hfin : dn ++ Srt.isort ltE (x ++ R1) ++ [] = Srt.lvl ltE b2 L := by rw [HL.out, HT.out, Srt.lvl_short (by omega) (by omega), List.append_nil]
                have HF := Lib.hid hfin
                have HA2 := Lib.hid hA2
                have g1 : (bs : Int) * 2 = (b2 : Int) := by omega
                clear h1 h2 hRo hR hlv hA2 hm hbb hfin f1 hB
                go_wp2_with (go_at_call 53; refine hc.mono ?_; intro e w5 hp; obtain ⟨rfl, hS5⟩ := HA2.out.then hp)
                go_roundw
                case rel => exact ⟨b2, rfl, by omega, by rw [← HF.out]; exact hS5⟩
                case measure => simp [intOf]; omega
              · have hfin : dn ++ Srt.lvl ltE bs R = Srt.lvl ltE b2 L := by rw [HL.out, HT.out, Srt.lvl_short (bs := b2) (by omega) (by omega), Srt.lvl_short (bs := bs) hbs (by omega)]
                have HF := Lib.hid hfin
                have g1 : (bs : Int) * 2 = (b2 : Int) := by omega
                clear hRo hR hm hbb hfin f1 hB
                go_wp2
                go_roundw
                case rel => exact ⟨b2, rfl, by omega, by rw [← HF.out]; exact HAt.out⟩
                case measure => simp [intOf]; omega
        · have hfin : Srt.lvl ltE bs L = Srt.isort ltE L := Srt.lvl_short hbs (by have := HN.out; omega)
          have HF := Lib.hid hfin
          clear hfin
          go_wp2
          go_end0
          have := HAt.out
          rw [HF.out] at this
          exact ⟨rfl, this.1, this.2⟩
set_option maxRecDepth 100000 in
theorem sortStable_any (g off cap N : Nat) (L : List El) (W : World) (hS : SRow W 30 5 encE g off cap L) (hN : L.length = N) (hok : ∀ x ∈ L, okE x) (hNb : N ≤ 140737488355328) :
    Calls Try.prog 21 #[.slice (some ⟨g, off, none⟩) N cap, .func (.func 22) #[] #[]] W (SrtPost g off cap (Srt.isort ltE L) W) := by
  have hc := stable_any g off cap N L W hS hN hok hNb
  have hcap := hS.capLe
  unfold maxLen at hcap
  have hNc : N ≤ cap := by rw [← hN]; exact hcap.1
  have hcm : cap ≤ 9223372036854775807 := hcap.2
  clear hS hN hok hcap
  go_enter Try.func21, Try.ntmps21
  go_wp2_with (go_at_call 44; refine hc.mono ?_; rintro e w5 ⟨rfl, hc5, hS5⟩)
  go_end0
  exact ⟨rfl, hc5, hS5⟩
end Go.Proofs.Ytndjebddgnmpfaa
