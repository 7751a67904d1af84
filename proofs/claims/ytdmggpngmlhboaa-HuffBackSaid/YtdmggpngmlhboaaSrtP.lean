/- The stable sort, in plain lists: what is inserted one by one is what is merged. -/
set_option linter.unusedVariables false
namespace Go.Proofs.Ytdmggpngmlhboaa.Srt
variable {α : Type}

/-- A strict weak order. -/
structure Swo (lt : α → α → Bool) : Prop where
  irr : ∀ a, lt a a = false
  tr : ∀ a b c, lt a b = true → lt b c = true → lt a c = true
  co : ∀ a b c, lt b a = false → lt c b = false → lt c a = false

def ins (lt : α → α → Bool) (x : α) : List α → List α
  | [] => [x]
  | y :: l => if lt x y = true then x :: y :: l else y :: ins lt x l
/-- What is inserted one behind the other. -/
def isortA (lt : α → α → Bool) (acc : List α) (l : List α) : List α := l.foldl (fun a x => ins lt x a) acc
def isort (lt : α → α → Bool) (l : List α) : List α := isortA lt [] l
def mrg (lt : α → α → Bool) : List α → List α → List α
  | [], v => v
  | u, [] => u
  | a :: u, b :: v => if lt b a = true then b :: mrg lt (a :: u) v else a :: mrg lt u (b :: v)
  termination_by u v => u.length + v.length

def Sorted (lt : α → α → Bool) (l : List α) : Prop := l.Pairwise fun a b => lt b a = false

section
variable {lt : α → α → Bool}
@[simp] theorem mrg_nil (v : List α) : mrg lt [] v = v := by unfold mrg; rfl
@[simp] theorem mrg_nil' (u : List α) : mrg lt u [] = u := by cases u <;> (unfold mrg; rfl)
theorem mrg_cons (a b : α) (u v : List α) : mrg lt (a :: u) (b :: v) = if lt b a = true then b :: mrg lt (a :: u) v else a :: mrg lt u (b :: v) := by
  rw [mrg]
theorem isort_snoc (l : List α) (x : α) : isort lt (l ++ [x]) = ins lt x (isort lt l) := by
  simp [isort, isortA, List.foldl_append]
theorem isort_nil : isort lt ([] : List α) = [] := rfl
theorem ins_perm (x : α) : ∀ l : List α, (ins lt x l).Perm (x :: l)
  | [] => List.Perm.refl _
  | y :: l => by
    unfold ins
    split
    · exact List.Perm.refl _
    · exact ((ins_perm x l).cons y).trans (List.Perm.swap x y l)
theorem ins_length (x : α) (l : List α) : (ins lt x l).length = l.length + 1 := (ins_perm x l).length_eq
theorem isort_perm (l : List α) : (isort lt l).Perm l := by
  suffices ∀ (l acc : List α), (isortA lt acc l).Perm (acc ++ l) by simpa [isort] using this l []
  intro l
  induction l with
  | nil => intro acc; simp [isortA]
  | cons x l ih =>
    intro acc
    show (isortA lt (ins lt x acc) l).Perm _
    refine (ih _).trans ?_
    refine ((ins_perm x acc).append_right l).trans ?_
    simpa using List.perm_middle.symm
theorem isort_length (l : List α) : (isort lt l).length = l.length := (isort_perm l).length_eq
theorem mem_isort {l : List α} {x : α} : x ∈ isort lt l ↔ x ∈ l := (isort_perm l).mem_iff
theorem ins_sorted (h : Swo lt) (x : α) : ∀ l : List α, Sorted lt l → Sorted lt (ins lt x l)
  | [], _ => by simp [Sorted, ins]
  | y :: l, hl => by
    unfold Sorted at hl ⊢
    obtain ⟨h1, h2⟩ := List.pairwise_cons.1 hl
    unfold ins
    by_cases hc : lt x y = true
    · rw [if_pos hc]
      refine List.pairwise_cons.2 ⟨?_, hl⟩
      have hyx : lt y x = false := by
        cases e : lt y x
        · rfl
        · have := h.tr _ _ _ hc e; rw [h.irr] at this; cases this
      intro z hz
      rcases List.mem_cons.1 hz with rfl | hz
      · exact hyx
      · exact h.co _ _ _ hyx (h1 z hz)
    · rw [if_neg hc]
      refine List.pairwise_cons.2 ⟨?_, ins_sorted h x l h2⟩
      intro z hz
      have hz' := (ins_perm (lt := lt) x l).mem_iff.1 hz
      rcases List.mem_cons.1 hz' with rfl | hz'
      · simpa using hc
      · exact h1 z hz'
theorem isort_sorted (h : Swo lt) (l : List α) : Sorted lt (isort lt l) := by
  suffices ∀ (l acc : List α), Sorted lt acc → Sorted lt (isortA lt acc l) from this l [] List.Pairwise.nil
  intro l
  induction l with
  | nil => intro acc ha; exact ha
  | cons x l ih => intro acc ha; exact ih _ (ins_sorted h x acc ha)
/-- What is inserted behind a merge is inserted into its second part. -/
theorem mrg_ins (h : Swo lt) (x : α) (u v : List α) : mrg lt u (ins lt x v) = ins lt x (mrg lt u v) := by
  induction v generalizing u with
  | nil =>
    induction u with
    | nil => simp [ins]
    | cons a u ih =>
      simp only [ins, mrg_nil'] at ih ⊢
      rw [mrg_cons]
      by_cases hc : lt x a = true
      · rw [if_pos hc, if_pos hc, mrg_nil']
      · rw [if_neg hc, if_neg hc, ih]
  | cons b v ihv =>
    induction u with
    | nil => simp
    | cons a u ihu =>
      by_cases hxb : lt x b = true
      · have e1 : ins lt x (b :: v) = x :: b :: v := by unfold ins; rw [if_pos hxb]
        rw [e1] at ihu ⊢
        rw [mrg_cons, mrg_cons]
        by_cases hba : lt b a = true
        · rw [if_pos hba, if_pos (h.tr _ _ _ hxb hba)]
          show _ = ins lt x (b :: _)
          unfold ins
          rw [if_pos hxb]
        · rw [if_neg hba]
          show _ = ins lt x (a :: _)
          unfold ins
          by_cases hxa : lt x a = true
          · rw [if_pos hxa, if_pos hxa]
          · rw [if_neg hxa, if_neg hxa, ihu]
      · have e1 : ins lt x (b :: v) = b :: ins lt x v := by conv => lhs; unfold ins; rw [if_neg hxb]
        rw [e1] at ihu ⊢
        rw [mrg_cons, mrg_cons]
        by_cases hba : lt b a = true
        · rw [if_pos hba, if_pos hba, ihv]
          conv => rhs; unfold ins; rw [if_neg hxb]
        · rw [if_neg hba, if_neg hba]
          have hxa : ¬ lt x a = true := by
            rw [h.co a b x (by simpa using hba) (by simpa using hxb)]; decide
          conv => rhs; unfold ins; rw [if_neg hxa]
          rw [ihu]
theorem snoc_induct {P : List α → Prop} (h0 : P []) (h1 : ∀ l x, P l → P (l ++ [x])) (l : List α) : P l := by
  have : ∀ l : List α, P l.reverse := by
    intro l
    induction l with
    | nil => exact h0
    | cons x l ih => rw [List.reverse_cons]; exact h1 _ _ ih
  simpa using this l.reverse
theorem isort_append (h : Swo lt) (u v : List α) : isort lt (u ++ v) = mrg lt (isort lt u) (isort lt v) := by
  induction v using snoc_induct with
  | h0 => simp [isort_nil]
  | h1 l x ih => rw [← List.append_assoc, isort_snoc, isort_snoc, ih, mrg_ins h]
theorem mrg_perm (u v : List α) : (mrg lt u v).Perm (u ++ v) := by
  fun_induction mrg lt u v with
  | case1 v => simp
  | case2 u => simp
  | case3 a u b v hc ih => exact (ih.cons b).trans (by simpa using (List.perm_middle (a := b) (l₁ := a :: u) (l₂ := v)).symm)
  | case4 a u b v hc ih => exact ih.cons a
theorem mrg_length (u v : List α) : (mrg lt u v).length = u.length + v.length := by simpa using (mrg_perm (lt := lt) u v).length_eq
theorem mrg_split : ∀ (u1 u2 v1 v2 : List α), (∀ x ∈ u1, ∀ y ∈ v2, lt y x = false) → (∀ x ∈ u2, ∀ y ∈ v1, lt y x = true) → mrg lt (u1 ++ u2) (v1 ++ v2) = mrg lt u1 v1 ++ mrg lt u2 v2
  | [], [], [], v2, _, _ => by simp
  | [], a :: u2, [], v2, _, _ => by simp
  | [], [], b :: v1, v2, _, _ => by simp
  | [], a :: u2, b :: v1, v2, h1, h2 => by
    have hb := h2 a (by simp) b (by simp)
    have ih := mrg_split [] (a :: u2) v1 v2 (fun x hx => by cases hx) (fun x hx y hy => h2 x hx y (by simp [hy]))
    simp only [List.nil_append, List.cons_append, mrg_nil] at ih ⊢
    rw [mrg_cons, if_pos hb, ih]
  | a :: u1, u2, [], [], _, _ => by simp
  | a :: u1, u2, [], b :: v2, h1, h2 => by
    have hb := h1 a (by simp) b (by simp)
    have ih := mrg_split u1 u2 [] (b :: v2) (fun x hx y hy => h1 x (by simp [hx]) y hy) (fun x _ y hy => by cases hy)
    simp only [List.nil_append, List.cons_append, mrg_nil'] at ih ⊢
    rw [mrg_cons, if_neg (by rw [hb]; decide), ih]
  | a :: u1, u2, b :: v1, v2, h1, h2 => by
    have ih1 := mrg_split (a :: u1) u2 v1 v2 h1 (fun x hx y hy => h2 x hx y (by simp [hy]))
    have ih2 := mrg_split u1 u2 (b :: v1) v2 (fun x hx y hy => h1 x (by simp [hx]) y hy) h2
    simp only [List.cons_append] at ih1 ih2 ⊢
    rw [mrg_cons, mrg_cons]
    by_cases hc : lt b a = true
    · rw [if_pos hc, if_pos hc, ih1]; rfl
    · rw [if_neg hc, if_neg hc, ih2]; rfl
  termination_by u1 u2 v1 v2 => u1.length + v1.length
/-- Blocks of a size, each of them sorted. -/
def lvl (lt : α → α → Bool) (bs : Nat) (l : List α) : List α :=
  if h : l = [] ∨ bs = 0 then l else isort lt (l.take bs) ++ lvl lt bs (l.drop bs)
  termination_by l.length
  decreasing_by
  have h1 : l ≠ [] := fun e => h (.inl e)
  have := List.length_pos_iff.2 h1
  rw [List.length_drop]; omega
theorem lvl_short {bs : Nat} {l : List α} (h0 : 0 < bs) (h : l.length ≤ bs) : lvl lt bs l = isort lt l := by
  rw [lvl]
  split
  · rename_i hh
    rcases hh with rfl | hh
    · rfl
    · omega
  · rw [List.take_of_length_le h, List.drop_of_length_le h, lvl, dif_pos (.inl rfl), List.append_nil]
theorem lvl_cut {bs : Nat} (l m : List α) (h0 : 0 < bs) (h : l.length = bs) : lvl lt bs (l ++ m) = isort lt l ++ lvl lt bs m := by
  rw [lvl, dif_neg]
  · rw [List.take_left' h, List.drop_left' h]
  · rintro (hh | hh)
    · have := congrArg List.length hh; rw [List.length_append, List.length_nil] at this; omega
    · omega
theorem lvl_length (bs : Nat) (l : List α) : (lvl lt bs l).length = l.length := by
  fun_induction lvl lt bs l with
  | case1 => rfl
  | case2 l h ih => rw [List.length_append, ih, isort_length, List.length_take, List.length_drop]; omega
theorem mrg_one (x : α) (v1 v2 : List α) (h1 : ∀ y ∈ v1, lt y x = true) (h2 : ∀ y ∈ v2, lt y x = false) : mrg lt [x] (v1 ++ v2) = v1 ++ x :: v2 := by
  have e := mrg_split (lt := lt) [] [x] v1 v2 (fun _ h => by cases h) (fun z hz y hy => by rw [List.mem_singleton.1 hz]; exact h1 y hy)
  have e2 := mrg_split (lt := lt) [x] [] [] v2 (fun z hz y hy => by rw [List.mem_singleton.1 hz]; exact h2 y hy) (fun _ h => by cases h)
  simp only [List.nil_append, List.append_nil, mrg_nil, mrg_nil', List.cons_append] at e e2
  rw [e, e2]
theorem mrg_last (y : α) (u1 u2 : List α) (h1 : ∀ x ∈ u1, lt y x = false) (h2 : ∀ x ∈ u2, lt y x = true) : mrg lt (u1 ++ u2) [y] = u1 ++ y :: u2 := by
  have e := mrg_split (lt := lt) u1 u2 [] [y] (fun z hz w hw => by rw [List.mem_singleton.1 hw]; exact h1 z hz) (fun _ _ _ h => by cases h)
  have e2 := mrg_split (lt := lt) [] u2 [y] [] (fun _ h => by cases h) (fun z hz w hw => by rw [List.mem_singleton.1 hw]; exact h2 z hz)
  simp only [List.nil_append, List.append_nil, mrg_nil, mrg_nil', List.cons_append] at e e2
  rw [e, e2]
theorem ins_at (x : α) : ∀ (l1 l2 : List α), (∀ y ∈ l1, lt x y = false) → (∀ y t, l2 = y :: t → lt x y = true) → ins lt x (l1 ++ l2) = l1 ++ x :: l2
  | [], [], _, _ => rfl
  | [], y :: t, _, h2 => by
    show ins lt x (y :: t) = _
    unfold ins
    rw [if_pos (h2 y t rfl)]; rfl
  | z :: l1, l2, h1, h2 => by
    show ins lt x (z :: (l1 ++ l2)) = _
    unfold ins
    rw [if_neg (by rw [h1 z (by simp)]; decide), ins_at x l1 l2 (fun y hy => h1 y (by simp [hy])) h2]; rfl
/-- What goes for the last of a sorted row goes for all. -/
theorem Sorted.all_lt (h : Swo lt) {l : List α} {x z : α} (hs : Sorted lt (l ++ [z])) (hz : lt z x = true) : ∀ y ∈ l ++ [z], lt y x = true := by
  intro y hy
  rcases List.mem_append.1 hy with hy | hy
  · cases e : lt y x
    · have := (List.pairwise_append.1 hs).2.2 y hy z (by simp)
      have := h.co x y z e this
      rw [hz] at this; cases this
    · rfl
  · rw [List.mem_singleton.1 hy]; exact hz
theorem Sorted.all_le (h : Swo lt) {l : List α} {x z : α} (hs : Sorted lt (l ++ [z])) (hz : lt x z = false) : ∀ y ∈ l ++ [z], lt x y = false := by
  intro y hy
  rcases List.mem_append.1 hy with hy | hy
  · exact h.co y z x ((List.pairwise_append.1 hs).2.2 y hy z (by simp)) hz
  · rw [List.mem_singleton.1 hy]; exact hz
theorem Sorted.all_ge (h : Swo lt) {l : List α} {x z : α} (hs : Sorted lt (z :: l)) (hz : lt z x = false) : ∀ y ∈ z :: l, lt y x = false := by
  intro y hy
  rcases List.mem_cons.1 hy with rfl | hy
  · exact hz
  · exact h.co x z y hz ((List.pairwise_cons.1 hs).1 y hy)
theorem Sorted.all_gt (h : Swo lt) {l : List α} {x z : α} (hs : Sorted lt (z :: l)) (hz : lt x z = true) : ∀ y ∈ z :: l, lt x y = true := by
  intro y hy
  rcases List.mem_cons.1 hy with rfl | hy
  · exact hz
  · cases e : lt x y
    · have := h.co z y x ((List.pairwise_cons.1 hs).1 y hy) e
      rw [hz] at this; cases this
    · rfl
theorem Sorted.left {u v : List α} (h : Sorted lt (u ++ v)) : Sorted lt u := (List.pairwise_append.1 h).1
theorem Sorted.right {u v : List α} (h : Sorted lt (u ++ v)) : Sorted lt v := (List.pairwise_append.1 h).2.1
theorem mrg_sorted (h : Swo lt) : ∀ (u v : List α), Sorted lt u → Sorted lt v → Sorted lt (mrg lt u v)
  | [], v, _, hv => by simpa using hv
  | a :: u, [], hu, _ => by simpa using hu
  | a :: u, b :: v, hu, hv => by
    rw [mrg_cons]
    have h1 := List.pairwise_cons.1 hu
    have h2 := List.pairwise_cons.1 hv
    by_cases hc : lt b a = true
    · rw [if_pos hc]
      refine List.pairwise_cons.2 ⟨?_, mrg_sorted h (a :: u) v hu h2.2⟩
      intro z hz
      have hab : lt a b = false := by
        cases e : lt a b
        · rfl
        · have := h.tr _ _ _ hc e; rw [h.irr] at this; cases this
      rcases List.mem_append.1 ((mrg_perm _ _).mem_iff.1 hz) with hz | hz
      · rcases List.mem_cons.1 hz with rfl | hz
        · exact hab
        · exact h.co _ _ _ hab (h1.1 z hz)
      · exact h2.1 z hz
    · rw [if_neg hc]
      refine List.pairwise_cons.2 ⟨?_, mrg_sorted h u (b :: v) h1.2 hv⟩
      intro z hz
      have hba : lt b a = false := by simpa using hc
      rcases List.mem_append.1 ((mrg_perm _ _).mem_iff.1 hz) with hz | hz
      · exact h1.1 z hz
      · rcases List.mem_cons.1 hz with rfl | hz
        · exact hba
        · exact h.co _ _ _ hba (h2.1 z hz)
  termination_by u v => u.length + v.length
end
end Go.Proofs.Ytdmggpngmlhboaa.Srt
