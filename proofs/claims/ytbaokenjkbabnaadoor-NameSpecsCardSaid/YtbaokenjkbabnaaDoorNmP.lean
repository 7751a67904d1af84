/- Names of refs, plain: which texts may be names; parts between slashes; stars. No program's function is named here. -/
import Derived.Lib.SplitLaws
import Derived.Lib.Replace
import Derived.Lib.ValidAsc
import Derived.Lib.RuneCountTail
namespace Go.Proofs.YtbaokenjkbabnaaDoor
set_option linter.unusedVariables false

/-- A byte that no name may have. -/
def badB (c : UInt8) : Bool := decide (c.toNat < 33) || c == 127 || [126, 94, 58, 63, 42, 91, 92].contains c
/-- A part that no name may have. -/
def partB (p : List UInt8) : Bool := p.isEmpty || p.head? == some 46 || Lib.hasSuffix p [46, 108, 111, 99, 107]
def partsL : List UInt8 → List (List UInt8)
  | [] => [[]]
  | c :: l => if c = 47 then [] :: partsL l else match partsL l with | [] => [[c]] | p :: ps => (c :: p) :: ps
def dotsB : List UInt8 → Bool
  | a :: b :: l => (a == 46 && b == 46) || (a == 64 && b == 123) || dotsB (b :: l)
  | _ => false
def validN (l : List UInt8) : Bool :=
  Lib.validD l && (decide (l.length ≤ 100) && (Lib.hasPrefix l [114, 101, 102, 115, 47] && (!l.any badB && (!(partsL l).any partB && (!dotsB l && !Lib.hasSuffix l [46])))))

theorem badB_high (c : UInt8) (h : 128 ≤ c.toNat) : badB c = false := by
  unfold badB
  have h2 : ∀ k : UInt8, k.toNat < 128 → (c == k) = false := fun k hk => by
    rw [beq_eq_false_iff_ne]; rintro rfl; omega
  simp only [List.contains_cons, List.contains_nil, Bool.or_false, Bool.or_eq_false_iff, decide_eq_false_iff_not]
  refine ⟨⟨by omega, h2 _ (by decide)⟩, h2 _ (by decide), h2 _ (by decide), h2 _ (by decide), h2 _ (by decide), h2 _ (by decide), h2 _ (by decide), h2 _ (by decide)⟩
theorem partsL_ne (l : List UInt8) : partsL l ≠ [] := by
  cases l with
  | nil => simp [partsL]
  | cons c l => rw [partsL]; split; simp; split <;> simp
theorem partsL_slash (l : List UInt8) : partsL (47 :: l) = [] :: partsL l := by rw [partsL, if_pos rfl]
theorem partsL_head (c : UInt8) (l p : List UInt8) (ps : List (List UInt8)) (h : c ≠ 47) (hp : partsL l = p :: ps) : partsL (c :: l) = (c :: p) :: ps := by rw [partsL, if_neg h, hp]
theorem partsL_app : ∀ (a l p : List UInt8) (ps : List (List UInt8)), (∀ c ∈ a, c ≠ 47) → partsL l = p :: ps → partsL (a ++ l) = (a ++ p) :: ps
  | [], l, p, ps, _, hp => hp
  | c :: a, l, p, ps, ha, hp => partsL_head c _ _ _ (ha c (by simp)) (partsL_app a l p ps (fun x hx => ha x (by simp [hx])) hp)
theorem partsL_none : ∀ (a : List UInt8), (∀ c ∈ a, c ≠ 47) → partsL a = [a]
  | [], _ => rfl
  | c :: a, ha => partsL_head c _ _ _ (ha c (by simp)) (partsL_none a (fun x hx => ha x (by simp [hx])))
/-- At a slash at place i: what stands ahead is the first part. -/
theorem partsL_cut (l : List UInt8) (i : Nat) (hi : l[i]? = some 47) (hn : ∀ j, j < i → l[j]? ≠ some 47) : partsL l = l.take i :: partsL (l.drop (i + 1)) := by
  have hl := (List.getElem?_eq_some_iff.1 hi).1
  have e : l = l.take i ++ (47 :: l.drop (i + 1)) := by
    conv => lhs; rw [← List.take_append_drop i l]
    rw [List.drop_eq_getElem_cons hl, (List.getElem?_eq_some_iff.1 hi).2]
  have hno : ∀ c ∈ l.take i, c ≠ 47 := by
    intro c hc h
    obtain ⟨j, hj, hjc⟩ := List.mem_iff_getElem.1 hc
    rw [List.length_take] at hj
    refine hn j (by omega) ?_
    rw [List.getElem_take] at hjc
    rw [List.getElem?_eq_getElem (by omega), hjc, h]
  conv => lhs; rw [e]
  rw [partsL_app _ _ [] (partsL (l.drop (i + 1))) hno (partsL_slash _), List.append_nil]

theorem partsL_le : ∀ (l : List UInt8), ∀ p ∈ partsL l, p.length ≤ l.length
  | [], p, h => by simp [partsL] at h; subst h; exact Nat.le_refl _
  | c :: l, p, h => by
    have ih := partsL_le l
    rw [partsL] at h
    split at h
    · rcases List.mem_cons.1 h with rfl | h
      · exact Nat.zero_le _
      · have := ih p h; simp only [List.length_cons]; omega
    · split at h
      · rename_i h0; exact absurd h0 (partsL_ne l)
      · rename_i q qs hq
        rcases List.mem_cons.1 h with rfl | h
        · have := ih q (by rw [hq]; simp); simp only [List.length_cons]; omega
        · have := ih p (by rw [hq]; simp [h]); simp only [List.length_cons]; omega
/-- strings.Split at a slash is these parts. -/
theorem index_slash (l : List UInt8) : (Lib.index l [47] = -1 ∧ ∀ c ∈ l, c ≠ 47) ∨ ∃ i : Nat, Lib.index l [47] = i ∧ l[i]? = some 47 ∧ ∀ j, j < i → l[j]? ≠ some 47 := by
  have occ : ∀ j, Lib.occAt l [47] j = true ↔ l[j]? = some 47 := by
    intro j
    unfold Lib.occAt
    rw [List.isPrefixOf_iff_prefix]
    constructor
    · rintro ⟨t, ht⟩
      have : (l.drop j)[0]? = some 47 := by rw [← ht]; rfl
      simpa using this
    · intro h
      have hl := (List.getElem?_eq_some_iff.1 h).1
      exact ⟨l.drop (j + 1), by rw [List.drop_eq_getElem_cons hl, (List.getElem?_eq_some_iff.1 h).2]; rfl⟩
  rcases Lib.index_spec l [47] with ⟨h1, h2⟩ | ⟨i, h1, h2, h3, h4⟩
  · refine .inl ⟨h1, fun c hc h => ?_⟩
    obtain ⟨j, hj, hjc⟩ := List.mem_iff_getElem.1 hc
    have := h2 j (by omega)
    have h5 := (occ j).2 (by rw [List.getElem?_eq_getElem hj, hjc, h])
    rw [h5] at this
    cases this
  · refine .inr ⟨i, h1, (occ i).1 h3, fun j hj h => ?_⟩
    have := h4 j hj
    rw [(occ j).2 h] at this
    cases this
theorem splitK_slash : ∀ (k : Nat) (l : List UInt8), Lib.count l [47] ≤ k → Lib.splitK [47] 0 k l = partsL l
  | 0, l, h => by
    rcases index_slash l with ⟨_, h2⟩ | ⟨i, h1, _, _⟩
    · rw [partsL_none l h2]; rfl
    · rw [Lib.count_hit (by simp) h1] at h; omega
  | k + 1, l, h => by
    unfold Lib.splitK
    rcases index_slash l with ⟨h1, h2⟩ | ⟨i, h1, h2, h3⟩
    · rw [h1, if_pos (by decide), partsL_none l h2]
    · rw [if_neg (by rw [h1, beq_iff_eq]; omega), h1, Int.toNat_natCast, splitK_slash k _ (by
        rw [Lib.count_hit (by simp) h1] at h
        simp only [List.length_singleton] at h ⊢
        omega), partsL_cut l i h2 h3]
      rfl
theorem split_slash (l : List UInt8) : Lib.split l [47] = partsL l := splitK_slash _ _ (Nat.le_refl _)
/-- "..", "@{" are found just where two such bytes stand side by side. -/
theorem index_two (a b : UInt8) : ∀ (l : List UInt8), (0 ≤ Lib.index l [a, b]) ↔ ∃ i : Nat, l[i]? = some a ∧ l[i + 1]? = some b := by
  intro l
  have occ : ∀ j, Lib.occAt l [a, b] j = true ↔ (l[j]? = some a ∧ l[j + 1]? = some b) := by
    intro j
    unfold Lib.occAt
    rw [List.isPrefixOf_iff_prefix]
    constructor
    · rintro ⟨t, ht⟩
      have h0 : (l.drop j)[0]? = some a := by rw [← ht]; rfl
      have h1 : (l.drop j)[1]? = some b := by rw [← ht]; rfl
      rw [List.getElem?_drop] at h0 h1
      exact ⟨by simpa using h0, h1⟩
    · rintro ⟨h, h'⟩
      have hl := (List.getElem?_eq_some_iff.1 h).1
      have hl' := (List.getElem?_eq_some_iff.1 h').1
      exact ⟨l.drop (j + 1 + 1), by rw [List.drop_eq_getElem_cons hl, (List.getElem?_eq_some_iff.1 h).2, List.drop_eq_getElem_cons hl', (List.getElem?_eq_some_iff.1 h').2]; rfl⟩
  rcases Lib.index_spec l [a, b] with ⟨h1, h2⟩ | ⟨i, h1, h2, h3, h4⟩
  · constructor
    · intro h; omega
    · rintro ⟨i, h5, h6⟩
      have hl := (List.getElem?_eq_some_iff.1 h5).1
      have := h2 i (by omega)
      rw [(occ i).2 ⟨h5, h6⟩] at this
      cases this
  · exact ⟨fun _ => ⟨i, (occ i).1 h3⟩, fun _ => by omega⟩
theorem dotsB_iff : ∀ (l : List UInt8), dotsB l = true ↔ ∃ i : Nat, (l[i]? = some 46 ∧ l[i + 1]? = some 46) ∨ (l[i]? = some 64 ∧ l[i + 1]? = some 123)
  | [] => by simp [dotsB]
  | [a] => by
    simp only [dotsB, Bool.false_eq_true, false_iff, not_exists]
    rintro i (⟨h, h'⟩ | ⟨h, h'⟩) <;> · simp at h'
  | a :: b :: l => by
    rw [dotsB, Bool.or_eq_true, dotsB_iff (b :: l)]
    constructor
    · rintro (h | ⟨i, h⟩)
      · refine ⟨0, ?_⟩
        simpa using h
      · exact ⟨i + 1, by simpa using h⟩
    · rintro ⟨i, h⟩
      cases i with
      | zero => left; simpa using h
      | succ i => right; exact ⟨i, by simpa using h⟩
theorem dots_contains (l : List UInt8) : dotsB l = (Lib.contains l [46, 46] || Lib.contains l [64, 123]) := by
  rw [Bool.eq_iff_iff, dotsB_iff]
  unfold Lib.contains
  rw [Bool.or_eq_true, decide_eq_true_eq, decide_eq_true_eq, index_two, index_two]
  constructor
  · rintro ⟨i, h | h⟩
    · exact .inl ⟨i, h⟩
    · exact .inr ⟨i, h⟩
  · rintro (⟨i, h⟩ | ⟨i, h⟩)
    · exact ⟨i, .inl h⟩
    · exact ⟨i, .inr h⟩

/-- A step of the decoder at a byte from 128 on: the rune is one too, and so are the bytes that it takes. -/
theorem decodeN_high (n b0 b1 b2 b3 : Nat) (h0 : 128 ≤ b0) (hn : 1 ≤ n) :
    128 ≤ (Lib.decodeN n b0 b1 b2 b3).1 ∧ (Lib.decodeN n b0 b1 b2 b3).2 ≤ n ∧ (Lib.decodeN n b0 b1 b2 b3).2 ≤ 4 ∧ (1 < (Lib.decodeN n b0 b1 b2 b3).2 → 128 ≤ b1) ∧ (2 < (Lib.decodeN n b0 b1 b2 b3).2 → 128 ≤ b2) ∧ (3 < (Lib.decodeN n b0 b1 b2 b3).2 → 128 ≤ b3) := by
  unfold Lib.decodeN
  rw [if_neg (by omega)]
  repeat' split
  all_goals (refine ⟨?_, ?_, ?_, ?_, ?_, ?_⟩ <;> simp only [] <;> omega)
/-- U+FFFD is an error's or its own three bytes'. -/
theorem decodeN_err (n b0 b1 b2 b3 : Nat) (h0 : b0 < 256) (h1 : b1 < 256) (h2 : b2 < 256) :
    ((Lib.decodeN n b0 b1 b2 b3).1 = 65533 ∧ (Lib.decodeN n b0 b1 b2 b3).2 = 1) ↔ ((Lib.decodeN n b0 b1 b2 b3).1 = 65533 ∧ (n < 3 ∨ ¬ (b0 = 239 ∧ b1 = 191 ∧ b2 = 189))) := by
  unfold Lib.decodeN
  repeat' split
  all_goals first | (simp only []; omega) | (refine iff_of_true ⟨rfl, rfl⟩ ⟨rfl, ?_⟩; omega)

section
variable (s : ByteArray)
theorem get_toList (i : Nat) (h : i < s.size) : s.data.toList[i]? = some (s.get! i) := by
  have hl : i < s.data.toList.length := by rw [← Lib.size_eq]; exact h
  have := Lib.getD_get!' s i
  rw [List.getD_eq_getElem?_getD, List.getElem?_eq_getElem hl] at this
  rw [List.getElem?_eq_getElem hl]
  simpa using this
theorem decodeL_drop (pos : Nat) : Lib.decodeL (s.data.toList.drop pos) = Utf8.decode s pos := by
  have h := Lib.tail_decode s pos 0
  rw [Nat.add_zero] at h
  rw [← h]
  unfold Lib.decodeL
  congr 1
  rw [← Lib.ext_list, Lib.mk_data]
/-- What the loop over the runes of a name comes to. -/
theorem bad_low (pos : Nat) (h : pos < s.size) (ha : (s.get! pos).toNat < 128) : (s.data.toList.drop pos).any badB = (badB (s.get! pos) || (s.data.toList.drop (pos + (Utf8.decode s pos).2)).any badB) ∧ (Utf8.decode s pos).1 = (s.get! pos).toNat ∧ (Utf8.decode s pos).2 = 1 := by
  have hl : pos < s.data.toList.length := by rw [← Lib.size_eq]; exact h
  have hg := get_toList s pos h
  have hd : Utf8.decode s pos = ((s.get! pos).toNat, 1) := by
    rw [Lib.decode_at]; unfold Lib.decodeN; rw [if_pos ha]
  rw [hd]
  refine ⟨?_, rfl, rfl⟩
  rw [List.drop_eq_getElem_cons hl, List.any_cons, (List.getElem?_eq_some_iff.1 hg).2]
theorem any_skip : ∀ (k : Nat) (l : List UInt8), (∀ j c, j < k → l[j]? = some c → badB c = false) → l.any badB = (l.drop k).any badB
  | 0, _, _ => rfl
  | k + 1, [], _ => rfl
  | k + 1, c :: l, h => by
    rw [List.any_cons, h 0 c (by omega) rfl, Bool.false_or, List.drop_succ_cons]
    exact any_skip k l (fun j c hj hc => h (j + 1) c (by omega) (by simpa using hc))
theorem bad_high (pos : Nat) (h : pos < s.size) (ha : 128 ≤ (s.get! pos).toNat) : (s.data.toList.drop pos).any badB = (s.data.toList.drop (pos + (Utf8.decode s pos).2)).any badB ∧ 128 ≤ (Utf8.decode s pos).1 := by
  have hd := decodeN_high (s.size - pos) (s.get! pos).toNat (s.get! (pos + 1)).toNat (s.get! (pos + 2)).toNat (s.get! (pos + 3)).toNat ha (by omega)
  rw [← Lib.decode_at] at hd
  generalize (Utf8.decode s pos).1 = c at hd ⊢
  generalize (Utf8.decode s pos).2 = m at hd ⊢
  refine ⟨?_, hd.1⟩
  rw [any_skip m]
  · rw [List.drop_drop]
  · intro j c hj hc
    rw [List.getElem?_drop] at hc
    have hlt : pos + j < s.size := by rw [Lib.size_eq]; exact (List.getElem?_eq_some_iff.1 hc).1
    rw [get_toList s (pos + j) hlt] at hc
    injection hc with hc
    subst hc
    apply badB_high
    have : j = 0 ∨ j = 1 ∨ j = 2 ∨ j = 3 := by omega
    rcases this with rfl | rfl | rfl | rfl
    · exact ha
    · exact hd.2.2.2.1 (by omega)
    · exact hd.2.2.2.2.1 (by omega)
    · exact hd.2.2.2.2.2 (by omega)
/-- What the document's loop over the runes comes to. -/
theorem valid_at (pos : Nat) (h : pos < s.size) : Lib.validD (s.data.toList.drop pos) = if (Utf8.decode s pos).1 = 65533 ∧ (s.size - pos < 3 ∨ (s.data.toList.drop pos).take 3 ≠ [239, 191, 189]) then false else Lib.validD (s.data.toList.drop (pos + (Utf8.decode s pos).2)) := by
  have hl : pos < s.data.toList.length := by rw [← Lib.size_eq]; exact h
  rw [Lib.validD_step _ (by intro he; have := congrArg List.length he; rw [List.length_drop] at this; simp at this; omega), decodeL_drop, List.drop_drop]
  have hd := decodeN_err (s.size - pos) (s.get! pos).toNat (s.get! (pos + 1)).toNat (s.get! (pos + 2)).toNat (s.get! (pos + 3)).toNat (UInt8.toNat_lt _) (UInt8.toNat_lt _) (UInt8.toNat_lt _)
  rw [← Lib.decode_at] at hd
  have he : ((Utf8.decode s pos).1 = 65533 ∧ (Utf8.decode s pos).2 = 1) ↔ ((Utf8.decode s pos).1 = 65533 ∧ (s.size - pos < 3 ∨ (s.data.toList.drop pos).take 3 ≠ [239, 191, 189])) := by
    rw [hd]
    refine and_congr_right fun _ => ?_
    by_cases h3 : s.size - pos < 3
    · simp [h3]
    · have e : (s.data.toList.drop pos).take 3 = [s.get! pos, s.get! (pos + 1), s.get! (pos + 2)] := by
        apply List.ext_getElem?
        intro j
        rw [List.getElem?_take]
        by_cases hj : j < 3
        · rw [if_pos hj, List.getElem?_drop, get_toList s (pos + j) (by omega)]
          have : j = 0 ∨ j = 1 ∨ j = 2 := by omega
          rcases this with rfl | rfl | rfl <;> rfl
        · rw [if_neg hj, List.getElem?_eq_none (by simp; omega)]
      rw [e]
      have u : ∀ (x : UInt8) (k : Nat) (hk : k < 256), x.toNat = k ↔ x = UInt8.ofNat k := fun x k hk => by
        constructor
        · rintro rfl; simp
        · rintro rfl; simp [Nat.mod_eq_of_lt hk]
      rw [u _ 239 (by omega), u _ 191 (by omega), u _ 189 (by omega)]
      simp only [h3, false_or, ne_eq, List.cons.injEq, and_true]
      exact Iff.rfl
  by_cases hx : (Utf8.decode s pos).1 = 65533 ∧ (Utf8.decode s pos).2 = 1
  · rw [if_pos hx, if_pos (he.1 hx)]
  · rw [if_neg hx, if_neg (fun h' => hx (he.2 h'))]
theorem valid_end (pos : Nat) (h : ¬ pos < s.size) : Lib.validD (s.data.toList.drop pos) = true := by
  rw [List.drop_eq_nil_of_le (by rw [← Lib.size_eq]; omega)]
  rfl
end
end Go.Proofs.YtbaokenjkbabnaaDoor
