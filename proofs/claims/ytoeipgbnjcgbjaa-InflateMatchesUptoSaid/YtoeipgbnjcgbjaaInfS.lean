/- Inflate, plain laws: what is written by hand in the fixed codes is read as it was. -/
import Derived.Test.YtoeipgbnjcgbjaaInfQ
import Derived.Test.YtoeipgbnjcgbjaaInfG
import Derived.Test.YtoeipgbnjcgbjaaInfW
namespace Go.Proofs.Ytoeipgbnjcgbjaa
open Go.RowKit
set_option linter.unusedVariables false

/-- The bits l stand at p. -/
def BitsAt (bs : List Int) (p : Nat) (l : List Nat) : Prop := p + l.length ≤ 8 * bs.length ∧ ∀ j, j < l.length → bitAt bs (p + j) = ((l.getD j 0 : Nat) : Int)
theorem BitsAt.left {bs : List Int} {p : Nat} {l m : List Nat} (h : BitsAt bs p (l ++ m)) : BitsAt bs p l := by
  have h1 := h.1
  rw [List.length_append] at h1
  refine ⟨by omega, fun j hj => ?_⟩
  rw [h.2 j (by rw [List.length_append]; omega), List.getD_eq_getElem?_getD, List.getElem?_append_left hj, ← List.getD_eq_getElem?_getD]
theorem BitsAt.right {bs : List Int} {p : Nat} {l m : List Nat} (h : BitsAt bs p (l ++ m)) : BitsAt bs (p + l.length) m := by
  have h1 := h.1
  rw [List.length_append] at h1
  refine ⟨by omega, fun j hj => ?_⟩
  rw [Nat.add_assoc, h.2 (l.length + j) (by rw [List.length_append]; omega), List.getD_eq_getElem?_getD, List.getElem?_append_right (by omega), Nat.add_sub_cancel_left, ← List.getD_eq_getElem?_getD]
def wholeChk (xs : List Int) : Bool := decide (xs.length ≤ 400) && xs.all (fun x => decide (0 ≤ x) && decide (x ≤ 15)) && decide (costs xs ≤ 32768)
theorem whole_chk {xs : List Int} (h : wholeChk xs = true) : Whole xs := by
  unfold wholeChk at h
  simp only [Bool.and_eq_true, decide_eq_true_eq] at h
  refine ⟨h.1.1, fun i hi => ?_, h.2⟩
  have := List.all_eq_true.1 h.1.2 (xs.getD i 0) (by rw [List.getD_eq_getElem?_getD, List.getElem?_eq_getElem hi]; exact List.getElem_mem hi)
  simpa using this
theorem fixLit_whole : Whole fixLit := whole_chk (by kernel_rfl)
theorem fixDist_whole : Whole fixDist := whole_chk (by kernel_rfl)
def litCode (i : Nat) : Nat := if i < 144 then 48 + i else if i < 256 then 400 + i - 144 else if i < 280 then i - 256 else i - 88
theorem fixLit_code (i : Nat) (h : i < 288) : codeN fixLit i = litCode i := by
  have e : ((List.range 288).all fun i => decide (codeN fixLit i = litCode i)) = true := by kernel_rfl
  exact of_decide_eq_true (List.all_eq_true.1 e i (List.mem_range.2 h))
theorem fixDist_code (i : Nat) (h : i < 32) : codeN fixDist i = i := by
  have e : ((List.range 32).all fun i => decide (codeN fixDist i = i)) = true := by kernel_rfl
  exact of_decide_eq_true (List.all_eq_true.1 e i (List.mem_range.2 h))
theorem rd_lit {bs : List Int} {p i l c : Nat} (hi : i < 288) (hl : fixLit.getD i 0 = (l : Int)) (hl1 : 1 ≤ l) (hc : litCode i = c) (h : BitsAt bs p (hiBits c l)) : rd fixLit bs 15 0 p = ((i : Int), 0, p + l) := by
  have h1 := h.1
  rw [hiBits_length] at h1
  refine rd_code fixLit_whole (by rw [fixLit_len]; exact hi) hl hl1 h1 (fun j hj => ?_)
  rw [h.2 j (by rw [hiBits_length]; exact hj), hiBits_at hj, fixLit_code i hi, hc]
theorem rd_dist {bs : List Int} {p i : Nat} (hi : i < 32) (h : BitsAt bs p (hiBits i 5)) : rd fixDist bs 15 0 p = ((i : Int), 0, p + 5) := by
  have h1 := h.1
  rw [hiBits_length] at h1
  refine rd_code fixDist_whole (by rw [fixDist_len]; exact hi) (fixDist_at i hi) (by decide) h1 (fun j hj => ?_)
  rw [h.2 j (by rw [hiBits_length]; exact hj), hiBits_at hj, fixDist_code i hi]
/-- A byte's bits, as the laws write them. -/
def litB (c : Nat) : List Nat := if c < 144 then hiBits (48 + c) 8 else hiBits (400 + c - 144) 9
theorem rd_byte {bs : List Int} {p c : Nat} (hc : c < 256) (h : BitsAt bs p (litB c)) : rd fixLit bs 15 0 p = ((c : Int), 0, p + (litB c).length) := by
  unfold litB at h ⊢
  by_cases h1 : c < 144
  · rw [if_pos h1] at h ⊢
    rw [hiBits_length]
    exact rd_lit (by omega) (by rw [fixLit_at c (by omega), if_pos h1]; rfl) (by decide) (by unfold litCode; rw [if_pos h1]) h
  · rw [if_neg h1] at h ⊢
    rw [hiBits_length]
    exact rd_lit (by omega) (by rw [fixLit_at c (by omega), if_neg h1, if_pos hc]; rfl) (by decide) (by unfold litCode; rw [if_neg h1, if_pos hc]) h
def intL (b : List Nat) : List Int := b.map fun (x : Nat) => (x : Int)
theorem coded_bytes {bs : List Int} {most : Nat} : ∀ (b : List Nat) (p f : Nat) (out : List Int), (∀ c ∈ b, c < 256) → BitsAt bs p (b.flatMap litB) → out.length + b.length ≤ most →
    codedM bs most fixLit fixDist (f + b.length) p out = codedM bs most fixLit fixDist f (p + (b.flatMap litB).length) (out ++ intL b) := by
  intro b
  induction b with
  | nil => intro p f out _ _ _; simp [intL]
  | cons c b ih =>
    intro p f out hb h hm
    rw [List.flatMap_cons] at h
    have hc := hb c (by simp)
    have hr := rd_byte hc h.left
    rw [List.length_cons] at hm
    rw [List.length_cons, show f + (b.length + 1) = (f + b.length) + 1 by omega, codedM, hr, if_neg (fun h => h rfl)]
    simp only
    rw [if_pos (by omega), if_neg (by omega), ih (p + (litB c).length) f (out ++ [(c : Int)]) (fun x hx => hb x (by simp [hx])) h.right (by rw [List.length_append, List.length_singleton]; omega)]
    rw [List.flatMap_cons, List.length_append, Nat.add_assoc, List.append_assoc]
    rfl
theorem coded_end {bs : List Int} {most p f : Nat} {out : List Int} (h : BitsAt bs p (hiBits 0 7)) : codedM bs most fixLit fixDist (f + 1) p out = (0, p + 7, out) := by
  have hr := rd_lit (bs := bs) (p := p) (i := 256) (l := 7) (c := 0) (by decide) (by rw [fixLit_at 256 (by decide)]; rfl) (by decide) rfl h
  rw [codedM, hr, if_neg (fun h => h rfl)]
  simp only
  rw [if_neg (by decide), if_pos (by rfl)]
/-- What a match makes. -/
def copyL (d : Nat) : Nat → List Int → List Int
  | 0, out => out
  | n + 1, out => copyL d n (out ++ [out.getD (out.length - d) 0])
theorem copyB_fit (most d : Nat) : ∀ (n : Nat) (out : List Int), out.length + n ≤ most → copyB most d n out = (0, copyL d n out) := by
  intro n
  induction n with
  | zero => intro out _; rfl
  | succ n ih => intro out h; rw [copyB, if_neg (by omega), ih _ (by rw [List.length_append, List.length_singleton]; omega), copyL]
theorem copyL_len (d : Nat) : ∀ (n : Nat) (out : List Int), (copyL d n out).length = out.length + n := by
  intro n
  induction n with
  | zero => intro out; rfl
  | succ n ih => intro out; rw [copyL, ih, List.length_append, List.length_singleton]; omega
theorem coded_match {bs : List Int} {most p f n d : Nat} {out : List Int} (hn : 3 ≤ n ∧ n ≤ 10) (hd : 1 ≤ d ∧ d ≤ 4) (h : BitsAt bs p (hiBits (n - 2) 7 ++ hiBits (d - 1) 5)) (hm : out.length + n ≤ most) :
    codedM bs most fixLit fixDist (f + 1) p out = if out.length < d then (3, p + 12, out) else codedM bs most fixLit fixDist f (p + 12) (copyL d n out) := by
  obtain ⟨i, hi⟩ : ∃ i, 254 + n = i := ⟨_, rfl⟩
  have hfi : fixLit.getD i 0 = ((7 : Nat) : Int) := by rw [fixLit_at i (by omega), if_neg (by omega), if_neg (by omega), if_pos (by omega)]; rfl
  have hli : litCode i = n - 2 := by unfold litCode; rw [if_neg (by omega), if_neg (by omega), if_pos (by omega)]; omega
  have hr := rd_lit (by omega) hfi (by decide) hli h.left
  have h2 := h.right
  rw [hiBits_length] at h2
  have hr2 := rd_dist (by omega) h2
  obtain ⟨k, hk⟩ : ∃ k, d - 1 = k := ⟨_, rfl⟩
  rw [hk] at hr2
  have hM : matchM bs most fixDist (i : Int) (p + 7) out = if out.length < d then (3, p + 12, out) else (0, p + 12, copyL d n out) := by
    unfold matchM
    have e1 : lenE bs (i : Int) (p + 7) = some ((n : Int), p + 7) := by
      unfold lenE
      rw [if_pos (by omega), show (i : Int) - 254 = (n : Int) by omega]
    rw [e1]
    simp only
    rw [hr2, if_neg (fun h => h rfl)]
    simp only
    rw [if_neg (by omega)]
    have e2 : distE bs (k : Int) (p + 7 + 5) = some ((d : Int), p + 12) := by
      unfold distE
      rw [if_pos (by omega), show (k : Int) + 1 = (d : Int) by omega]
    rw [e2]
    simp only
    by_cases c : out.length < d
    · rw [if_pos (by omega), if_pos c]
    · rw [if_neg (by omega), if_neg c, Int.toNat_natCast, Int.toNat_natCast, copyB_fit most d n out hm]
  rw [codedM, hr, if_neg (fun h => h rfl)]
  simp only
  rw [if_neg (by omega), if_neg (by omega), if_neg (by omega), hM]
  by_cases c : out.length < d
  · simp only [if_pos c]
    rw [if_pos (show (3 : Int) ≠ 0 by decide)]
  · simp only [if_neg c]
    rw [if_neg (fun h => h rfl)]
theorem fix_head {bs : List Int} (h : BitsAt bs 0 (loBits 3 3)) : takeN bs 0 1 = 1 ∧ takeN bs 1 2 = 1 ∧ 3 ≤ 8 * bs.length := by
  have h0 := h.2 0 (by decide)
  have h1 := h.2 1 (by decide)
  have h2 := h.2 2 (by decide)
  have hl := h.1
  rw [loBits_length] at hl
  refine ⟨by rw [takeN_one]; exact h0, ?_, by omega⟩
  have : takeN bs 1 2 = bitAt bs 1 + bitAt bs 2 * 2 := by simp [takeN]
  rw [this]
  have e1 : bitAt bs 1 = 1 := h1
  have e2 : bitAt bs 2 = 0 := h2
  rw [e1, e2]
  rfl
/-- All: one block of the fixed codes. -/
theorem fix_inf {bs : List Int} {F most : Nat} (h : BitsAt bs 0 (loBits 3 3)) (hF : 0 < F) : infM F bs most = if (codedM bs most fixLit fixDist F 3 []).1 ≠ 0 then ((codedM bs most fixLit fixDist F 3 []).1, 0, []) else (0, ((codedM bs most fixLit fixDist F 3 []).2.1 + 7) / 8, (codedM bs most fixLit fixDist F 3 []).2.2) := by
  obtain ⟨h1, h2, h3⟩ := fix_head h
  obtain ⟨f, rfl⟩ : ∃ f, F = f + 1 := ⟨F - 1, by omega⟩
  have hr : rawM (f + 1) bs most (f + 1) 0 [] = codedM bs most fixLit fixDist (f + 1) 3 [] := by
    rw [rawM, if_neg (by omega), h2, if_neg (by decide), h1, if_pos rfl]
    have hb : blockM (f + 1) bs most 1 (0 + 3) [] = codedM bs most fixLit fixDist (f + 1) 3 [] := by unfold blockM; rw [if_neg (by decide), if_pos rfl]
    rw [hb]
    split <;> rfl
  unfold infM
  rw [hr]
theorem fixed_inf {bs : List Int} {F : Nat} {b : List Nat} (hb : ∀ c ∈ b, c < 256) (h : BitsAt bs 0 (loBits 3 3 ++ (b.flatMap litB ++ hiBits 0 7))) (hF : b.length < F) :
    infM F bs b.length = (0, ((loBits 3 3 ++ (b.flatMap litB ++ hiBits 0 7)).length + 7) / 8, intL b) := by
  rw [fix_inf h.left (by omega)]
  obtain ⟨f, rfl⟩ : ∃ f, F = (f + 1) + b.length := ⟨F - b.length - 1, by omega⟩
  have hr := h.right
  rw [loBits_length, Nat.zero_add] at hr
  have hc := coded_bytes (most := b.length) b 3 (f + 1) [] hb hr.left (by simp)
  have he := coded_end (most := b.length) (f := f) (out := [] ++ intL b) hr.right
  rw [hc, he, if_neg (fun h => h rfl), List.nil_append]
  simp only [List.length_append, loBits_length, hiBits_length]
  congr 2
  try omega
theorem match_inf {bs : List Int} {F n d : Nat} {b : List Nat} (hb : ∀ c ∈ b, c < 256) (hbl : b.length ≤ 100) (hn : 3 ≤ n ∧ n ≤ 10) (hd : 1 ≤ d ∧ d ≤ 4) (h : BitsAt bs 0 (loBits 3 3 ++ (b.flatMap litB ++ ((hiBits (n - 2) 7 ++ hiBits (d - 1) 5) ++ hiBits 0 7)))) (hF : b.length + 2 ≤ F) :
    (b.length < d → infM F bs 1000 = (3, 0, [])) ∧ (d ≤ b.length → ∃ u, infM F bs 1000 = (0, u, copyL d n (intL b))) := by
  rw [fix_inf h.left (by omega)]
  obtain ⟨f, rfl⟩ : ∃ f, F = (f + 1 + 1) + b.length := ⟨F - b.length - 2, by omega⟩
  have hr := h.right
  rw [loBits_length, Nat.zero_add] at hr
  have hc := coded_bytes (most := 1000) b 3 (f + 1 + 1) [] hb hr.left (by simp; omega)
  have hil : (intL b).length = b.length := by simp [intL]
  have hm := coded_match (most := 1000) (f := f + 1) (out := [] ++ intL b) hn hd hr.right.left (by simp [hil]; omega)
  rw [hc, hm, List.nil_append, hil]
  refine ⟨fun h1 => ?_, fun h1 => ?_⟩
  · simp only [if_pos h1]
    rw [if_pos (show (3 : Int) ≠ 0 by decide)]
  · simp only [if_neg (show ¬ b.length < d by omega)]
    have he := coded_end (most := 1000) (f := f) (out := copyL d n (intL b)) (by have := hr.right.right; rwa [List.length_append, hiBits_length, hiBits_length] at this)
    rw [he, if_neg (fun h => h rfl)]
    exact ⟨_, rfl⟩
/-- The writer's bytes. -/
theorem holds_bits {B r ws : List Nat} (h : Holds B r ws) : BitsAt (intL (bytesB B r)) 0 ws ∧ (bytesB B r).length = (ws.length + 7) / 8 ∧ ∀ x ∈ bytesB B r, x < 256 := by
  obtain ⟨h1, h2, h3⟩ := h.at_
  have hl := h.len
  have h8 := h.r8
  have hL : (bytesB B r).length = (ws.length + 7) / 8 := by
    unfold bytesB
    by_cases hr : r = []
    · rw [if_pos hr]; subst hr; simp at hl; omega
    · rw [if_neg hr, List.length_append, List.length_singleton]
      have := List.length_pos_iff.2 hr
      omega
  refine ⟨⟨by simp [intL]; omega, fun j hj => ?_⟩, hL, h2⟩
  rw [Nat.zero_add]
  unfold intL
  rw [bitAt_nat, h3 j hj]
end Go.Proofs.Ytoeipgbnjcgbjaa
