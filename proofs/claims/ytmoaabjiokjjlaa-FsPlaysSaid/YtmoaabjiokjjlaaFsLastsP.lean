/- FsLasts, in plain words: what was synced under a name that was synced stays. -/
import Derived.Test.YtmoaabjiokjjlaaFsP
namespace Go.Proofs.Ytmoaabjiokjjlaa
open Go.Maps Go.WideShapes
set_option linter.unusedVariables false
set_option linter.unusedSimpArgs false

section
variable (own : Nm) (x : Fl)
/-- The name is the file 0's, and no other name is. -/
def GoodN (l : Ns) : Prop := getN l own = some 0 ∧ ∀ p ∈ l, p.2 = 0 → p.1 = own
def safeC : Ch → Prop
  | .create n f => n ≠ own ∧ f ≠ 0
  | .rename a b f => a ≠ own ∧ b ≠ own ∧ f ≠ 0
  | .remove n => n ≠ own
theorem GoodN.apply {l : Ns} {c : Ch} (hu : Up l) (h : GoodN own l) (hc : safeC own c) : GoodN own (applyC l c) := by
  cases c with
  | create n f =>
    refine ⟨?_, fun p hp h0 => ?_⟩
    · show getN (putN l n f) own = some 0
      rw [getN_put hu, if_neg (Ne.symm hc.1)]; exact h.1
    · rcases putN_mem.1 hp with rfl | ⟨h1, _⟩
      · exact absurd h0 hc.2
      · exact h.2 p h1 h0
  | rename a b f =>
    refine ⟨?_, fun p hp h0 => ?_⟩
    · show getN (delN (putN l b f) a) own = some 0
      rw [getN_del (putN_up hu b f), if_neg (Ne.symm hc.1), getN_put hu, if_neg (Ne.symm hc.2.1)]; exact h.1
    · rcases putN_mem.1 (delN_mem.1 hp).1 with rfl | ⟨h1, _⟩
      · exact absurd h0 hc.2.2
      · exact h.2 p h1 h0
  | remove n =>
    refine ⟨?_, fun p hp h0 => h.2 p (delN_mem.1 hp).1 h0⟩
    show getN (delN l n) own = some 0
    rw [getN_del hu, if_neg (Ne.symm hc)]; exact h.1
theorem GoodN.repl : ∀ {W : List Ch} {l : Ns}, Up l → GoodN own l → (∀ c ∈ W, safeC own c) → GoodN own (repl l W)
  | [], _, _, h, _ => h
  | c :: W, l, hu, h, hW => GoodN.repl (W := W) (l := applyC l c) (applyC_up hu c) (h.apply own hu (hW c (by simp))) (fun c' hc' => hW c' (by simp [hc']))
structure Lasts (S : Fs) : Prop where
  last : GoodN own S.last
  safe : ∀ c ∈ S.wait, safeC own c
  file : S.files[0]? = some x
  whole : x.s = x.b.length
  live : S.dead = false
  fus : S.fuse = -1
variable {own x}
theorem Lasts.now {N M : Nat} {S : Fs} (h : Lasts own x S) (hI : Inv N M S) : GoodN own S.now := by rw [hI.now]; exact h.last.repl own hI.up h.safe
theorem burn_live {S : Fs} (h : S.fuse = -1) : burnOk S = true ∧ burnF S = S := by
  refine ⟨by unfold burnOk; rw [h]; rfl, ?_⟩
  unfold burnF
  rw [h]
  obtain ⟨q, f, n, l, wt, fu, d⟩ := S
  simp at h
  subst h
  rfl
theorem Lasts.change {S : Fs} {c : Ch} (h : Lasts own x S) (hc : safeC own c) : Lasts own x (changeF S c) :=
  ⟨h.last, fun d hd => by
    rcases List.mem_append.1 hd with hd | hd
    · exact h.safe d hd
    · rw [List.mem_singleton.1 hd]; exact hc, h.file, h.whole, h.live, h.fus⟩
theorem Lasts.create {N M : Nat} {S : Fs} (h : Lasts own x S) (hI : Inv N M S) {n : Nm} (hn : n ≠ own) : Lasts own x (createF S n).2 := by
  unfold createF
  rw [(burn_live h.fus).1, (burn_live h.fus).2]
  split
  · exact h
  · split
    · exact h
    · rw [if_neg (by decide)]
      have hl : 0 < S.files.length := (List.getElem?_eq_some_iff.1 h.file).1
      refine ⟨h.last, fun d hd => ?_, ?_, h.whole, h.live, h.fus⟩
      · rcases List.mem_append.1 hd with hd | hd
        · exact h.safe d hd
        · rw [List.mem_singleton.1 hd]
          exact ⟨hn, by omega⟩
      · show (S.files ++ [_])[0]? = some x
        rw [List.getElem?_append_left hl]; exact h.file
theorem Lasts.mod {N M : Nat} {S : Fs} (h : Lasts own x S) (hI : Inv N M S) {n : Nm} (hn : n ≠ own) (g : Fl → Fl) : Lasts own x (modF S n g) := by
  unfold modF
  split
  · exact h
  · rename_i i hg
    have hi : i ≠ 0 := fun e => by
      subst e
      exact hn ((h.now hI).2 _ ((getN_some hI.upNow).1 hg) rfl)
    refine ⟨h.last, h.safe, ?_, h.whole, h.live, h.fus⟩
    show (S.files.modify i g)[0]? = some x
    rw [List.getElem?_modify]
    simpa [hi] using h.file
theorem Lasts.append {N M : Nat} {S : Fs} (h : Lasts own x S) (hI : Inv N M S) {n : Nm} (hn : n ≠ own) (b : List Int) : Lasts own x (appendF S n b).2 := by
  unfold appendF
  rw [(burn_live h.fus).1, (burn_live h.fus).2]
  split
  · exact h
  · split
    · exact h
    · rw [if_neg (by decide)]
      exact h.mod hI hn _
theorem Lasts.sync {N M : Nat} {S : Fs} (h : Lasts own x S) (hI : Inv N M S) {n : Nm} (hn : n ≠ own) : Lasts own x (syncF S n).2 := by
  unfold syncF
  rw [(burn_live h.fus).1, (burn_live h.fus).2]
  split
  · exact h
  · rw [if_neg (by decide)]
    exact h.mod hI hn _
theorem Lasts.rename {N M : Nat} {S : Fs} (h : Lasts own x S) (hI : Inv N M S) {a b : Nm} (ha : a ≠ own) (hb : b ≠ own) : Lasts own x (renameF S a b).2 := by
  unfold renameF
  rw [(burn_live h.fus).1, (burn_live h.fus).2]
  split
  · exact h
  · split
    · exact h
    · rename_i f hg
      rw [if_neg (by decide)]
      split
      · exact h
      · refine h.change ⟨ha, hb, fun e => ?_⟩
        subst e
        exact ha ((h.now hI).2 _ ((getN_some hI.upNow).1 hg) rfl)
theorem Lasts.remove {S : Fs} (h : Lasts own x S) {n : Nm} (hn : n ≠ own) : Lasts own x (removeF S n).2 := by
  unfold removeF
  rw [(burn_live h.fus).1, (burn_live h.fus).2]
  split
  · exact h
  · rw [if_neg (by decide)]
    exact h.change hn
theorem cut_whole (D : List Int) (i : Nat) (h : x.s = x.b.length) : cutF D i x = x := by
  have hk : keepF D i x = 0 := by
    unfold keepF
    split
    · rfl
    · omega
  unfold cutF
  rw [hk, Nat.add_zero, h, List.take_length, ← h]
theorem cuts_whole (D : List Int) (h : x.s = x.b.length) : ∀ (l : Ns) (i : Nat) (F : List Fl), F[0]? = some x → (cutsF D i l F)[0]? = some x
  | [], _, _, h0 => h0
  | p :: r, i, F, h0 => by
    rw [cutsF]
    refine cuts_whole D h r (i + 1) _ ?_
    rw [List.getElem?_modify]
    split
    · rename_i e
      rw [h0]
      simp [cut_whole D i h]
    · simpa using h0
theorem Lasts.crash {N M : Nat} {S : Fs} (h : Lasts own x S) (hI : Inv N M S) (k : Int) (D : List Int) : Lasts own x (crashF S k D) := by
  refine ⟨?_, (fun c hc => by cases hc), ?_, h.whole, rfl, rfl⟩
  · exact h.last.repl own hI.up (fun c hc => h.safe c (List.mem_of_mem_take hc))
  · exact cuts_whole D h.whole _ 0 _ h.file
theorem Lasts.read {N M : Nat} {S : Fs} (h : Lasts own x S) (hI : Inv N M S) (ho : okN own = true) : ofF S own = 0 ∧ bytesF S own = x.b := by
  have hg := (h.now hI).1
  constructor
  · unfold ofF namedF
    rw [h.live, hg]
    simp [ho]
  · unfold bytesF
    rw [hg]
    simp [h.file]
end
/-- The beginning: the file is made, written, synced, its name synced. -/
theorem lasts_start {own : Nm} (ho : okN own = true) (data : List Int) (q : Int) (hq : (data.length : Int) ≤ q) :
    ∃ S1 S2 S3 S4, createF (newF q) own = (0, S1) ∧ appendF S1 own data = (0, S2) ∧ syncF S2 own = (0, S3) ∧ syncNamesF S3 = (0, S4) ∧ Lasts own ⟨data, data.length⟩ S4 := by
  refine ⟨⟨q, [⟨[], 0⟩], [(own, 0)], [], [.create own 0], -1, false⟩, ⟨q, [⟨data, 0⟩], [(own, 0)], [], [.create own 0], -1, false⟩, ⟨q, [⟨data, data.length⟩], [(own, 0)], [], [.create own 0], -1, false⟩, ⟨q, [⟨data, data.length⟩], [(own, 0)], [(own, 0)], [], -1, false⟩, ?_, ?_, ?_, ?_, ?_⟩
  · simp [createF, newF, namedF, ho, getN, burnOk, burnF, changeF, applyC, putN, delN, insN] <;> rfl
  · have hq' : ¬ (data.length : Int) > q := by omega
    simp [appendF, ofF, namedF, ho, getN, burnOk, burnF, usedF, lenF, modF, hq'] <;> rfl
  · simp [syncF, ofF, namedF, ho, getN, burnOk, burnF, modF] <;> rfl
  · simp [syncNamesF, burnOk, burnF] <;> rfl
  · refine ⟨⟨by simp [getN], ?_⟩, by simp, rfl, rfl, rfl, rfl⟩
    intro p hp _
    simp at hp
    rw [hp]
end Go.Proofs.Ytmoaabjiokjjlaa
