/- FsApart in plain words: all names are names that may be; what is listed may be read. -/
import Derived.Test.YtmoaabjiokjjlaaFsP
namespace Go.Proofs.Ytmoaabjiokjjlaa
open Go.Maps Go.WideShapes
set_option linter.unusedVariables false
set_option linter.unusedSimpArgs false

def chOk : Ch → Prop
  | .create n _ => okN n = true
  | .rename _ b _ => okN b = true
  | .remove _ => True
/-- All names may be. -/
structure Nok (S : Fs) : Prop where
  last : ∀ p ∈ S.last, okN p.1 = true
  wait : ∀ c ∈ S.wait, chOk c
theorem applyC_nok {l : Ns} {c : Ch} (h : ∀ p ∈ l, okN p.1 = true) (hc : chOk c) : ∀ p ∈ applyC l c, okN p.1 = true := by
  intro p hp
  cases c with
  | create n f =>
    rcases putN_mem.1 hp with rfl | ⟨h1, _⟩
    · exact hc
    · exact h p h1
  | rename a b f =>
    rcases putN_mem.1 (delN_mem.1 hp).1 with rfl | ⟨h1, _⟩
    · exact hc
    · exact h p h1
  | remove n => exact h p (delN_mem.1 hp).1
theorem repl_nok : ∀ {W : List Ch} {l : Ns}, (∀ p ∈ l, okN p.1 = true) → (∀ c ∈ W, chOk c) → ∀ p ∈ repl l W, okN p.1 = true
  | [], _, h, _ => h
  | c :: W, l, h, hc => repl_nok (W := W) (l := applyC l c) (applyC_nok h (hc c (by simp))) (fun d hd => hc d (by simp [hd]))
theorem Nok.now {N M : Nat} {S : Fs} (h : Nok S) (hI : Inv N M S) : ∀ p ∈ S.now, okN p.1 = true := by rw [hI.now]; exact repl_nok h.last h.wait
theorem Nok.new (q : Int) : Nok (newF q) := ⟨fun p hp => (by cases hp), fun c hc => (by cases hc)⟩
theorem Nok.burn {S : Fs} (h : Nok S) : Nok (burnF S) := ⟨h.last, h.wait⟩
theorem Nok.change {S : Fs} {c : Ch} (h : Nok S) (hc : chOk c) : Nok (changeF S c) := ⟨h.last, fun d hd => by
  rcases List.mem_append.1 hd with hd | hd
  · exact h.wait d hd
  · rw [List.mem_singleton.1 hd]; exact hc⟩
theorem Nok.files {S : Fs} (h : Nok S) (f : List Fl) : Nok { S with files := f } := ⟨h.last, h.wait⟩
theorem named_ok {S : Fs} {l : List Nm} (h : namedF S l = 0) : ∀ n ∈ l, okN n = true := by
  unfold namedF at h
  split at h
  · cases h
  · split at h
    · next h2 => exact fun n hn => List.all_eq_true.1 h2 n hn
    · cases h
theorem Nok.create {S : Fs} (h : Nok S) (n : Nm) : Nok (createF S n).2 := by
  unfold createF
  split
  · exact h
  · next h1 =>
    split
    · exact h
    · split
      · exact h.burn
      · exact (h.burn.files _).change (named_ok (by simpa using h1) n (by simp))
theorem Nok.modF {S : Fs} (h : Nok S) (n : Nm) (g : Fl → Fl) : Nok (modF S n g) := by
  unfold Ytmoaabjiokjjlaa.modF
  split
  · exact h
  · exact h.files _
theorem Nok.append {S : Fs} (h : Nok S) (n : Nm) (x : List Int) : Nok (appendF S n x).2 := by
  unfold appendF
  split
  · exact h
  · split
    · exact h
    · split
      · exact h.burn
      · exact h.burn.modF _ _
theorem Nok.sync {S : Fs} (h : Nok S) (n : Nm) : Nok (syncF S n).2 := by
  unfold syncF
  split
  · exact h
  · split
    · exact h.burn
    · exact h.burn.modF _ _
theorem Nok.rename {S : Fs} (h : Nok S) (a b : Nm) : Nok (renameF S a b).2 := by
  unfold renameF
  split
  · exact h
  · next h1 =>
    split
    · exact h
    · split
      · exact h.burn
      · split
        · exact h.burn
        · exact h.burn.change (named_ok (by simpa using h1) b (by simp))
theorem Nok.remove {S : Fs} (h : Nok S) (n : Nm) : Nok (removeF S n).2 := by
  unfold removeF
  split
  · exact h
  · split
    · exact h.burn
    · exact h.burn.change trivial
theorem Nok.syncNames {N M : Nat} {S : Fs} (h : Nok S) (hI : Inv N M S) : Nok (syncNamesF S).2 := by
  unfold syncNamesF
  split
  · exact h
  · split
    · exact h.burn
    · exact ⟨h.now hI, fun c hc => (by cases hc)⟩
theorem Nok.crash {S : Fs} (h : Nok S) (k : Int) (D : List Int) : Nok (crashF S k D) :=
  ⟨repl_nok h.last (fun c hc => h.wait c (List.mem_of_mem_take hc)), fun c hc => (by cases hc)⟩
/-- What is listed may be read. -/
theorem list_of {N M : Nat} {S : Fs} (h : Nok S) (hI : Inv N M S) {n : Nm} (hn : n ∈ listF S []) : ofF S n = 0 := by
  unfold listF at hn
  cases hd : S.dead
  · rw [hd] at hn
    simp only [Bool.false_eq_true, if_false] at hn
    obtain ⟨p, hp, rfl⟩ := List.mem_map.1 (List.mem_filter.1 hn).1
    have ho := h.now hI p hp
    have hg : getN S.now p.1 = some p.2 := (getN_some hI.upNow).2 hp
    unfold ofF namedF
    rw [hd]
    simp [ho, hg]
  · rw [hd] at hn
    simp at hn
end Go.Proofs.Ytmoaabjiokjjlaa
