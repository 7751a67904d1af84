/- FsRenames, in plain words: written beside, synced, renamed: the old one or the new one. -/
import Derived.Test.YtmoaabjiokjjlaaFsLastsP
namespace Go.Proofs.Ytmoaabjiokjjlaa
open Go.Maps Go.WideShapes
set_option linter.unusedVariables false
set_option linter.unusedSimpArgs false

def itN : Nm := [105, 116]
def tmpN : Nm := [116, 109, 112]
def seqF (r : Int × Fs) (k : Fs → Int × Fs) : Int × Fs := if r.1 = 0 then k r.2 else r
def putF (S : Fs) (b : List Int) : Int × Fs :=
  seqF (seqF (seqF (seqF (createF S tmpN) fun S => appendF S tmpN b) fun S => syncF S tmpN) fun S => renameF S tmpN itN) syncNamesF
theorem cuts_at (D : List Int) {x : Fl} {j : Nat} (h : x.s = x.b.length) : ∀ (l : Ns) (i : Nat) (F : List Fl), F[j]? = some x → (cutsF D i l F)[j]? = some x
  | [], _, _, h0 => h0
  | p :: r, i, F, h0 => by
    rw [cutsF]
    refine cuts_at D h r (i + 1) _ ?_
    rw [List.getElem?_modify]
    by_cases e : p.2 = j
    · rw [h0]
      simp [e, cut_whole D i h]
    · simpa [e] using h0
theorem crash_read {S : Fs} {k : Int} {D : List Int} {n : Nm} {i : Nat} {x : Fl} (hn : okN n = true) (hg : getN (repl S.last (S.wait.take (min (max k 0) S.wait.length).toNat)) n = some i) (hx : S.files[i]? = some x) (hw : x.s = x.b.length) :
    ofF (crashF S k D) n = 0 ∧ bytesF (crashF S k D) n = x.b := by
  have hg' : getN (crashF S k D).now n = some i := hg
  constructor
  · unfold ofF namedF
    rw [hg', show (crashF S k D).dead = false from rfl]
    simp [hn]
  · unfold bytesF
    rw [hg']
    show (((cutsF D 0 _ S.files)[i]?).map Fl.b).getD [] = _
    rw [cuts_at D hw _ 0 _ hx]
    rfl
section
variable (q : Int) (old new : List Int)
def renS (f : Int) : Fs := ⟨q, [⟨old, old.length⟩], [(itN, 0)], [(itN, 0)], [], f, false⟩
theorem put_old (h : (old.length : Int) ≤ q) : putF (newF q) old = (0, renS q old (-1)) := by
  have hq' : ¬ (old.length : Int) > q := by omega
  have s1 : createF (newF q) tmpN = (0, ⟨q, [⟨[], 0⟩], [(tmpN, 0)], [], [.create tmpN 0], -1, false⟩) := by simp [createF, newF, namedF, getN, burnOk, burnF, changeF, applyC, putN, delN, insN, show okN tmpN = true by decide] <;> rfl
  have s2 : appendF ⟨q, [⟨[], 0⟩], [(tmpN, 0)], [], [.create tmpN 0], -1, false⟩ tmpN old = (0, ⟨q, [⟨old, 0⟩], [(tmpN, 0)], [], [.create tmpN 0], -1, false⟩) := by simp [appendF, ofF, namedF, getN, burnOk, burnF, usedF, lenF, modF, hq', show okN tmpN = true by decide] <;> rfl
  have s3 : syncF ⟨q, [⟨old, 0⟩], [(tmpN, 0)], [], [.create tmpN 0], -1, false⟩ tmpN = (0, ⟨q, [⟨old, old.length⟩], [(tmpN, 0)], [], [.create tmpN 0], -1, false⟩) := by simp [syncF, ofF, namedF, getN, burnOk, burnF, modF, show okN tmpN = true by decide] <;> rfl
  have s4 : renameF ⟨q, [⟨old, old.length⟩], [(tmpN, 0)], [], [.create tmpN 0], -1, false⟩ tmpN itN = (0, ⟨q, [⟨old, old.length⟩], [(itN, 0)], [], [.create tmpN 0, .rename tmpN itN 0], -1, false⟩) := by
    simp [renameF, namedF, getN, burnOk, burnF, changeF, applyC, putN, delN, insN, tmpN, itN, show okN [116, 109, 112] = true by decide, show okN [105, 116] = true by decide, show bytesBefore [105, 116] [116, 109, 112] = true by decide] <;> rfl
  have s5 : syncNamesF ⟨q, [⟨old, old.length⟩], [(itN, 0)], [], [.create tmpN 0, .rename tmpN itN 0], -1, false⟩ = (0, renS q old (-1)) := by simp [syncNamesF, burnOk, burnF, renS] <;> rfl
  unfold putF
  rw [s1]; simp only [seqF, if_pos]
  rw [s2]; simp only [if_pos]
  rw [s3]; simp only [if_pos]
  rw [s4]; simp only [if_pos]
  rw [s5]
theorem mx {f : Int} (h : -1 ≤ f) (h0 : f ≠ 0) : max (f - 1) (-1) = if f = -1 then -1 else f - 1 := by split <;> omega
def dn (f : Int) : Int := if f = -1 then -1 else f - 1
theorem dn_ge {f : Int} (h : -1 ≤ f) (h0 : f ≠ 0) : -1 ≤ dn f := by unfold dn; split <;> omega
theorem burn_dn {S : Fs} (h : -1 ≤ S.fuse) (h0 : S.fuse ≠ 0) : burnOk S = true ∧ burnF S = { S with fuse := dn S.fuse } := by
  refine ⟨by unfold burnOk; simp [h0], ?_⟩
  unfold burnF dn
  rw [if_neg h0, if_neg h0, mx h h0]
theorem burn_0 {S : Fs} (h0 : S.fuse = 0) : burnOk S = false ∧ burnF S = { S with dead := true } := by
  refine ⟨by unfold burnOk; simp [h0], ?_⟩
  unfold burnF
  rw [if_pos h0, if_pos h0]
  obtain ⟨q, f, n, l, wt, fu, d⟩ := S
  simp at h0
  subst h0
  rfl
def SA (f : Int) (d : Bool) : Fs := ⟨q, [⟨old, old.length⟩], [(itN, 0)], [(itN, 0)], [], f, d⟩
def SB (f : Int) (d : Bool) : Fs := ⟨q, [⟨old, old.length⟩, ⟨[], 0⟩], [(itN, 0), (tmpN, 1)], [(itN, 0)], [.create tmpN 1], f, d⟩
def SC (f : Int) (d : Bool) : Fs := ⟨q, [⟨old, old.length⟩, ⟨new, 0⟩], [(itN, 0), (tmpN, 1)], [(itN, 0)], [.create tmpN 1], f, d⟩
def SD (f : Int) (d : Bool) : Fs := ⟨q, [⟨old, old.length⟩, ⟨new, new.length⟩], [(itN, 0), (tmpN, 1)], [(itN, 0)], [.create tmpN 1], f, d⟩
def SE (f : Int) (d : Bool) : Fs := ⟨q, [⟨old, old.length⟩, ⟨new, new.length⟩], [(itN, 1)], [(itN, 0)], [.create tmpN 1, .rename tmpN itN 1], f, d⟩
def SF (f : Int) (d : Bool) : Fs := ⟨q, [⟨old, old.length⟩, ⟨new, new.length⟩], [(itN, 1)], [(itN, 1)], [], f, d⟩
theorem stepA {f : Int} (h : -1 ≤ f) : createF (SA q old f false) tmpN = if f = 0 then (50, SA q old 0 true) else (0, SB q old (dn f) false) := by
  have h1 : namedF (SA q old f false) [tmpN] = 0 := by simp [namedF, SA, show okN tmpN = true by decide]
  have h2 : getN (SA q old f false).now tmpN = none := rfl
  unfold createF
  rw [h1, if_neg (by decide), h2, if_neg (by decide)]
  by_cases e : f = 0
  · subst e
    rw [if_pos rfl, (burn_0 rfl).1, if_pos rfl, (burn_0 rfl).2]; rfl
  · rw [if_neg e, (burn_dn h e).1, if_neg (by decide), (burn_dn h e).2]; rfl
theorem stepB {f : Int} (h : -1 ≤ f) (hq : (old.length + new.length : Int) ≤ q) : appendF (SB q old f false) tmpN new = if f = 0 then (50, SB q old 0 true) else (0, SC q old new (dn f) false) := by
  have h1 : ofF (SB q old f false) tmpN = 0 := by
    have : getN (SB q old f false).now tmpN = some 1 := rfl
    simp only [ofF, this]
    simp [namedF, SB, show okN tmpN = true by decide]
  have h2 : usedF (SB q old f false) = old.length := by simp [usedF, SB, lenF]
  have h3 : ¬ (new.length : Int) > (SB q old f false).quota - usedF (SB q old f false) := by rw [h2]; show ¬ (new.length : Int) > q - old.length; omega
  unfold appendF
  rw [h1, if_neg (by decide), if_neg h3]
  by_cases e : f = 0
  · subst e
    rw [if_pos rfl, (burn_0 rfl).1, if_pos rfl, (burn_0 rfl).2]; rfl
  · rw [if_neg e, (burn_dn h e).1, if_neg (by decide), (burn_dn h e).2]
    rfl
theorem stepC {f : Int} (h : -1 ≤ f) : syncF (SC q old new f false) tmpN = if f = 0 then (50, SC q old new 0 true) else (0, SD q old new (dn f) false) := by
  have h1 : ofF (SC q old new f false) tmpN = 0 := by
    have : getN (SC q old new f false).now tmpN = some 1 := rfl
    simp only [ofF, this]
    simp [namedF, SC, show okN tmpN = true by decide]
  unfold syncF
  rw [h1, if_neg (by decide)]
  by_cases e : f = 0
  · subst e
    rw [if_pos rfl, (burn_0 rfl).1, if_pos rfl, (burn_0 rfl).2]; rfl
  · rw [if_neg e, (burn_dn h e).1, if_neg (by decide), (burn_dn h e).2]
    rfl
theorem stepD {f : Int} (h : -1 ≤ f) : renameF (SD q old new f false) tmpN itN = if f = 0 then (50, SD q old new 0 true) else (0, SE q old new (dn f) false) := by
  have h1 : namedF (SD q old new f false) [tmpN, itN] = 0 := by simp [namedF, SD, show okN tmpN = true by decide, show okN itN = true by decide]
  have h2 : getN (SD q old new f false).now tmpN = some 1 := rfl
  unfold renameF
  rw [h1, if_neg (by decide), h2]
  simp only
  by_cases e : f = 0
  · subst e
    rw [if_pos rfl, (burn_0 rfl).1, if_pos rfl, (burn_0 rfl).2]; rfl
  · rw [if_neg e, (burn_dn h e).1, if_neg (by decide), if_neg (by decide), (burn_dn h e).2]; rfl
theorem stepE {f : Int} (h : -1 ≤ f) : syncNamesF (SE q old new f false) = if f = 0 then (50, SE q old new 0 true) else (0, SF q old new (dn f) false) := by
  unfold syncNamesF
  rw [show (SE q old new f false).dead = false from rfl, if_neg (by decide)]
  by_cases e : f = 0
  · subst e
    rw [if_pos rfl, (burn_0 rfl).1, if_pos rfl, (burn_0 rfl).2]; rfl
  · rw [if_neg e, (burn_dn h e).1, if_neg (by decide), (burn_dn h e).2]; rfl
/-- How the second writing ends. -/
inductive RenEnd : Int × Fs → Prop
  | a (f) (d) : RenEnd (50, SA q old f d)
  | b (f) (d) : RenEnd (50, SB q old f d)
  | c (f) (d) : RenEnd (50, SC q old new f d)
  | d (f) (d) : RenEnd (50, SD q old new f d)
  | e (f) (d) : RenEnd (50, SE q old new f d)
  | f (f) (d) : RenEnd (0, SF q old new f d)
theorem put_new {f : Int} (h : -1 ≤ f) (hq : (old.length + new.length : Int) ≤ q) : RenEnd q old new (putF (SA q old f false) new) := by
  unfold putF
  rw [stepA q old h]
  by_cases e : f = 0
  · rw [if_pos e]; exact .a _ _
  · rw [if_neg e]
    have h1 := dn_ge h e
    simp only [seqF, if_pos]
    rw [stepB q old new h1 hq]
    by_cases e1 : dn f = 0
    · rw [if_pos e1]; exact .b _ _
    · rw [if_neg e1]
      have h2 := dn_ge h1 e1
      simp only [if_pos]
      rw [stepC q old new h2]
      by_cases e2 : dn (dn f) = 0
      · rw [if_pos e2]; exact .c _ _
      · rw [if_neg e2]
        have h3 := dn_ge h2 e2
        simp only [if_pos]
        rw [stepD q old new h3]
        by_cases e3 : dn (dn (dn f)) = 0
        · rw [if_pos e3]; exact .d _ _
        · rw [if_neg e3]
          have h4 := dn_ge h3 e3
          simp only [if_pos]
          rw [stepE q old new h4]
          by_cases e4 : dn (dn (dn (dn f))) = 0
          · rw [if_pos e4]; exact .e _ _
          · rw [if_neg e4]; exact .f _ _
theorem ren_law {r : Int × Fs} (h : RenEnd q old new r) (k : Int) (D : List Int) :
    ofF (crashF r.2 k D) itN = 0 ∧ (bytesF (crashF r.2 k D) itN = old ∨ bytesF (crashF r.2 k D) itN = new) ∧ (r.1 = 0 → bytesF (crashF r.2 k D) itN = new) ∧ (crashF r.2 k D).dead = false := by
  have hi : okN itN = true := by decide
  have m1 : ∀ j : Nat, getN (repl [(itN, 0)] (([.create tmpN 1] : List Ch).take j)) itN = some 0 := fun j => by
    rcases j with _ | j <;> simp only [List.take_zero, List.take_succ_cons, List.take_nil] <;> decide
  have m2 : ∀ j : Nat, getN (repl [(itN, 0)] (([.create tmpN 1, .rename tmpN itN 1] : List Ch).take j)) itN = some 0 ∨ getN (repl [(itN, 0)] (([.create tmpN 1, .rename tmpN itN 1] : List Ch).take j)) itN = some 1 := fun j => by
    rcases j with _ | _ | j <;> simp only [List.take_zero, List.take_succ_cons, List.take_nil]
    · left; decide
    · left; decide
    · right; decide
  have m0 : ∀ (i : Nat) (j : Nat), getN (repl [(itN, i)] (([] : List Ch).take j)) itN = some i := fun i j => by
    rw [List.take_nil]; simp [repl, getN]
  cases h with
  | a f d =>
    have := crash_read (S := SA q old f d) (k := k) (D := D) hi (m0 0 _) rfl rfl
    exact ⟨this.1, .inl this.2, (fun h => by cases h), rfl⟩
  | b f d =>
    have := crash_read (S := SB q old f d) (k := k) (D := D) hi (m1 _) rfl rfl
    exact ⟨this.1, .inl this.2, (fun h => by cases h), rfl⟩
  | c f d =>
    have := crash_read (S := SC q old new f d) (k := k) (D := D) hi (m1 _) rfl rfl
    exact ⟨this.1, .inl this.2, (fun h => by cases h), rfl⟩
  | d f d =>
    have := crash_read (S := SD q old new f d) (k := k) (D := D) hi (m1 _) rfl rfl
    exact ⟨this.1, .inl this.2, (fun h => by cases h), rfl⟩
  | e f d =>
    rcases m2 ((min (max k 0) ([.create tmpN 1, .rename tmpN itN 1] : List Ch).length).toNat) with hm | hm
    · have := crash_read (S := SE q old new f d) (k := k) (D := D) hi hm rfl rfl
      exact ⟨this.1, .inl this.2, (fun h => by cases h), rfl⟩
    · have := crash_read (S := SE q old new f d) (k := k) (D := D) hi hm rfl rfl
      exact ⟨this.1, .inr this.2, (fun h => by cases h), rfl⟩
  | f f d =>
    have := crash_read (S := SF q old new f d) (k := k) (D := D) hi (m0 1 _) rfl rfl
    exact ⟨this.1, .inr this.2, fun _ => this.2, rfl⟩
end
end Go.Proofs.Ytmoaabjiokjjlaa
