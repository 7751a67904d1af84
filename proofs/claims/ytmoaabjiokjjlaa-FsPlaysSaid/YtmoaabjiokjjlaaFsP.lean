/- Files that may be lost, in plain words: names, changes of names, what each call does, what each call keeps. -/
import Derived.Maps.Range
namespace Go.Proofs.Ytmoaabjiokjjlaa
open Go.Maps Go.WideShapes
set_option linter.unusedVariables false
set_option linter.unusedSimpArgs false

abbrev Nm := List UInt8
abbrev Ns := List (Nm × Nat)
def okN (s : Nm) : Bool := decide (1 ≤ s.length) && (decide (s.length ≤ 200) && !(s.contains 0))
structure Fl where
  b : List Int
  s : Nat
inductive Ch where
  | create (n : Nm) (f : Nat)
  | rename (a b : Nm) (f : Nat)
  | remove (n : Nm)
structure Fs where
  quota : Int
  files : List Fl
  now : Ns
  last : Ns
  wait : List Ch
  fuse : Int
  dead : Bool

/-! ### names -/
def insN (x : Nm × Nat) : Ns → Ns
  | [] => [x]
  | y :: r => if bytesBefore x.1 y.1 then x :: y :: r else y :: insN x r
def delN (l : Ns) (s : Nm) : Ns := l.filter fun p => !(p.1 == s)
def putN (l : Ns) (s : Nm) (f : Nat) : Ns := insN (s, f) (delN l s)
def getN (l : Ns) (s : Nm) : Option Nat := (l.find? fun p => p.1 == s).map (·.2)
def applyC (l : Ns) : Ch → Ns
  | .create n f => putN l n f
  | .rename a b f => delN (putN l b f) a
  | .remove n => delN l n
def repl (l : Ns) (W : List Ch) : Ns := W.foldl applyC l
/-- Names that rise. -/
def Up (l : Ns) : Prop := l.Pairwise fun p q => bytesBefore p.1 q.1 = true

theorem before_ne {a b : Nm} (h : bytesBefore a b = true) : a ≠ b := fun e => by rw [e, WideAt.bytes_irrefl] at h; cases h
theorem insN_mem {x p : Nm × Nat} : ∀ {l : Ns}, p ∈ insN x l ↔ p = x ∨ p ∈ l
  | [] => by simp [insN]
  | y :: r => by
    unfold insN
    split
    · simp
    · rw [List.mem_cons, insN_mem, List.mem_cons]
      constructor
      · rintro (h | h | h) <;> simp [h]
      · rintro (h | h | h) <;> simp [h]
theorem delN_mem {l : Ns} {s : Nm} {p : Nm × Nat} : p ∈ delN l s ↔ p ∈ l ∧ p.1 ≠ s := by simp [delN]
theorem putN_mem {l : Ns} {s : Nm} {f : Nat} {p : Nm × Nat} : p ∈ putN l s f ↔ p = (s, f) ∨ (p ∈ l ∧ p.1 ≠ s) := by rw [putN, insN_mem, delN_mem]
theorem insN_len (x : Nm × Nat) : ∀ l : Ns, (insN x l).length = l.length + 1
  | [] => rfl
  | y :: r => by
    unfold insN
    split
    · rfl
    · simp [insN_len x r]
theorem delN_len (l : Ns) (s : Nm) : (delN l s).length ≤ l.length := List.length_filter_le _ _
theorem putN_len (l : Ns) (s : Nm) (f : Nat) : (putN l s f).length ≤ l.length + 1 := by
  rw [putN, insN_len]
  have := delN_len l s
  omega
theorem applyC_len (l : Ns) (c : Ch) : (applyC l c).length ≤ l.length + 1 := by
  cases c with
  | create n f => exact putN_len l n f
  | rename a b f => exact Nat.le_trans (delN_len _ _) (putN_len l b f)
  | remove n => exact Nat.le_trans (delN_len l n) (Nat.le_succ _)
theorem insN_up {x : Nm × Nat} : ∀ {l : Ns}, Up l → (∀ p ∈ l, p.1 ≠ x.1) → Up (insN x l)
  | [], _, _ => by simp [insN, Up]
  | y :: r, h, hn => by
    obtain ⟨h1, h2⟩ := List.pairwise_cons.1 h
    unfold insN
    split
    · rename_i hb
      refine List.pairwise_cons.2 ⟨fun q hq => ?_, h⟩
      rcases List.mem_cons.1 hq with rfl | hq
      · exact hb
      · exact bytes_trans _ _ _ hb (h1 q hq)
    · rename_i hb
      refine List.pairwise_cons.2 ⟨fun q hq => ?_, insN_up h2 (fun p hp => hn p (by simp [hp]))⟩
      rcases insN_mem.1 hq with rfl | hq
      · rcases WideAt.bytes_total q.1 y.1 (hn y (by simp)).symm with h' | h'
        · exact absurd h' hb
        · exact h'
      · exact h1 q hq
theorem delN_up {l : Ns} (h : Up l) (s : Nm) : Up (delN l s) := List.Pairwise.sublist List.filter_sublist h
theorem putN_up {l : Ns} (h : Up l) (s : Nm) (f : Nat) : Up (putN l s f) := insN_up (delN_up h s) (fun p hp => (delN_mem.1 hp).2)
theorem applyC_up {l : Ns} (h : Up l) (c : Ch) : Up (applyC l c) := by
  cases c with
  | create n f => exact putN_up h n f
  | rename a b f => exact delN_up (putN_up h b f) a
  | remove n => exact delN_up h n
theorem repl_up {l : Ns} (h : Up l) : ∀ W : List Ch, Up (repl l W)
  | [] => h
  | c :: W => repl_up (l := applyC l c) (applyC_up h c) W
theorem repl_snoc (l : Ns) (W : List Ch) (c : Ch) : repl l (W ++ [c]) = applyC (repl l W) c := by simp [repl]
theorem up_key {l : Ns} (h : Up l) : l.Pairwise fun p q => p.1 ≠ q.1 := h.imp fun h => before_ne h
theorem getN_some {l : Ns} (h : Up l) {s : Nm} {f : Nat} : getN l s = some f ↔ (s, f) ∈ l := by
  unfold getN
  induction l with
  | nil => simp
  | cons y r ih =>
    obtain ⟨h1, h2⟩ := List.pairwise_cons.1 h
    rw [List.find?_cons]
    by_cases e : y.1 = s
    · have : (y.1 == s) = true := by simp [e]
      rw [this]
      simp only [Option.map_some, Option.some.injEq, List.mem_cons]
      constructor
      · rintro rfl; left; rw [← e]
      · rintro (h' | h')
        · rw [← h']
        · exact absurd (h1 _ h') (by simp [e, WideAt.bytes_irrefl])
    · have : (y.1 == s) = false := by simp [e]
      rw [this, ih h2, List.mem_cons]
      constructor
      · exact fun h => .inr h
      · rintro (h' | h')
        · exact absurd (by rw [← h']) e
        · exact h'
theorem getN_none {l : Ns} {s : Nm} : getN l s = none ↔ ∀ p ∈ l, p.1 ≠ s := by
  unfold getN
  simp
theorem getN_of {l : Ns} {s : Nm} (h : getN l s ≠ none) : ∃ f, getN l s = some f := by
  cases hg : getN l s with
  | none => exact absurd hg h
  | some f => exact ⟨f, rfl⟩
theorem getN_put {l : Ns} (h : Up l) (s t : Nm) (f : Nat) : getN (putN l s f) t = if t = s then some f else getN l t := by
  by_cases e : t = s
  · rw [if_pos e, getN_some (putN_up h s f), putN_mem, e]; exact .inl rfl
  · rw [if_neg e]
    cases hg : getN l t with
    | none =>
      rw [getN_none] at hg ⊢
      intro p hp
      rcases putN_mem.1 hp with rfl | ⟨h1, _⟩
      · exact fun h' => e h'.symm
      · exact hg p h1
    | some g =>
      rw [getN_some h] at hg
      rw [getN_some (putN_up h s f), putN_mem]
      exact .inr ⟨hg, e⟩
theorem getN_del {l : Ns} (h : Up l) (s t : Nm) : getN (delN l s) t = if t = s then none else getN l t := by
  by_cases e : t = s
  · rw [if_pos e, getN_none, e]
    exact fun p hp => (delN_mem.1 hp).2
  · rw [if_neg e]
    cases hg : getN l t with
    | none =>
      rw [getN_none] at hg ⊢
      exact fun p hp => hg p (delN_mem.1 hp).1
    | some g =>
      rw [getN_some h] at hg
      rw [getN_some (delN_up h s), delN_mem]
      exact ⟨hg, e⟩
theorem up_ext {l m : Ns} (hl : Up l) (hm : Up m) (h : ∀ p, p ∈ l ↔ p ∈ m) : l = m := by
  induction l generalizing m with
  | nil =>
    cases m with
    | nil => rfl
    | cons b s => exact absurd ((h b).2 (by simp)) (by simp)
  | cons a r ih =>
    cases m with
    | nil => exact absurd ((h a).1 (by simp)) (by simp)
    | cons b s =>
      obtain ⟨a1, a2⟩ := List.pairwise_cons.1 hl
      obtain ⟨b1, b2⟩ := List.pairwise_cons.1 hm
      have hab : a = b := by
        rcases List.mem_cons.1 ((h a).1 (by simp)) with e | ha
        · exact e
        · rcases List.mem_cons.1 ((h b).2 (by simp)) with e | hb
          · exact e.symm
          · have := bytes_trans _ _ _ (a1 b hb) (b1 a ha)
            rw [WideAt.bytes_irrefl] at this
            cases this
      subst hab
      rw [ih a2 b2 (fun p => ⟨fun hp => by
        rcases List.mem_cons.1 ((h p).1 (by simp [hp])) with e | hp'
        · have := a1 p hp; rw [e, WideAt.bytes_irrefl] at this; cases this
        · exact hp', fun hp => by
        rcases List.mem_cons.1 ((h p).2 (by simp [hp])) with e | hp'
        · have := b1 p hp; rw [e, WideAt.bytes_irrefl] at this; cases this
        · exact hp'⟩)]

/-! ### the calls -/
def namedF (S : Fs) (l : List Nm) : Int := if S.dead then 50 else if l.all okN then 0 else 1
def burnOk (S : Fs) : Bool := !(S.fuse == 0)
def burnF (S : Fs) : Fs := { S with dead := if S.fuse = 0 then true else S.dead, fuse := if S.fuse = 0 then 0 else max (S.fuse - 1) (-1) }
def changeF (S : Fs) (c : Ch) : Fs := { S with now := applyC S.now c, wait := S.wait ++ [c] }
def createF (S : Fs) (n : Nm) : Int × Fs :=
  if namedF S [n] ≠ 0 then (namedF S [n], S) else
  if getN S.now n ≠ none then (64, S) else
  if burnOk S = false then (50, burnF S) else (0, changeF { burnF S with files := S.files ++ [⟨[], 0⟩] } (.create n S.files.length))
def lenF (S : Fs) (i : Nat) : Nat := ((S.files[i]?).map fun x => x.b.length).getD 0
def usedF (S : Fs) : Nat := (S.now.map fun p => lenF S p.2).sum
def ofF (S : Fs) (n : Nm) : Int := if namedF S [n] ≠ 0 then namedF S [n] else if getN S.now n = none then 61 else 0
def modF (S : Fs) (n : Nm) (g : Fl → Fl) : Fs := match getN S.now n with | none => S | some i => { S with files := S.files.modify i g }
def appendF (S : Fs) (n : Nm) (x : List Int) : Int × Fs :=
  if ofF S n ≠ 0 then (ofF S n, S) else
  if (x.length : Int) > S.quota - usedF S then (60, S) else
  if burnOk S = false then (50, burnF S) else (0, modF (burnF S) n fun y => { y with b := y.b ++ x })
def bytesF (S : Fs) (n : Nm) : List Int := match getN S.now n with | none => [] | some i => ((S.files[i]?).map Fl.b).getD []
def syncF (S : Fs) (n : Nm) : Int × Fs :=
  if ofF S n ≠ 0 then (ofF S n, S) else
  if burnOk S = false then (50, burnF S) else (0, modF (burnF S) n fun y => { y with s := y.b.length })
def renameF (S : Fs) (a b : Nm) : Int × Fs :=
  if namedF S [a, b] ≠ 0 then (namedF S [a, b], S) else
  match getN S.now a with
  | none => (61, S)
  | some f => if burnOk S = false then (50, burnF S) else if a = b then (0, burnF S) else (0, changeF (burnF S) (.rename a b f))
def removeF (S : Fs) (n : Nm) : Int × Fs :=
  if ofF S n ≠ 0 then (ofF S n, S) else
  if burnOk S = false then (50, burnF S) else (0, changeF (burnF S) (.remove n))
def syncNamesF (S : Fs) : Int × Fs :=
  if S.dead then (50, S) else
  if burnOk S = false then (50, burnF S) else (0, { burnF S with last := S.now, wait := [] })
def listF (S : Fs) (p : Nm) : List Nm := if S.dead then [] else (S.now.map (·.1)).filter fun s => p.isPrefixOf s
def fuseF (S : Fs) (k : Int) : Fs := { S with fuse := max k (-1) }
def keepF (D : List Int) (i : Nat) (x : Fl) : Nat := match D[i]? with | none => 0 | some d => (min (max d 0) ((x.b.length : Int) - x.s)).toNat
def cutF (D : List Int) (i : Nat) (x : Fl) : Fl := ⟨x.b.take (x.s + keepF D i x), x.s + keepF D i x⟩
def cutsF (D : List Int) : Nat → Ns → List Fl → List Fl
  | _, [], F => F
  | i, p :: r, F => cutsF D (i + 1) r (F.modify p.2 (cutF D i))
def crashF (S : Fs) (k : Int) (D : List Int) : Fs :=
  { S with now := repl S.last (S.wait.take (min (max k 0) S.wait.length).toNat), last := repl S.last (S.wait.take (min (max k 0) S.wait.length).toNat), wait := [], dead := false, fuse := -1,
           files := cutsF D 0 (repl S.last (S.wait.take (min (max k 0) S.wait.length).toNat)) S.files }
def newF (q : Int) : Fs := ⟨q, [], [], [], [], -1, false⟩

/-! ### what they keep -/
def okC (n : Nat) (l : Ns) : Ch → Prop
  | .create _ f => f < n
  | .rename a b f => getN l a = some f ∧ a ≠ b
  | .remove _ => True
def okW (n : Nat) : Ns → List Ch → Prop
  | _, [] => True
  | l, c :: W => okC n l c ∧ okW n (applyC l c) W
/-- N: no list is longer than this; M: no file is longer than this. -/
structure Inv (N M : Nat) (S : Fs) : Prop where
  up : Up S.last
  now : S.now = repl S.last S.wait
  ok : okW S.files.length S.last S.wait
  ids : ∀ p ∈ S.last, p.2 < S.files.length
  syn : ∀ x ∈ S.files, x.s ≤ x.b.length
  len : ∀ k, (repl S.last (S.wait.take k)).length ≤ N
  wt : S.wait.length ≤ N
  fl : S.files.length ≤ N
  big : ∀ x ∈ S.files, x.b.length ≤ M
  quo : 0 ≤ S.quota ∧ S.quota ≤ M
  fus : -1 ≤ S.fuse ∧ S.fuse ≤ 9223372036854775807
theorem Inv.upNow {N M : Nat} {S : Fs} (h : Inv N M S) : Up S.now := by rw [h.now]; exact repl_up h.up _
theorem Inv.lenNow {N M : Nat} {S : Fs} (h : Inv N M S) : S.now.length ≤ N := by rw [h.now]; simpa using h.len S.wait.length
theorem Inv.lenLast {N M : Nat} {S : Fs} (h : Inv N M S) : S.last.length ≤ N := by simpa [repl] using h.len 0
theorem okC_ids {n : Nat} {l : Ns} {c : Ch} (hu : Up l) (hc : okC n l c) (h : ∀ p ∈ l, p.2 < n) : ∀ p ∈ applyC l c, p.2 < n := by
  intro p hp
  cases c with
  | create m f =>
    rcases putN_mem.1 hp with rfl | ⟨h1, _⟩
    · exact hc
    · exact h p h1
  | rename a b f =>
    rcases putN_mem.1 (delN_mem.1 hp).1 with rfl | ⟨h1, _⟩
    · exact h (a, f) ((getN_some hu).1 hc.1)
    · exact h p h1
  | remove m => exact h p (delN_mem.1 hp).1
theorem okW_ids {n : Nat} : ∀ {W : List Ch} {l : Ns}, Up l → okW n l W → (∀ p ∈ l, p.2 < n) → ∀ p ∈ repl l W, p.2 < n
  | [], _, _, _, h => h
  | c :: W, l, hu, hW, h => okW_ids (W := W) (l := applyC l c) (applyC_up hu c) hW.2 (okC_ids hu hW.1 h)
theorem okW_snoc {n : Nat} : ∀ {W : List Ch} {l : Ns} {c : Ch}, okW n l W → okC n (repl l W) c → okW n l (W ++ [c])
  | [], _, _, _, h => ⟨h, trivial⟩
  | d :: W, l, c, hW, h => ⟨hW.1, okW_snoc (W := W) hW.2 h⟩
theorem okC_more {n n' : Nat} (hn : n ≤ n') {l : Ns} {c : Ch} (h : okC n l c) : okC n' l c := by
  cases c with
  | create m f => exact Nat.lt_of_lt_of_le h hn
  | rename a b f => exact h
  | remove m => trivial
theorem okW_more {n n' : Nat} (hn : n ≤ n') : ∀ {W : List Ch} {l : Ns}, okW n l W → okW n' l W
  | [], _, _ => trivial
  | c :: W, l, h => ⟨okC_more hn h.1, okW_more hn h.2⟩
theorem okW_take {n : Nat} : ∀ {W : List Ch} {l : Ns} (k : Nat), okW n l W → okW n l (W.take k)
  | _, _, 0, _ => by simp [okW]
  | [], _, k + 1, _ => by simp [okW]
  | c :: W, l, k + 1, h => ⟨h.1, okW_take k h.2⟩
theorem Inv.idsNow {N M : Nat} {S : Fs} (h : Inv N M S) : ∀ p ∈ S.now, p.2 < S.files.length := by rw [h.now]; exact okW_ids h.up h.ok h.ids
theorem Inv.get {N M : Nat} {S : Fs} (h : Inv N M S) {n : Nm} {f : Nat} (hg : getN S.now n = some f) : f < S.files.length := h.idsNow _ ((getN_some h.upNow).1 hg)
theorem Inv.mono {N N' M : Nat} {S : Fs} (h : Inv N M S) (hn : N ≤ N') : Inv N' M S :=
  ⟨h.up, h.now, h.ok, h.ids, h.syn, fun k => Nat.le_trans (h.len k) hn, Nat.le_trans h.wt hn, Nat.le_trans h.fl hn, h.big, h.quo, h.fus⟩
theorem Inv.burn {N M : Nat} {S : Fs} (h : Inv N M S) : Inv N M (burnF S) := by
  refine ⟨h.up, h.now, h.ok, h.ids, h.syn, h.len, h.wt, h.fl, h.big, h.quo, ?_⟩
  have := h.fus
  unfold burnF
  dsimp only
  split <;> omega
theorem burnF_files (S : Fs) : (burnF S).files = S.files := rfl
theorem burnF_now (S : Fs) : (burnF S).now = S.now := rfl
theorem burnF_last (S : Fs) : (burnF S).last = S.last := rfl
theorem burnF_wait (S : Fs) : (burnF S).wait = S.wait := rfl
theorem burnF_quota (S : Fs) : (burnF S).quota = S.quota := rfl
theorem Inv.change {N M : Nat} {S : Fs} {c : Ch} (h : Inv N M S) (hc : okC S.files.length S.now c) : Inv (N + 1) M (changeF S c) := by
  refine ⟨h.up, ?_, okW_snoc h.ok (by show okC S.files.length (repl S.last S.wait) c; rw [← h.now]; exact hc), h.ids, h.syn, fun k => ?_, ?_, Nat.le_succ_of_le h.fl, h.big, h.quo, h.fus⟩
  · show applyC S.now c = repl S.last (S.wait ++ [c])
    rw [repl_snoc, h.now]
  · show (repl S.last ((S.wait ++ [c]).take k)).length ≤ N + 1
    by_cases hk : k ≤ S.wait.length
    · rw [List.take_append_of_le_length hk]
      exact Nat.le_succ_of_le (h.len k)
    · rw [List.take_of_length_le (by simp; omega), repl_snoc]
      have := applyC_len (repl S.last S.wait) c
      have := h.len S.wait.length
      rw [List.take_of_length_le (Nat.le_refl _)] at this
      omega
  · show (S.wait ++ [c]).length ≤ N + 1
    have := h.wt
    simp; omega
theorem Inv.file {N M : Nat} {S : Fs} (h : Inv N M S) : Inv (N + 1) M { S with files := S.files ++ [⟨[], 0⟩] } := by
  have hl : S.files.length ≤ (S.files ++ [(⟨[], 0⟩ : Fl)]).length := by simp
  refine ⟨h.up, h.now, okW_more hl h.ok, fun p hp => Nat.lt_of_lt_of_le (h.ids p hp) hl, fun x hx => ?_, fun k => Nat.le_succ_of_le (h.len k), Nat.le_succ_of_le h.wt, ?_, fun x hx => ?_, h.quo, h.fus⟩
  · rcases List.mem_append.1 hx with hx | hx
    · exact h.syn x hx
    · rw [List.mem_singleton.1 hx]; exact Nat.le_refl _
  · have := h.fl
    simp; omega
  · rcases List.mem_append.1 hx with hx | hx
    · exact h.big x hx
    · rw [List.mem_singleton.1 hx]; exact Nat.zero_le _
theorem Inv.create {N M : Nat} {S : Fs} (h : Inv N M S) (n : Nm) : Inv (N + 1) M (createF S n).2 := by
  unfold createF
  split
  · exact h.mono (Nat.le_succ _)
  · split
    · exact h.mono (Nat.le_succ _)
    · split
      · exact (h.burn).mono (Nat.le_succ _)
      · have hb := h.burn
        have h1 : Inv (N + 1) M { burnF S with files := (burnF S).files ++ [⟨[], 0⟩] } := hb.file
        rw [burnF_files] at h1
        refine ⟨?_, ?_, ?_, ?_, ?_, ?_, ?_, ?_, ?_, ?_, ?_⟩
        · exact h1.up
        · show applyC (burnF S).now (.create n S.files.length) = repl (burnF S).last ((burnF S).wait ++ [Ch.create n S.files.length])
          rw [repl_snoc, ← hb.now]
        · refine okW_snoc h1.ok ?_
          show S.files.length < (S.files ++ [(⟨[], 0⟩ : Fl)]).length
          simp
        · exact h1.ids
        · exact h1.syn
        · intro k
          show (repl (burnF S).last (((burnF S).wait ++ [Ch.create n S.files.length]).take k)).length ≤ N + 1
          by_cases hk : k ≤ (burnF S).wait.length
          · rw [List.take_append_of_le_length hk]
            exact Nat.le_succ_of_le (hb.len k)
          · rw [List.take_of_length_le (by simp; omega), repl_snoc]
            have h3 := applyC_len (repl (burnF S).last (burnF S).wait) (.create n S.files.length)
            have h4 := hb.len (burnF S).wait.length
            rw [List.take_of_length_le (Nat.le_refl _)] at h4
            omega
        · show ((burnF S).wait ++ [Ch.create n S.files.length]).length ≤ N + 1
          have := hb.wt
          simp; omega
        · exact h1.fl
        · exact h1.big
        · exact h1.quo
        · exact h1.fus
theorem modify_mem {F : List Fl} {i : Nat} {g : Fl → Fl} {x : Fl} (h : x ∈ F.modify i g) : x ∈ F ∨ ∃ y, F[i]? = some y ∧ x = g y := by
  obtain ⟨j, hj⟩ := List.mem_iff_getElem?.1 h
  rw [List.getElem?_modify] at hj
  split at hj
  · rename_i e
    subst e
    cases hf : F[i]? with
    | none => rw [hf] at hj; simp at hj
    | some y => rw [hf] at hj; simp at hj; exact .inr ⟨y, rfl, hj.symm⟩
  · exact .inl (List.mem_of_getElem? (by simpa using hj))
theorem Inv.mod {N M : Nat} {S : Fs} (h : Inv N M S) {i : Nat} {g : Fl → Fl} (hg : ∀ y, S.files[i]? = some y → (g y).s ≤ (g y).b.length ∧ (g y).b.length ≤ M) : Inv N M { S with files := S.files.modify i g } := by
  refine ⟨h.up, h.now, ?_, ?_, fun x hx => ?_, h.len, h.wt, ?_, fun x hx => ?_, h.quo, h.fus⟩
  · show okW (S.files.modify i g).length _ _
    rw [List.length_modify]; exact h.ok
  · show ∀ p ∈ S.last, p.2 < (S.files.modify i g).length
    rw [List.length_modify]; exact h.ids
  · rcases modify_mem hx with hx | ⟨y, hy, rfl⟩
    · exact h.syn x hx
    · exact (hg y hy).1
  · show (S.files.modify i g).length ≤ N
    rw [List.length_modify]; exact h.fl
  · rcases modify_mem hx with hx | ⟨y, hy, rfl⟩
    · exact h.big x hx
    · exact (hg y hy).2
theorem sum_mem {l : List Nat} {x : Nat} (h : x ∈ l) : x ≤ l.sum := by
  induction l with
  | nil => cases h
  | cons y r ih =>
    rw [List.sum_cons]
    rcases List.mem_cons.1 h with rfl | h
    · omega
    · have := ih h; omega
theorem lenF_le {S : Fs} {n : Nm} {i : Nat} (hu : Up S.now) (hg : getN S.now n = some i) : lenF S i ≤ usedF S :=
  sum_mem (List.mem_map.2 ⟨(n, i), (getN_some hu).1 hg, rfl⟩)
theorem Inv.append {N M : Nat} {S : Fs} (h : Inv N M S) (n : Nm) (x : List Int) : Inv N M (appendF S n x).2 := by
  unfold appendF
  split
  · exact h
  · split
    · exact h
    · rename_i hq
      split
      · exact h.burn
      · show Inv N M (modF (burnF S) n _)
        unfold modF
        split
        · exact h.burn
        · rename_i i hg
          refine h.burn.mod fun y hy => ?_
          rw [burnF_files] at hy
          rw [burnF_now] at hg
          have h1 := lenF_le h.upNow hg
          have h2 := h.syn y (List.mem_of_getElem? hy)
          have h3 := h.quo
          unfold lenF at h1
          rw [hy] at h1
          simp only [Option.map_some, Option.getD_some] at h1
          simp only [List.length_append]
          constructor <;> omega
theorem Inv.sync {N M : Nat} {S : Fs} (h : Inv N M S) (n : Nm) : Inv N M (syncF S n).2 := by
  unfold syncF
  split
  · exact h
  · split
    · exact h.burn
    · show Inv N M (modF (burnF S) n _)
      unfold modF
      split
      · exact h.burn
      · refine h.burn.mod fun y hy => ⟨Nat.le_refl _, ?_⟩
        rw [burnF_files] at hy
        exact h.big y (List.mem_of_getElem? hy)
theorem Inv.rename {N M : Nat} {S : Fs} (h : Inv N M S) (a b : Nm) : Inv (N + 1) M (renameF S a b).2 := by
  unfold renameF
  split
  · exact h.mono (Nat.le_succ _)
  · split
    · exact h.mono (Nat.le_succ _)
    · rename_i f hg
      split
      · exact h.burn.mono (Nat.le_succ _)
      · split
        · exact h.burn.mono (Nat.le_succ _)
        · rename_i he
          exact h.burn.change ⟨by rw [burnF_now]; exact hg, he⟩
theorem Inv.remove {N M : Nat} {S : Fs} (h : Inv N M S) (n : Nm) : Inv (N + 1) M (removeF S n).2 := by
  unfold removeF
  split
  · exact h.mono (Nat.le_succ _)
  · split
    · exact h.burn.mono (Nat.le_succ _)
    · exact h.burn.change trivial
theorem Inv.syncNames {N M : Nat} {S : Fs} (h : Inv N M S) : Inv N M (syncNamesF S).2 := by
  unfold syncNamesF
  split
  · exact h
  · split
    · exact h.burn
    · have hb := h.burn
      refine ⟨h.upNow, rfl, trivial, ?_, hb.syn, fun k => ?_, Nat.zero_le _, hb.fl, hb.big, hb.quo, hb.fus⟩
      · show ∀ p ∈ S.now, p.2 < (burnF S).files.length
        rw [burnF_files]; exact h.idsNow
      · show (repl S.now (([] : List Ch).take k)).length ≤ N
        simpa [repl] using h.lenNow
theorem Inv.fuse {N M : Nat} {S : Fs} (h : Inv N M S) {k : Int} (hk : k ≤ 9223372036854775807) : Inv N M (fuseF S k) :=
  ⟨h.up, h.now, h.ok, h.ids, h.syn, h.len, h.wt, h.fl, h.big, h.quo, by unfold fuseF; dsimp only; omega⟩
theorem keepF_le (D : List Int) (i : Nat) (x : Fl) (h : x.s ≤ x.b.length) : x.s + keepF D i x ≤ x.b.length := by
  unfold keepF
  split
  · exact h
  · omega
theorem cutsF_len (D : List Int) : ∀ (l : Ns) (i : Nat) (F : List Fl), (cutsF D i l F).length = F.length
  | [], _, _ => rfl
  | p :: r, i, F => by rw [cutsF, cutsF_len D r, List.length_modify]
theorem cutsF_ok {M : Nat} (D : List Int) : ∀ (l : Ns) (i : Nat) (F : List Fl), (∀ x ∈ F, x.s ≤ x.b.length ∧ x.b.length ≤ M) → ∀ x ∈ cutsF D i l F, x.s ≤ x.b.length ∧ x.b.length ≤ M
  | [], _, _, h => h
  | p :: r, i, F, h => by
    rw [cutsF]
    refine cutsF_ok D r (i + 1) _ fun x hx => ?_
    rcases modify_mem hx with hx | ⟨y, hy, rfl⟩
    · exact h x hx
    · have h1 := h y (List.mem_of_getElem? hy)
      have h2 := keepF_le D i y h1.1
      unfold cutF
      simp only [List.length_take]
      omega
theorem Inv.crash {N M : Nat} {S : Fs} (h : Inv N M S) (k : Int) (D : List Int) : Inv N M (crashF S k D) := by
  unfold crashF
  generalize (min (max k 0) S.wait.length).toNat = m
  have hall := cutsF_ok (M := M) D (repl S.last (S.wait.take m)) 0 S.files (fun x hx => ⟨h.syn x hx, h.big x hx⟩)
  refine ⟨repl_up h.up _, rfl, trivial, ?_, fun x hx => (hall x hx).1, fun j => ?_, Nat.zero_le _, ?_, fun x hx => (hall x hx).2, h.quo, ⟨Int.le_refl _, by show (-1 : Int) ≤ _; decide⟩⟩
  · show ∀ p ∈ repl S.last (S.wait.take m), p.2 < (cutsF D 0 _ S.files).length
    rw [cutsF_len]
    exact okW_ids h.up (okW_take m h.ok) h.ids
  · show (repl (repl S.last (S.wait.take m)) (([] : List Ch).take j)).length ≤ N
    simpa [repl] using h.len m
  · show (cutsF D 0 _ S.files).length ≤ N
    rw [cutsF_len]; exact h.fl
theorem Inv.new {q : Int} {M N : Nat} (h : 0 ≤ q ∧ q ≤ M) : Inv N M (newF q) :=
  ⟨List.Pairwise.nil, rfl, trivial, by simp [newF], by simp [newF], fun k => by simp [newF, repl], Nat.zero_le _, Nat.zero_le _, by simp [newF], h, ⟨Int.le_refl _, by show (-1 : Int) ≤ _; decide⟩⟩
theorem Inv.used {N M : Nat} {S : Fs} (h : Inv N M S) : usedF S ≤ N * M := by
  unfold usedF
  have hl := h.lenNow
  have key : ∀ l : Ns, (l.map fun p => lenF S p.2).sum ≤ l.length * M := by
    intro l
    induction l with
    | nil => simp
    | cons p r ih =>
      have : lenF S p.2 ≤ M := by
        unfold lenF
        cases hf : S.files[p.2]? with
        | none => simp
        | some x => simpa using h.big x (List.mem_of_getElem? hf)
      simp only [List.map_cons, List.sum_cons, List.length_cons, Nat.add_mul, Nat.one_mul]
      omega
  exact Nat.le_trans (key S.now) (Nat.mul_le_mul_right M hl)
end Go.Proofs.Ytmoaabjiokjjlaa
