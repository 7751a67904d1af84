/- FsRoom, in plain words: never more bytes than the quota; what is removed or renamed over makes room. -/
import Derived.Test.YtmoaabjiokjjlaaFsLastsP
import Derived.Test.YtmoaabjiokjjlaaFsOrderP
namespace Go.Proofs.Ytmoaabjiokjjlaa
open Go.Maps Go.WideShapes
set_option linter.unusedVariables false
set_option linter.unusedSimpArgs false

theorem insN_perm (x : Nm × Nat) : ∀ l : Ns, (insN x l).Perm (x :: l)
  | [] => List.Perm.refl _
  | y :: r => by
    unfold insN
    split
    · exact List.Perm.refl _
    · exact ((insN_perm x r).cons y).trans (List.Perm.swap x y r)
def sumN (g : Nat → Nat) (l : Ns) : Nat := (l.map fun p => g p.2).sum
theorem sumN_perm {g : Nat → Nat} {l m : Ns} (h : l.Perm m) : sumN g l = sumN g m := by
  unfold sumN
  induction h with
  | nil => rfl
  | cons x _ ih => simp [ih]
  | swap x y l => simp; omega
  | trans _ _ h1 h2 => exact h1.trans h2
theorem sumN_cons (g : Nat → Nat) (p : Nm × Nat) (l : Ns) : sumN g (p :: l) = g p.2 + sumN g l := by simp [sumN]
theorem sumN_del_le (g : Nat → Nat) (s : Nm) : ∀ l : Ns, sumN g (delN l s) ≤ sumN g l
  | [] => Nat.le_refl _
  | p :: r => by
    unfold delN
    rw [List.filter_cons]
    have := sumN_del_le g s r
    unfold delN at this
    split
    · rw [sumN_cons, sumN_cons]; omega
    · rw [sumN_cons]; omega
theorem delN_none {l : Ns} {s : Nm} (h : getN l s = none) : delN l s = l := List.filter_eq_self.2 fun p hp => by simpa using getN_none.1 h p hp
theorem sumN_get (g : Nat → Nat) {s : Nm} {f : Nat} : ∀ {l : Ns}, Up l → getN l s = some f → sumN g l = g f + sumN g (delN l s)
  | [], _, h => by simp [getN] at h
  | p :: r, hu, h => by
    obtain ⟨h1, h2⟩ := List.pairwise_cons.1 hu
    unfold delN
    rw [List.filter_cons]
    by_cases e : p.1 = s
    · have hp : p.2 = f := by
        have := h
        unfold getN at this
        rw [List.find?_cons] at this
        simpa [e] using this
      have hr : getN r s = none := getN_none.2 fun q hq he => by
        have := before_ne (h1 q hq)
        exact this (by rw [e, he])
      have hd := delN_none hr
      unfold delN at hd
      have : (!(p.1 == s)) = false := by simp [e]
      rw [this, if_neg (by decide), hd, sumN_cons, hp]
    · have hg : getN r s = some f := by
        have this := h
        unfold getN at this ⊢
        rw [List.find?_cons, show (p.1 == s) = false by simp [e]] at this
        exact this
      have ih := sumN_get g h2 hg
      unfold delN at ih
      have : (!(p.1 == s)) = true := by simp [e]
      rw [this, if_pos rfl, sumN_cons, sumN_cons, ih]
      omega
theorem used_sum (S : Fs) : usedF S = sumN (lenF S) S.now := rfl
def idsN (l : Ns) : List Nat := l.map (·.2)
theorem del_ids {l : Ns} (h : (idsN l).Nodup) (s : Nm) : (idsN (delN l s)).Nodup := List.Pairwise.sublist (List.Sublist.map _ List.filter_sublist) h
theorem sumN_del_comm (g : Nat → Nat) (l : Ns) (a b : Nm) : delN (delN l a) b = delN (delN l b) a := by
  unfold delN
  rw [List.filter_filter, List.filter_filter]
  congr 1
  funext p
  rw [Bool.and_comm]
/-- A name moved over another one. -/
theorem rename_perm {l : Ns} {a b : Nm} {f : Nat} (hab : a ≠ b) : (delN (putN l b f) a).Perm ((b, f) :: delN (delN l a) b) := by
  have h1 : (putN l b f).Perm ((b, f) :: delN l b) := insN_perm _ _
  have h2 := h1.filter (fun p => !(p.1 == a))
  rw [List.filter_cons] at h2
  have : (!((b, f).1 == a)) = true := by simp; exact fun e => hab e.symm
  rw [this, if_pos rfl] at h2
  rw [sumN_del_comm (fun _ => 0) l a b]
  exact h2
structure Room (S : Fs) : Prop where
  fus : S.fuse = -1
  live : S.dead = false
  ids : (idsN S.now).Nodup
  names : ∀ p ∈ S.now, okN p.1 = true
  le : (usedF S : Int) ≤ S.quota
section
variable {N M : Nat} {S : Fs}
theorem lenF_files {S T : Fs} (h : T.files = S.files) : lenF T = lenF S := by funext i; unfold lenF; rw [h]
theorem Room.create (h : Room S) (hI : Inv N M S) {n : Nm} (hn : okN n = true) : Room (createF S n).2 ∧ usedF (createF S n).2 = usedF S ∧ getN (createF S n).2.now n ≠ none ∧ (createF S n).2.quota = S.quota := by
  unfold createF
  have h0 : namedF S [n] = 0 := by simp [namedF, h.live, hn]
  rw [h0, if_neg (by decide), (burn_live h.fus).1, (burn_live h.fus).2]
  split
  · rename_i hg
    exact ⟨h, rfl, hg, rfl⟩
  · rename_i hg
    have hg' : getN S.now n = none := by simpa using hg
    rw [if_neg (by decide)]
    have hp : (putN S.now n S.files.length).Perm ((n, S.files.length) :: S.now) := by
      have := insN_perm (n, S.files.length) (delN S.now n)
      rw [delN_none hg'] at this
      rw [putN, delN_none hg']
      exact this
    have hu : usedF (changeF { S with files := S.files ++ [⟨[], 0⟩] } (.create n S.files.length)) = usedF S := by
      rw [used_sum, used_sum]
      show sumN _ (putN S.now n S.files.length) = _
      rw [sumN_perm hp, sumN_cons]
      have e0 : lenF (changeF { S with files := S.files ++ [⟨[], 0⟩] } (.create n S.files.length)) S.files.length = 0 := by
        unfold lenF changeF
        simp
      rw [e0, Nat.zero_add]
      unfold sumN
      congr 1
      refine List.map_congr_left fun p hp => ?_
      unfold lenF changeF
      dsimp only
      rw [List.getElem?_append_left (hI.idsNow p hp)]
    refine ⟨⟨h.fus, h.live, ?_, ?_, ?_⟩, hu, ?_, rfl⟩
    · show (idsN (putN S.now n S.files.length)).Nodup
      refine ((hp.map (·.2)).nodup_iff).2 ?_
      rw [List.map_cons, List.nodup_cons]
      refine ⟨fun hm => ?_, h.ids⟩
      obtain ⟨p, hp, e⟩ := List.mem_map.1 hm
      have := hI.idsNow p hp
      omega
    · intro p hp'
      rcases putN_mem.1 hp' with rfl | ⟨h1, _⟩
      · exact hn
      · exact h.names p h1
    · show (usedF (changeF _ _) : Int) ≤ S.quota
      rw [hu]; exact h.le
    · show getN (putN S.now n S.files.length) n ≠ none
      rw [getN_put hI.upNow, if_pos rfl]
      simp
theorem sumN_add {g g' : Nat → Nat} {i c : Nat} (hg : ∀ j, g' j = g j + if j = i then c else 0) : ∀ {l : Ns}, (idsN l).Nodup → (sumN g' l = sumN g l + if i ∈ idsN l then c else 0)
  | [], _ => by simp [sumN, idsN]
  | p :: r, h => by
    unfold idsN at h ⊢
    rw [List.map_cons, List.nodup_cons] at h
    have ih := sumN_add hg (l := r) h.2
    unfold idsN at ih
    rw [sumN_cons, sumN_cons, ih, hg p.2, List.map_cons]
    by_cases e : p.2 = i
    · subst e
      rw [if_pos rfl, if_neg h.1, if_pos (by simp)]
      omega
    · rw [if_neg e]
      by_cases hm : i ∈ r.map (·.2)
      · rw [if_pos hm, if_pos (by simp [hm])]; omega
      · rw [if_neg hm, if_neg (by simp only [List.mem_cons, not_or]; exact ⟨fun h' => e h'.symm, hm⟩)]; omega
theorem Room.append (h : Room S) (hI : Inv N M S) {n : Nm} (hg : getN S.now n ≠ none) (x : List Int) :
    Room (appendF S n x).2 ∧ (appendF S n x).2.quota = S.quota ∧ (appendF S n x).1 = (if (x.length : Int) ≤ S.quota - usedF S then 0 else 60) ∧ ((x.length : Int) ≤ S.quota - usedF S → usedF (appendF S n x).2 = usedF S + x.length) := by
  obtain ⟨i, hi⟩ := getN_of hg
  have hm := (getN_some hI.upNow).1 hi
  have h0 : ofF S n = 0 := by simp [ofF, namedF, h.live, h.names _ hm, hg]
  unfold appendF
  rw [h0, if_neg (by decide), (burn_live h.fus).1, (burn_live h.fus).2]
  by_cases hq : (x.length : Int) > S.quota - usedF S
  · rw [if_pos hq, if_neg (by omega)]
    exact ⟨h, rfl, rfl, fun h' => by omega⟩
  · rw [if_neg hq, if_neg (by decide), if_pos (by omega)]
    unfold modF
    rw [hi]
    have hlt := hI.idsNow _ hm
    have hu : usedF { S with files := S.files.modify i fun y => { y with b := y.b ++ x } } = usedF S + x.length := by
      rw [used_sum, used_sum]
      have hgl : ∀ j, lenF { S with files := S.files.modify i fun y => { y with b := y.b ++ x } } j = lenF S j + if j = i then x.length else 0 := by
        intro j
        unfold lenF
        dsimp only
        rw [List.getElem?_modify]
        by_cases e : j = i
        · subst e
          rw [if_pos rfl]
          have : S.files[j]? = some S.files[j] := List.getElem?_eq_getElem hlt
          rw [this]
          simp
        · rw [if_neg e]
          cases S.files[j]? with
          | none => simp
          | some y => simp [show ¬ i = j from fun h => e h.symm]
      rw [sumN_add hgl h.ids, if_pos (show i ∈ idsN S.now from List.mem_map.2 ⟨(n, i), hm, rfl⟩)]
    refine ⟨⟨h.fus, h.live, h.ids, h.names, ?_⟩, rfl, rfl, fun _ => hu⟩
    rw [hu]
    show ((usedF S + x.length : Nat) : Int) ≤ S.quota
    omega
theorem Room.rename (h : Room S) (hI : Inv N M S) {a b : Nm} (ha : okN a = true) (hb : okN b = true) (hab : a ≠ b) : Room (renameF S a b).2 ∧ (renameF S a b).2.quota = S.quota := by
  unfold renameF
  have h0 : namedF S [a, b] = 0 := by simp [namedF, h.live, ha, hb]
  rw [h0, if_neg (by decide), (burn_live h.fus).1, (burn_live h.fus).2]
  split
  · exact ⟨h, rfl⟩
  · rename_i f hg
    rw [if_neg (by decide), if_neg hab]
    have hp := rename_perm (l := S.now) (f := f) hab
    have hs := sumN_get (lenF S) hI.upNow hg
    refine ⟨⟨h.fus, h.live, ?_, ?_, ?_⟩, rfl⟩
    · show (idsN (delN (putN S.now b f) a)).Nodup
      refine ((hp.map (·.2)).nodup_iff).2 ?_
      rw [List.map_cons, List.nodup_cons]
      refine ⟨fun hm => ?_, del_ids (del_ids h.ids a) b⟩
      obtain ⟨p, hp1, e⟩ := List.mem_map.1 hm
      have hpa := (delN_mem.1 (delN_mem.1 hp1).1)
      have hmem := (getN_some hI.upNow).1 hg
      have hnd := h.ids
      unfold idsN at hnd
      rw [List.Nodup, List.pairwise_map] at hnd
      have key : ∀ {l : Ns}, (l.Pairwise fun p q => p.2 ≠ q.2) → ∀ {p q : Nm × Nat}, p ∈ l → q ∈ l → p.2 = q.2 → p = q := by
        intro l hl
        induction l with
        | nil => intro p q hp; cases hp
        | cons y r ih =>
          obtain ⟨h1, h2⟩ := List.pairwise_cons.1 hl
          intro p q hp hq he
          rcases List.mem_cons.1 hp with e1 | hp1
          · rcases List.mem_cons.1 hq with e2 | hq1
            · rw [e1, e2]
            · exact absurd (by rw [← e1]; exact he) (h1 q hq1)
          · rcases List.mem_cons.1 hq with e2 | hq1
            · exact absurd (by rw [← e2]; exact he.symm) (h1 p hp1)
            · exact ih h2 hp1 hq1 he
      have := key hnd hpa.1 hmem e
      exact hpa.2 (by rw [this])
    · intro p hp1
      rcases putN_mem.1 (delN_mem.1 hp1).1 with rfl | ⟨h1, _⟩
      · exact hb
      · exact h.names p h1
    · show ((sumN (lenF S) (delN (putN S.now b f) a) : Nat) : Int) ≤ S.quota
      rw [sumN_perm hp, sumN_cons]
      have h1 := sumN_del_le (lenF S) b (delN S.now a)
      have h2 := h.le
      rw [used_sum] at h2
      show ((lenF S f + sumN (lenF S) (delN (delN S.now a) b) : Nat) : Int) ≤ S.quota
      omega
theorem Room.remove (h : Room S) (hI : Inv N M S) (n : Nm) : Room (removeF S n).2 ∧ (removeF S n).2.quota = S.quota := by
  unfold removeF
  rw [(burn_live h.fus).1, (burn_live h.fus).2]
  split
  · exact ⟨h, rfl⟩
  · rw [if_neg (by decide)]
    refine ⟨⟨h.fus, h.live, del_ids h.ids n, fun p hp => h.names p (delN_mem.1 hp).1, ?_⟩, rfl⟩
    show ((sumN (lenF S) (delN S.now n) : Nat) : Int) ≤ S.quota
    have h1 := sumN_del_le (lenF S) n S.now
    have h2 := h.le
    rw [used_sum] at h2
    omega
/-- What is read, put together, is what is used. -/
theorem Room.reads (h : Room S) (hI : Inv N M S) : (∀ n ∈ listF S [], ofF S n = 0) ∧ ((listF S []).map fun n => (bytesF S n).length).sum = usedF S := by
  rw [list_all S h.live]
  constructor
  · intro n hn
    obtain ⟨p, hp, rfl⟩ := List.mem_map.1 hn
    have hg := (getN_some hI.upNow (s := p.1) (f := p.2)).2 hp
    simp [ofF, namedF, h.live, h.names p hp, hg]
  · rw [List.map_map]
    unfold usedF
    congr 1
    refine List.map_congr_left fun p hp => ?_
    have hg := (getN_some hI.upNow (s := p.1) (f := p.2)).2 hp
    show (bytesF S p.1).length = lenF S p.2
    unfold bytesF lenF
    rw [hg]
    show (((S.files[p.2]?).map Fl.b).getD []).length = _
    cases S.files[p.2]? <;> rfl
end
end Go.Proofs.Ytmoaabjiokjjlaa
