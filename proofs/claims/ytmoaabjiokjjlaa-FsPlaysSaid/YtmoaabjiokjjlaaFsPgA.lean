/- FsPlays, in plain words: the document's rows of names and of changes. -/
import Derived.Test.YtmoaabjiokjjlaaFsP
import Derived.Test.YtmoaabjiokjjlaaFsZ
import Derived.Lib.IndexBytes
import Derived.Test.YtmoaabjiokjjlaaRelT
namespace Go.Proofs.Ytmoaabjiokjjlaa
open Go.Maps Go.WideShapes
set_option linter.unusedVariables false
set_option linter.unusedSimpArgs false

/-- put, the document's way. -/
def putI (l : Ns) (s : Nm) (f : Int) : Ns := if f < 0 then delN l s else putN l s f.toNat
theorem putI_up {l : Ns} (h : Up l) (s : Nm) (f : Int) : Up (putI l s f) := by
  unfold putI
  split
  · exact delN_up h s
  · exact putN_up h s _
theorem putI_len (l : Ns) (s : Nm) (f : Int) : (putI l s f).length ≤ l.length + 1 := by
  unfold putI
  split
  · exact Nat.le_succ_of_le (delN_len l s)
  · exact putN_len l s _
theorem before_not {a b : Nm} (h : bytesBefore a b = true) : bytesBefore b a = false := by
  cases h2 : bytesBefore b a with
  | false => rfl
  | true =>
    have := bytes_trans _ _ _ h h2
    rw [WideAt.bytes_irrefl] at this
    cases this
theorem putI_is {l : Ns} (hu : Up l) {s : Nm} {f : Int} {k k' : Nat} (hk : k ≤ l.length) (h1 : ∀ p ∈ l.take k, bytesBefore p.1 s = true) (h2 : ∀ p, l[k]? = some p → bytesBefore p.1 s = false)
    (h3 : (k' = k + 1 ∧ ∃ p, l[k]? = some p ∧ p.1 = s) ∨ (k' = k ∧ ∀ p, l[k]? = some p → p.1 ≠ s)) : putI l s f = l.take k ++ (if f < 0 then [] else [(s, f.toNat)]) ++ l.drop k' := by
  have hdrop : ∀ q ∈ l.drop k', bytesBefore s q.1 = true := by
    rcases h3 with ⟨rfl, p, hp, hps⟩ | ⟨rfl, hne⟩
    · intro q hq
      have hl : k < l.length := (List.getElem?_eq_some_iff.1 hp).1
      have e : l.drop k = p :: l.drop (k + 1) := by
        rw [List.drop_eq_getElem_cons hl]
        congr 1
        rw [List.getElem?_eq_getElem hl] at hp
        exact Option.some.inj hp
      have hpw : (l.drop k).Pairwise fun p q => bytesBefore p.1 q.1 = true := List.Pairwise.sublist (List.drop_sublist k l) hu
      rw [e] at hpw
      rw [← hps]
      exact (List.pairwise_cons.1 hpw).1 q hq
    · intro q hq
      by_cases hl : k' < l.length
      · obtain ⟨p, hp⟩ : ∃ p, l[k']? = some p := ⟨_, List.getElem?_eq_getElem hl⟩
        have e : l.drop k' = p :: l.drop (k' + 1) := by
          rw [List.drop_eq_getElem_cons hl]
          congr 1
          rw [List.getElem?_eq_getElem hl] at hp
          exact Option.some.inj hp
        have hps : bytesBefore s p.1 = true := by
          rcases WideAt.bytes_total p.1 s (hne p hp) with h | h
          · rw [h2 p hp] at h; cases h
          · exact h
        have hpw : (l.drop k').Pairwise fun p q => bytesBefore p.1 q.1 = true := List.Pairwise.sublist (List.drop_sublist k' l) hu
        rw [e] at hpw hq
        rcases List.mem_cons.1 hq with rfl | hq
        · exact hps
        · exact bytes_trans _ _ _ hps ((List.pairwise_cons.1 hpw).1 q hq)
      · rw [List.drop_eq_nil_of_le (by omega)] at hq
        cases hq
  have hmem : ∀ q, (q ∈ l ∧ q.1 ≠ s) ↔ (q ∈ l.take k ∨ q ∈ l.drop k') := by
    intro q
    constructor
    · rintro ⟨hq, hqs⟩
      rw [← List.take_append_drop k l] at hq
      rcases List.mem_append.1 hq with hq | hq
      · exact .inl hq
      · right
        rcases h3 with ⟨rfl, p, hp, hps⟩ | ⟨rfl, _⟩
        · have hl : k < l.length := (List.getElem?_eq_some_iff.1 hp).1
          rw [List.drop_eq_getElem_cons hl] at hq
          rcases List.mem_cons.1 hq with rfl | hq
          · rw [List.getElem?_eq_getElem hl] at hp
            exact absurd (by rw [Option.some.inj hp]; exact hps) hqs
          · exact hq
        · exact hq
    · rintro (hq | hq)
      · exact ⟨List.mem_of_mem_take hq, before_ne (h1 q hq)⟩
      · exact ⟨List.mem_of_mem_drop hq, Ne.symm (before_ne (hdrop q hq))⟩
  have hup : Up (l.take k ++ (if f < 0 then [] else [(s, f.toNat)]) ++ l.drop k') := by
    unfold Up
    rw [List.pairwise_append]
    refine ⟨?_, List.Pairwise.sublist (List.drop_sublist k' l) hu, fun a ha b hb => ?_⟩
    · rw [List.pairwise_append]
      refine ⟨List.Pairwise.sublist (List.take_sublist k l) hu, ?_, fun a ha b hb => ?_⟩
      · split
        · exact List.Pairwise.nil
        · exact List.pairwise_singleton _ _
      · split at hb
        · cases hb
        · rw [List.mem_singleton.1 hb]; exact h1 a ha
    · rcases List.mem_append.1 ha with ha | ha
      · exact bytes_trans _ _ _ (h1 a ha) (hdrop b hb)
      · split at ha
        · cases ha
        · rw [List.mem_singleton.1 ha]; exact hdrop b hb
  refine up_ext (putI_up hu s f) hup fun q => ?_
  rw [List.mem_append, List.mem_append]
  unfold putI
  split
  · rw [delN_mem, hmem]
    simp
  · rw [putN_mem, hmem]
    simp
    constructor
    · rintro (h | h | h)
      · exact .inl (.inr h)
      · exact .inl (.inl h)
      · exact .inr h
    · rintro ((h | h) | h)
      · exact .inr (.inl h)
      · exact .inl h
      · exact .inr (.inr h)

/-! ### changes -/
/-- A change as the document has it. -/
structure Cd where
  n : Nm
  a : Nm
  f : Int
def chD : Ch → Cd
  | .create n f => ⟨n, [], f⟩
  | .rename a b f => ⟨b, a, f⟩
  | .remove n => ⟨n, [], -1⟩
def applyD (l : Ns) (c : Cd) : Ns := putI (if c.a = [] then l else putI l c.a (-1)) c.n c.f
/-- A change that may be. -/
def OkD : Ch → Prop
  | .create n _ => n.length ≤ 200
  | .rename a b _ => a ≠ [] ∧ a ≠ b ∧ a.length ≤ 200 ∧ b.length ≤ 200
  | .remove n => n.length ≤ 200
theorem applyD_is {l : Ns} (hu : Up l) {c : Ch} (h : OkD c) : applyD l (chD c) = applyC l c := by
  cases c with
  | create n f =>
    show putI (if ([] : Nm) = [] then l else _) n (f : Int) = putN l n f
    rw [if_pos rfl, putI, if_neg (by omega)]
    rfl
  | remove n =>
    show putI (if ([] : Nm) = [] then l else _) n (-1) = delN l n
    rw [if_pos rfl, putI, if_pos (by omega)]
  | rename a b f =>
    show putI (if a = [] then l else putI l a (-1)) b (f : Int) = delN (putN l b f) a
    rw [if_neg h.1, putI, if_neg (by omega), putI, if_pos (by omega)]
    refine up_ext (putN_up (delN_up hu a) b _) (delN_up (putN_up hu b f) a) fun p => ?_
    rw [putN_mem, delN_mem, delN_mem, putN_mem]
    have e : ((f : Int)).toNat = f := by omega
    rw [e]
    constructor
    · rintro (rfl | ⟨⟨h1, h2⟩, h3⟩)
      · exact ⟨.inl rfl, fun hc => h.2.1 hc.symm⟩
      · exact ⟨.inr ⟨h1, h3⟩, h2⟩
    · rintro ⟨rfl | ⟨h1, h2⟩, h3⟩
      · exact .inl rfl
      · exact .inr ⟨⟨h1, h3⟩, h2⟩

/-! ### what the document needs besides -/
structure Dv (S : Fs) : Prop where
  wt : ∀ c ∈ S.wait, OkD c
  ls : ∀ p ∈ S.last, p.1.length ≤ 200
  by_ : ∀ x ∈ S.files, ∀ b ∈ x.b, 0 ≤ b ∧ b < 256
theorem applyC_short {l : Ns} {c : Ch} (hc : OkD c) (h : ∀ p ∈ l, p.1.length ≤ 200) : ∀ p ∈ applyC l c, p.1.length ≤ 200 := by
  intro p hp
  cases c with
  | create n f =>
    rcases putN_mem.1 hp with rfl | ⟨h1, _⟩
    · exact hc
    · exact h p h1
  | rename a b f =>
    rcases putN_mem.1 (delN_mem.1 hp).1 with rfl | ⟨h1, _⟩
    · exact hc.2.2.2
    · exact h p h1
  | remove n => exact h p (delN_mem.1 hp).1
theorem repl_short : ∀ {W : List Ch} {l : Ns}, (∀ c ∈ W, OkD c) → (∀ p ∈ l, p.1.length ≤ 200) → ∀ p ∈ repl l W, p.1.length ≤ 200
  | [], _, _, h => h
  | c :: W, l, hW, h => repl_short (W := W) (l := applyC l c) (fun d hd => hW d (by simp [hd])) (applyC_short (hW c (by simp)) h)
theorem Dv.now {N M : Nat} {S : Fs} (h : Dv S) (hI : Inv N M S) : ∀ p ∈ S.now, p.1.length ≤ 200 := by rw [hI.now]; exact repl_short h.wt h.ls
theorem Dv.burn {S : Fs} (h : Dv S) : Dv (burnF S) := ⟨h.wt, h.ls, h.by_⟩
theorem Dv.change {S : Fs} {c : Ch} (h : Dv S) (hc : OkD c) : Dv (changeF S c) := ⟨fun d hd => by
  rcases List.mem_append.1 hd with hd | hd
  · exact h.wt d hd
  · rw [List.mem_singleton.1 hd]; exact hc, h.ls, h.by_⟩
theorem okN_sz {n : Nm} (h : okN n = true) : n ≠ [] ∧ n.length ≤ 200 := by
  unfold okN at h
  simp at h
  exact ⟨fun e => by rw [e] at h; simp at h, h.2.1⟩
theorem namedF_ok {S : Fs} {l : List Nm} (h : namedF S l = 0) : S.dead = false ∧ ∀ n ∈ l, okN n = true := by
  unfold namedF at h
  cases hd : S.dead
  · rw [hd] at h
    refine ⟨rfl, fun n hn => ?_⟩
    by_cases ha : l.all okN = true
    · exact List.all_eq_true.1 ha n hn
    · simp [ha] at h
  · rw [hd] at h; simp at h
theorem Dv.create {S : Fs} (h : Dv S) (n : Nm) : Dv (createF S n).2 := by
  unfold createF
  split
  · exact h
  · rename_i hn
    split
    · exact h
    · split
      · exact h.burn
      · have ho := okN_sz ((namedF_ok (Decidable.not_not.1 hn)).2 n (by simp))
        refine ⟨fun d hd => ?_, h.ls, fun x hx => ?_⟩
        · rcases List.mem_append.1 hd with hd | hd
          · exact h.wt d hd
          · rw [List.mem_singleton.1 hd]; exact ho.2
        · rcases List.mem_append.1 hx with hx | hx
          · exact h.by_ x hx
          · rw [List.mem_singleton.1 hx]; intro b hb; cases hb
theorem Dv.mod {S : Fs} (h : Dv S) {n : Nm} {g : Fl → Fl} (hg : ∀ x ∈ S.files, ∀ b ∈ (g x).b, 0 ≤ b ∧ b < 256) : Dv (modF S n g) := by
  unfold modF
  split
  · exact h
  · refine ⟨h.wt, h.ls, fun x hx => ?_⟩
    rcases modify_mem hx with hx | ⟨y, hy, rfl⟩
    · exact h.by_ x hx
    · exact hg y (List.mem_of_getElem? hy)
theorem Dv.append {S : Fs} (h : Dv S) (n : Nm) {x : List Int} (hx : ∀ b ∈ x, 0 ≤ b ∧ b < 256) : Dv (appendF S n x).2 := by
  unfold appendF
  split
  · exact h
  · split
    · exact h
    · split
      · exact h.burn
      · refine h.burn.mod fun y hy b hb => ?_
        rcases List.mem_append.1 hb with hb | hb
        · exact h.by_ y hy b hb
        · exact hx b hb
theorem Dv.sync {S : Fs} (h : Dv S) (n : Nm) : Dv (syncF S n).2 := by
  unfold syncF
  split
  · exact h
  · split
    · exact h.burn
    · exact h.burn.mod fun y hy b hb => h.by_ y hy b hb
theorem Dv.rename {S : Fs} (h : Dv S) (a b : Nm) : Dv (renameF S a b).2 := by
  unfold renameF
  split
  · exact h
  · rename_i hn
    have ho := (namedF_ok (Decidable.not_not.1 hn)).2
    split
    · exact h
    · split
      · exact h.burn
      · split
        · exact h.burn
        · rename_i he
          have h1 := okN_sz (ho a (by simp))
          have h2 := okN_sz (ho b (by simp))
          exact h.burn.change ⟨h1.1, he, h1.2, h2.2⟩
theorem ofF_ok {S : Fs} {n : Nm} (h : ofF S n = 0) : S.dead = false ∧ okN n = true ∧ ∃ i, getN S.now n = some i := by
  unfold ofF at h
  split at h
  · rename_i h1; exact absurd h h1
  · rename_i h1
    have := namedF_ok (Decidable.not_not.1 h1)
    split at h
    · cases h
    · rename_i h2
      exact ⟨this.1, this.2 n (by simp), getN_of h2⟩
theorem Dv.remove {S : Fs} (h : Dv S) (n : Nm) : Dv (removeF S n).2 := by
  unfold removeF
  split
  · exact h
  · rename_i hn
    split
    · exact h.burn
    · exact h.burn.change (c := .remove n) (okN_sz (ofF_ok (Decidable.not_not.1 hn)).2.1).2
theorem Dv.syncNames {N M : Nat} {S : Fs} (h : Dv S) (hI : Inv N M S) : Dv (syncNamesF S).2 := by
  unfold syncNamesF
  split
  · exact h
  · split
    · exact h.burn
    · exact ⟨fun c hc => (by cases hc), h.now hI, h.by_⟩
theorem Dv.fuse {S : Fs} (h : Dv S) (k : Int) : Dv (fuseF S k) := ⟨h.wt, h.ls, h.by_⟩
theorem cutsF_by (D : List Int) : ∀ (l : Ns) (i : Nat) (F : List Fl), (∀ x ∈ F, ∀ b ∈ x.b, 0 ≤ b ∧ b < 256) → ∀ x ∈ cutsF D i l F, ∀ b ∈ x.b, 0 ≤ b ∧ b < 256
  | [], _, _, h => h
  | p :: r, i, F, h => by
    rw [cutsF]
    refine cutsF_by D r (i + 1) _ fun x hx => ?_
    rcases modify_mem hx with hx | ⟨y, hy, rfl⟩
    · exact h x hx
    · exact fun b hb => h y (List.mem_of_getElem? hy) b (List.mem_of_mem_take hb)
theorem Dv.crash {S : Fs} (h : Dv S) (k : Int) (D : List Int) : Dv (crashF S k D) :=
  ⟨fun c hc => (by cases hc), repl_short (fun c hc => h.wt c (List.mem_of_mem_take hc)) h.ls, cutsF_by D _ 0 _ h.by_⟩
theorem Dv.new (q : Int) : Dv (newF q) := ⟨fun c hc => (by cases hc), fun p hp => (by cases hp), fun x hx => (by cases hx)⟩
end Go.Proofs.Ytmoaabjiokjjlaa
namespace Go.Proofs.Ytmoaabjiokjjlaa
open Go.RowKit Go.Maps
set_option linter.unusedVariables false
set_option linter.unusedSimpArgs false

/-! ### rows of structs -/
/-- Rows whose elements have z cells each. -/
theorem flat_len {α : Type} (z : Nat) (g : α → List Value) (hg : ∀ x, (g x).length = z) : ∀ L : List α, (L.flatMap g).length = L.length * z
  | [] => by simp
  | x :: L => by rw [List.flatMap_cons, List.length_append, hg, flat_len z g hg L, List.length_cons, Nat.succ_mul]; omega
theorem flat_at {α : Type} (z : Nat) (g : α → List Value) (hg : ∀ x, (g x).length = z) : ∀ (L : List α) (i j : Nat) (x : α), L[i]? = some x → j < z → (L.flatMap g)[i * z + j]? = (g x)[j]?
  | [], i, j, x, h, _ => by simp at h
  | y :: L, 0, j, x, h, hj => by
    simp at h; subst h
    rw [List.flatMap_cons, Nat.zero_mul, Nat.zero_add, List.getElem?_append_left (by rw [hg]; exact hj)]
  | y :: L, i + 1, j, x, h, hj => by
    rw [List.flatMap_cons, List.getElem?_append_right (by rw [hg, Nat.succ_mul]; omega), hg, show (i + 1) * z + j - z = i * z + j by rw [Nat.succ_mul]; omega]
    exact flat_at z g hg L i j x (by simpa using h) hj
theorem flat_modify {α : Type} (z : Nat) (g : α → List Value) (hg : ∀ x, (g x).length = z) : ∀ (L : List α) (i : Nat) (f : α → α) (x : α), L[i]? = some x → (L.modify i f).flatMap g = (L.flatMap g).take (i * z) ++ g (f x) ++ (L.flatMap g).drop (i * z + z)
  | [], i, f, x, h => by simp at h
  | y :: L, 0, f, x, h => by
    simp at h; subst h
    simp [hg, List.drop_append, List.drop_eq_nil_of_le]
  | y :: L, i + 1, f, x, h => by
    rw [List.modify_succ_cons, List.flatMap_cons, flat_modify z g hg L i f x (by simpa using h), List.flatMap_cons, List.take_append, List.drop_append, hg, Nat.succ_mul]
    have e1 : (g y).take (i * z + z) = g y := List.take_of_length_le (by rw [hg]; omega)
    have e2 : (g y).drop (i * z + z + z) = [] := List.drop_eq_nil_of_le (by rw [hg]; omega)
    rw [e1, e2, show i * z + z - z = i * z by omega, show i * z + z + z - z = i * z + z by omega]
    simp
/-- The cells of such a row's element. -/
theorem OwnS.flat {α : Type} {z : Nat} {g : α → List Value} (hg : ∀ x, (g x).length = z) {w : World} {B n c : Nat} {e : TypeId} {A : Option Addr} {L : List α} (hz : 0 < z) (h : OwnS w B e z (.slice A n c) n (L.flatMap g)) {i : Nat} {x : α} (hx : L[i]? = some x) :
    ∃ b o, A = some ⟨b, o, none⟩ ∧ B ≤ b ∧ b < w.heap.size ∧ ∀ j, j < z → w.cell? ⟨b, o + i * z + j, none⟩ = (g x)[j]? := by
  have hi := (List.getElem?_eq_some_iff.1 hx).1
  have hlen := flat_len z g hg L
  have hij : ∀ j, j < z → i * z + j < L.length * z := fun j hj => by
    have : (i + 1) * z ≤ L.length * z := Nat.mul_le_mul_right z hi
    rw [Nat.succ_mul] at this
    omega
  obtain ⟨b, o, c', hv, hb, hbl, hc⟩ := h.cells (by rw [hlen]; have := hij 0 hz; omega)
  injection hv with hA _ _
  refine ⟨b, o, hA, hb, hbl, fun j hj => ?_⟩
  rw [Nat.add_assoc, hc (i * z + j) (by rw [hlen]; exact hij j hj)]
  exact flat_at z g hg L i j x hx hj

/-! ### the rows -/
def nmV (p : Nm × Nat) : List Value := [.string (bkN p.1), .int .i64 (p.2 : Int)]
def flV (x : Fl) : List Value := [.string (strOfNums x.b), .int .i64 (x.s : Int)]
def cdV (c : Cd) : List Value := [.string (bkN c.n), .string (bkN c.a), .int .i64 c.f]
def nmsV (l : Ns) : List Value := l.flatMap nmV
def flsV (l : List Fl) : List Value := l.flatMap flV
def cdsV (l : List Ch) : List Value := (l.map chD).flatMap cdV
theorem nmV_len (p : Nm × Nat) : (nmV p).length = 2 := rfl
theorem flV_len (p : Fl) : (flV p).length = 2 := rfl
theorem cdV_len (p : Cd) : (cdV p).length = 3 := rfl
theorem nmsV_len (l : Ns) : (nmsV l).length = l.length * 2 := flat_len 2 nmV nmV_len l
theorem flsV_len (l : List Fl) : (flsV l).length = l.length * 2 := flat_len 2 flV flV_len l
theorem cdsV_len (l : List Ch) : (cdsV l).length = l.length * 3 := by unfold cdsV; rw [flat_len 3 cdV cdV_len, List.length_map]
theorem nmsV_one (l : Ns) : ∀ u ∈ nmsV l, u.oneCell' = true := fun u hu => by
  obtain ⟨x, _, h⟩ := List.mem_flatMap.1 hu
  simp [nmV] at h
  rcases h with rfl | rfl <;> rfl
theorem flsV_one (l : List Fl) : ∀ u ∈ flsV l, u.oneCell' = true := fun u hu => by
  obtain ⟨x, _, h⟩ := List.mem_flatMap.1 hu
  simp [flV] at h
  rcases h with rfl | rfl <;> rfl
theorem cdsV_one (l : List Ch) : ∀ u ∈ cdsV l, u.oneCell' = true := fun u hu => by
  obtain ⟨x, _, h⟩ := List.mem_flatMap.1 hu
  simp [cdV] at h
  rcases h with rfl | rfl | rfl <;> rfl
/-- Names in a row. -/
abbrev NmS (w : World) (B : Nat) (v : Value) (l : Ns) : Prop := OwnS w B 96 2 v l.length (nmsV l)
abbrev FlS (w : World) (B : Nat) (v : Value) (l : List Fl) : Prop := OwnS w B 105 2 v l.length (flsV l)
abbrev CdS (w : World) (B : Nat) (v : Value) (l : List Ch) : Prop := OwnS w B 108 3 v l.length (cdsV l)
theorem nmS_at {w : World} {B n c : Nat} {A : Option Addr} {l : Ns} (h : NmS w B (.slice A n c) l) {i : Nat} {p : Nm × Nat} (hp : l[i]? = some p) :
    ∃ b o, A = some ⟨b, o, none⟩ ∧ B ≤ b ∧ b < w.heap.size ∧ w.cell? ⟨b, o + i * 2, none⟩ = some (.string (bkN p.1)) ∧ w.cell? ⟨b, o + i * 2 + 1, none⟩ = some (.int .i64 (p.2 : Int)) := by
  have hn : n = l.length := by obtain ⟨A', c', hv⟩ := h.shape; injection hv with _ h1 _
  subst hn
  obtain ⟨b, o, hA, hb, hl, hc⟩ := OwnS.flat nmV_len (by decide) h hp
  exact ⟨b, o, hA, hb, hl, hc 0 (by decide), hc 1 (by decide)⟩
theorem flS_at {w : World} {B n c : Nat} {A : Option Addr} {l : List Fl} (h : FlS w B (.slice A n c) l) {i : Nat} {p : Fl} (hp : l[i]? = some p) :
    ∃ b o, A = some ⟨b, o, none⟩ ∧ B ≤ b ∧ b < w.heap.size ∧ w.cell? ⟨b, o + i * 2, none⟩ = some (.string (strOfNums p.b)) ∧ w.cell? ⟨b, o + i * 2 + 1, none⟩ = some (.int .i64 (p.s : Int)) := by
  have hn : n = l.length := by obtain ⟨A', c', hv⟩ := h.shape; injection hv with _ h1 _
  subst hn
  obtain ⟨b, o, hA, hb, hl, hc⟩ := OwnS.flat flV_len (by decide) h hp
  exact ⟨b, o, hA, hb, hl, hc 0 (by decide), hc 1 (by decide)⟩
theorem cdS_at {w : World} {B n c : Nat} {A : Option Addr} {l : List Ch} (h : CdS w B (.slice A n c) l) {i : Nat} {p : Ch} (hp : l[i]? = some p) :
    ∃ b o, A = some ⟨b, o, none⟩ ∧ B ≤ b ∧ b < w.heap.size ∧ w.cell? ⟨b, o + i * 3, none⟩ = some (.string (bkN (chD p).n)) ∧ w.cell? ⟨b, o + i * 3 + 1, none⟩ = some (.string (bkN (chD p).a)) ∧ w.cell? ⟨b, o + i * 3 + 2, none⟩ = some (.int .i64 (chD p).f) := by
  have hn : n = l.length := by obtain ⟨A', c', hv⟩ := h.shape; injection hv with _ h1 _
  subst hn
  obtain ⟨b, o, hA, hb, hl, hc⟩ := OwnS.flat cdV_len (by decide) h (by rw [List.getElem?_map, hp]; rfl : (l.map chD)[i]? = some (chD p))
  exact ⟨b, o, hA, hb, hl, hc 0 (by decide), hc 1 (by decide), hc 2 (by decide)⟩
theorem info_nmd : (Try.prog.info? 96).map (fun i => (i.zero, i.size, i.bytes)) = some (some (.agg #[.string ⟨#[]⟩, .int .i64 0]), 2, 24) := by kernel_rfl
theorem info_fle : (Try.prog.info? 105).map (fun i => (i.zero, i.size, i.bytes)) = some (some (.agg #[.string ⟨#[]⟩, .int .i64 0]), 2, 24) := by kernel_rfl
theorem info_chg : (Try.prog.info? 108).map (fun i => (i.zero, i.size, i.bytes)) = some (some (.agg #[.string ⟨#[]⟩, .string ⟨#[]⟩, .int .i64 0]), 3, 40) := by kernel_rfl

/-! ### the document's file system -/
structure Rq where
  p : Nat
  vf : Value
  vn : Value
  vl : Value
  vw : Value
def rfF (q : Rq) (S : Fs) (i : Nat) : Value :=
  if i = 0 then .int .i64 S.quota else if i = 1 then q.vf else if i = 2 then q.vn else if i = 3 then q.vl else if i = 4 then q.vw else if i = 5 then .int .i64 S.fuse else .bool S.dead
structure Rq.In (q : Rq) (F : Nat → Prop) : Prop where
  p : F q.p
  vf : ∀ k, q.vf.ownBlock = some k → F k
  vn : ∀ k, q.vn.ownBlock = some k → F k
  vl : ∀ k, q.vl.ownBlock = some k → F k
  vw : ∀ k, q.vw.ownBlock = some k → F k
structure RfAt (w : World) (F : Nat → Prop) (q : Rq) (S : Fs) : Prop where
  cel : Cel w q.p 90 7 (rfF q S)
  files : FlS w 0 q.vf S.files
  now : NmS w 0 q.vn S.now
  last : NmS w 0 q.vl S.last
  wait : CdS w 0 q.vw S.wait
  mem : q.In F
section
variable {w w' : World} {F F' : Nat → Prop} {q : Rq} {S S' : Fs} {N M : Nat}
theorem Rq.In.mono (h : q.In F) (hF : ∀ k, F k → F' k) : q.In F' := ⟨hF _ h.p, fun k hk => hF k (h.vf k hk), fun k hk => hF k (h.vn k hk), fun k hk => hF k (h.vl k hk), fun k hk => hF k (h.vw k hk)⟩
theorem RfAt.mono (h : RfAt w F q S) (hF : ∀ k, F k → F' k) : RfAt w F' q S := ⟨h.cel, h.files, h.now, h.last, h.wait, h.mem.mono hF⟩
theorem RfAt.bound (h : RfAt w F q S) : RfAt w (fun k => F k ∧ k < w.heap.size) q S :=
  ⟨h.cel, h.files, h.now, h.last, h.wait, ⟨⟨h.mem.p, h.cel.blk⟩, fun k hk => ⟨h.mem.vf k hk, (h.files.lt k hk).2⟩, fun k hk => ⟨h.mem.vn k hk, (h.now.lt k hk).2⟩, fun k hk => ⟨h.mem.vl k hk, (h.last.lt k hk).2⟩, fun k hk => ⟨h.mem.vw k hk, (h.wait.lt k hk).2⟩⟩⟩
theorem RfAt.same (h : RfAt w F q S) (hw : ∀ k, F k → k < w.heap.size → w'.heap[k]? = w.heap[k]?) : RfAt w' F q S :=
  ⟨h.cel.same (hw _ h.mem.p h.cel.blk), h.files.heap fun k hk => hw k (h.mem.vf k hk) (h.files.lt k hk).2, h.now.heap fun k hk => hw k (h.mem.vn k hk) (h.now.lt k hk).2, h.last.heap fun k hk => hw k (h.mem.vl k hk) (h.last.lt k hk).2, h.wait.heap fun k hk => hw k (h.mem.vw k hk) (h.wait.lt k hk).2, h.mem⟩
theorem RfAt.chg {C : Nat → Prop} (h : RfAt w F q S) (hc : Chg C w w') (hn : ∀ k, F k → k < w.heap.size → ¬ C k) : RfAt w' F q S := h.same fun k hk hl => hc.block k hl (hn k hk hl)
theorem RfAt.below (h : RfAt w F q S) (hb : Below w.heap.size w w') : RfAt w' F q S := h.same fun k _ hl => hb.block k hl
theorem RfAt.drew (h : RfAt w F q S) : RfAt w.drew F q S := h.same fun _ _ _ => rfl
theorem RfAt.c0 (h : RfAt w F q S) : w.cell? ⟨q.p, 0, none⟩ = some (.int .i64 S.quota) := h.cel.cell 0 (by decide)
theorem RfAt.c1 (h : RfAt w F q S) : w.cell? ⟨q.p, 1, none⟩ = some q.vf := h.cel.cell 1 (by decide)
theorem RfAt.c2 (h : RfAt w F q S) : w.cell? ⟨q.p, 2, none⟩ = some q.vn := h.cel.cell 2 (by decide)
theorem RfAt.c3 (h : RfAt w F q S) : w.cell? ⟨q.p, 3, none⟩ = some q.vl := h.cel.cell 3 (by decide)
theorem RfAt.c4 (h : RfAt w F q S) : w.cell? ⟨q.p, 4, none⟩ = some q.vw := h.cel.cell 4 (by decide)
theorem RfAt.c5 (h : RfAt w F q S) : w.cell? ⟨q.p, 5, none⟩ = some (.int .i64 S.fuse) := h.cel.cell 5 (by decide)
theorem RfAt.c6 (h : RfAt w F q S) : w.cell? ⟨q.p, 6, none⟩ = some (.bool S.dead) := h.cel.cell 6 (by decide)
theorem RfAt.fz (h : RfAt w F q S) (i : Nat) : w.frozen? ⟨q.p, i, none⟩ = false := h.cel.frozen i
/-- Its own blocks are no struct's. -/
theorem RfAt.np (h : RfAt w F q S) : (∀ k, q.vf.ownBlock = some k → k ≠ q.p) ∧ (∀ k, q.vn.ownBlock = some k → k ≠ q.p) ∧ (∀ k, q.vl.ownBlock = some k → k ≠ q.p) ∧ (∀ k, q.vw.ownBlock = some k → k ≠ q.p) :=
  ⟨fun k hk => kd_ne (h.files.kd hk) h.cel.kd (by decide), fun k hk => kd_ne (h.now.kd hk) h.cel.kd (by decide), fun k hk => kd_ne (h.last.kd hk) h.cel.kd (by decide), fun k hk => kd_ne (h.wait.kd hk) h.cel.kd (by decide)⟩
/-- The struct alone has changed. -/
theorem RfAt.stP (h : RfAt w F q S) (hw : ∀ k, k ≠ q.p → k < w.heap.size → w'.heap[k]? = w.heap[k]?) (hc : Cel w' q.p 90 7 (rfF q S')) (e1 : S'.now = S.now) (e2 : S'.last = S.last) (e3 : S'.wait = S.wait) (e4 : S'.files = S.files) : RfAt w' F q S' := by
  obtain ⟨n1, n2, n3, n4⟩ := h.np
  refine ⟨hc, ?_, ?_, ?_, ?_, h.mem⟩
  · rw [e4]; exact h.files.heap fun k hk => hw k (n1 k hk) (h.files.lt k hk).2
  · rw [e1]; exact h.now.heap fun k hk => hw k (n2 k hk) (h.now.lt k hk).2
  · rw [e2]; exact h.last.heap fun k hk => hw k (n3 k hk) (h.last.lt k hk).2
  · rw [e3]; exact h.wait.heap fun k hk => hw k (n4 k hk) (h.wait.lt k hk).2
theorem RfAt.set5 (h : RfAt w F q S) (x : Int) : RfAt (w.setCell ⟨q.p, 5, none⟩ (.int .i64 x)) F q { S with fuse := x } :=
  h.stP (fun k hk _ => Below.heap_setCell _ _ _ _ hk) ((h.cel.set 5 _).congr fun i hi => by
    have : i = 0 ∨ i = 1 ∨ i = 2 ∨ i = 3 ∨ i = 4 ∨ i = 5 ∨ i = 6 := by omega
    rcases this with rfl | rfl | rfl | rfl | rfl | rfl | rfl <;> rfl) rfl rfl rfl rfl
theorem RfAt.set6 (h : RfAt w F q S) (b : Bool) : RfAt (w.setCell ⟨q.p, 6, none⟩ (.bool b)) F q { S with dead := b } :=
  h.stP (fun k hk _ => Below.heap_setCell _ _ _ _ hk) ((h.cel.set 6 _).congr fun i hi => by
    have : i = 0 ∨ i = 1 ∨ i = 2 ∨ i = 3 ∨ i = 4 ∨ i = 5 ∨ i = 6 := by omega
    rcases this with rfl | rfl | rfl | rfl | rfl | rfl | rfl <;> rfl) rfl rfl rfl rfl
/-- What a call that changes it leaves. -/
def RfTo (F : Nat → Prop) (p : Nat) (w : World) (S' : Fs) (w' : World) : Prop :=
  ∃ q', RfAt w' (fun k => F k ∨ w.heap.size ≤ k) q' S' ∧ q'.p = p ∧ Chg F w w'
theorem RfTo.refl (h : RfAt w F q S) : RfTo F q.p w S w := ⟨q, h.mono fun k hk => .inl hk, rfl, Chg.refl _ _⟩
/-- One after another. -/
theorem RfTo.trans {p : Nat} {w1 w2 : World} (h1 : RfTo F p w S w1) (h2 : ∀ q', RfAt w1 (fun k => F k ∨ w.heap.size ≤ k) q' S → q'.p = p → RfTo (fun k => F k ∨ w.heap.size ≤ k) p w1 S' w2) : RfTo F p w S' w2 := by
  obtain ⟨q1, hA, hp, hC⟩ := h1
  obtain ⟨q2, hB, hp2, hD⟩ := h2 q1 hA hp
  have hs := hC.size
  exact ⟨q2, hB.mono (fun k hk => by rcases hk with hk | hk; exact hk; exact .inr (by omega)), hp2, hC.trans hD (fun k hl hk => by rcases hk with hk | hk; exact hk; omega)⟩
end
end Go.Proofs.Ytmoaabjiokjjlaa
namespace Go.Proofs.Ytmoaabjiokjjlaa
open Go.RowKit Go.Maps
set_option linter.unusedVariables false
set_option linter.unusedSimpArgs false

theorem okN_zero {l : List UInt8} (h : (0 : UInt8) ∈ l) : okN l = false := by
  unfold okN
  simp [h]
theorem okN_free {l : List UInt8} (h : (0 : UInt8) ∉ l) : okN l = (decide (0 < l.length) && decide (l.length ≤ 200)) := by
  unfold okN
  have : l.contains 0 = false := by simpa using h
  rw [this]
  simp [Nat.succ_le_iff]
set_option maxRecDepth 100000 in
theorem rname_any (s : ByteArray) (w : World) (hs : s.size ≤ 9223372036854775807) : Calls Try.prog 57 #[.string s] w fun e w' => e = .returned (.bool (okN s.data.toList)) ∧ w = w' := by
  have HS := Lib.hid hs
  have HZ := Lib.hid (okN_zero (l := s.data.toList))
  have HF := Lib.hid (okN_free (l := s.data.toList))
  generalize okN s.data.toList = ans at *
  clear hs
  go_enter Try.func57, Try.ntmps57
  go_wp2
  go_loopw [3] (fun v3 wr => ∃ i : Nat, v3 = .int .i64 (i : Int) ∧ i ≤ s.size ∧ wr = w ∧ ∀ j, j < i → s.data.toList[j]? ≠ some 0) (fun v3 _ => s.size - (intOf v3).toNat)
  case atStart => exact ⟨0, rfl, Nat.zero_le _, rfl, fun j hj => by omega⟩
  case round =>
    obtain ⟨i, rfl, hi, rfl, hno⟩ := hrel
    have HNO := Lib.hid hno
    clear hno
    by_cases hlt : i < s.size
    · have hx := Lib.data_getElem? s i hlt
      have d0 : decide ((i : Int) < (s.size : Int)) = true := decide_eq_true (by omega)
      have d0' : decide (i < s.size) = true := decide_eq_true hlt
      by_cases h0 : (s[i]'hlt) = 0
      · have HAN : Hid (ans = false) := Lib.hid (HZ.out (by rw [h0] at hx; exact List.mem_of_getElem? hx))
        have q1 : (((s[i]'hlt).toNat : Int) == 0) = true := by rw [h0]; rfl
        have q1' : decide (((s[i]'hlt).toNat : Int) = 0) = true := by rw [h0]; rfl
        clear hx h0
        go_wp2
        go_ret
        exact ⟨by rw [HAN.out]; first | done | rfl, rfl⟩
      · have hn0 : ((s[i]'hlt).toNat : Int) ≠ 0 := fun h => h0 (UInt8.toNat_inj.1 (by show (s[i]'hlt).toNat = 0; omega))
        have q1 : (((s[i]'hlt).toNat : Int) == 0) = false := by rw [beq_eq_false_iff_ne]; exact hn0
        have q1' : decide (((s[i]'hlt).toNat : Int) = 0) = false := decide_eq_false hn0
        have HN2 : Hid (∀ j, j < i + 1 → s.data.toList[j]? ≠ some 0) := Lib.hid (fun j hj => by
          by_cases e : j = i
          · subst e; rw [hx]; intro h; exact h0 (Option.some.inj h)
          · exact HNO.out j (by omega))
        have hsm : s.size ≤ 9223372036854775807 := HS.out
        clear hx h0 hn0
        go_wp2
        go_roundw
        case rel => exact ⟨i + 1, rfl, hlt, trivial, HN2.out⟩
        case measure => simp [intOf]; omega
    · obtain rfl : i = s.size := by omega
      have hni : (0 : UInt8) ∉ s.data.toList := fun h => by
        obtain ⟨j, hj⟩ := List.mem_iff_getElem?.1 h
        exact HNO.out j (by have := (List.getElem?_eq_some_iff.1 hj).1; rw [Lib.size_eq]; exact this) hj
      have hF := HF.out hni
      rw [← Lib.size_eq] at hF
      have HAN := Lib.hid hF
      have d0 : decide ((s.size : Int) < (s.size : Int)) = false := decide_eq_false (by omega)
      have d0' : decide (s.size < s.size) = false := decide_eq_false (by omega)
      clear hni hF hi hlt
      by_cases hz : 0 < s.size
      · have e1 : decide ((0 : Int) < (s.size : Int)) = true := decide_eq_true (by omega)
        have e1' : decide (0 < s.size) = true := decide_eq_true hz
        by_cases hz2 : s.size ≤ 200
        · have e2 : decide ((s.size : Int) ≤ 200) = true := decide_eq_true (by omega)
          have e2' : decide (s.size ≤ 200) = true := decide_eq_true hz2
          have HR : Hid (ans = true) := Lib.hid (by rw [HAN.out, e1', e2']; rfl)
          clear hz hz2
          go_wp2
          go_ret
          exact ⟨by rw [HR.out]; first | done | rfl, rfl⟩
        · have e2 : decide ((s.size : Int) ≤ 200) = false := decide_eq_false (by omega)
          have e2' : decide (s.size ≤ 200) = false := decide_eq_false hz2
          have HR : Hid (ans = false) := Lib.hid (by rw [HAN.out, e1', e2']; rfl)
          clear hz hz2
          go_wp2
          go_ret
          exact ⟨by rw [HR.out]; first | done | rfl, rfl⟩
      · have e1 : decide ((0 : Int) < (s.size : Int)) = false := decide_eq_false (by omega)
        have e1' : decide (0 < s.size) = false := decide_eq_false hz
        have HR : Hid (ans = false) := Lib.hid (by rw [HAN.out, e1']; rfl)
        clear hz
        go_wp2
        go_ret
        exact ⟨by rw [HR.out]; first | done | rfl, rfl⟩

/-! ### find -/
def findI (l : Ns) (s : Nm) : Int := match getN l s with | none => -1 | some i => (i : Int)
theorem find_hit {l : Ns} (hu : Up l) {i : Nat} {p : Nm × Nat} (h : l[i]? = some p) : findI l p.1 = p.2 := by
  have : getN l p.1 = some p.2 := (getN_some hu).2 (List.mem_of_getElem? h)
  unfold findI
  rw [this]
theorem find_no {l : Ns} {s : Nm} (h : ∀ j p, j < l.length → l[j]? = some p → p.1 ≠ s) : findI l s = -1 := by
  have : getN l s = none := getN_none.2 fun p hp => by
    obtain ⟨j, hj⟩ := List.mem_iff_getElem?.1 hp
    exact h j p (List.getElem?_eq_some_iff.1 hj).1 hj
  unfold findI
  rw [this]
set_option maxRecDepth 100000 in
theorem find_any (w : World) (F : Nat → Prop) (q : Rq) (S : Fs) (N : Nat) (h : RfAt w F q S) (hI : Inv N 16777216 S) (hN : N ≤ 1000000) (s : ByteArray) :
    Calls Try.prog 58 #[ptrV q.p, .string s] w fun e w' => e = .returned (.int .i64 (findI S.now s.data.toList)) ∧ w = w' := by
  have HU := Lib.hid hI.upNow
  have hln := hI.lenNow
  have hnm : S.now.length ≤ 1000000 := by omega
  have HNM := Lib.hid hnm
  obtain ⟨A, c, hvn⟩ := h.now.shape
  have c2 := h.c2
  have hrow := h.now
  rw [hvn] at c2 hrow
  have HR := Lib.hid hrow
  have HFN := Lib.hid (find_no (l := S.now) (s := s.data.toList))
  have HFH := Lib.hid (fun (i : Nat) (p : Nm × Nat) (hp : S.now[i]? = some p) (e : p.1 = s.data.toList) => (by rw [← e]; exact find_hit HU.out hp : findI S.now s.data.toList = p.2))
  generalize findI S.now s.data.toList = ans at *
  generalize S.now = l at *
  clear hvn h hI hN hln hrow hnm HU
  unfold ptrV
  go_enter Try.func58, Try.ntmps58
  go_wp2
  go_loopw [5] (fun v5 wr => ∃ i : Nat, v5 = .int .i64 (i : Int) ∧ i ≤ l.length ∧ wr = w ∧ ∀ j p, j < i → l[j]? = some p → p.1 ≠ s.data.toList) (fun v5 _ => l.length - (intOf v5).toNat)
  case atStart => exact ⟨0, rfl, Nat.zero_le _, rfl, fun j p hj => by omega⟩
  case round =>
    obtain ⟨i, rfl, hi, rfl, hno⟩ := hrel
    have HNO := Lib.hid hno
    clear hno
    by_cases hlt : i < l.length
    · obtain ⟨p, hp⟩ : ∃ p, l[i]? = some p := ⟨_, List.getElem?_eq_getElem hlt⟩
      obtain ⟨b, o, rfl, _, hbl, hc0, hc1⟩ := nmS_at HR.out hp
      have hls : l.length ≤ 1000000 := HNM.out
      have d0 : decide ((i : Int) < (l.length : Int)) = true := decide_eq_true (by omega)
      have d0' : decide (i < l.length) = true := decide_eq_true hlt
      by_cases he : p.1 = s.data.toList
      · have HAN := Lib.hid (HFH.out i p hp he)
        have q1 : ((bkN p.1).toList == s.toList) = true := by rw [beq_iff_eq, Lib.toList_data, Lib.toList_data, bkN_list]; exact he
        clear hp he
        go_wp2
        go_ret
        exact ⟨by rw [HAN.out]; first | done | rfl, rfl⟩
      · have q1 : ((bkN p.1).toList == s.toList) = false := by rw [beq_eq_false_iff_ne, Lib.toList_data, Lib.toList_data, bkN_list]; exact he
        have HN2 : Hid (∀ j p, j < i + 1 → l[j]? = some p → p.1 ≠ s.data.toList) := Lib.hid (fun j p' hj hp' => by
          by_cases e : j = i
          · subst e; rw [hp] at hp'; injection hp' with hp'; rw [← hp']; exact he
          · exact HNO.out j p' (by omega) hp')
        clear hp he
        go_wp2
        go_roundw
        case rel => exact ⟨i + 1, rfl, hlt, trivial, HN2.out⟩
        case measure => simp [intOf]; omega
    · obtain rfl : i = l.length := by omega
      have HAN := Lib.hid (HFN.out (fun j p hj hp => HNO.out j p hj hp))
      have d0 : decide ((l.length : Int) < (l.length : Int)) = false := decide_eq_false (by omega)
      have d0' : decide (l.length < l.length) = false := decide_eq_false (by omega)
      go_wp2
      go_ret
      exact ⟨by rw [HAN.out]; first | done | rfl, rfl⟩

/-! ### burn -/
theorem RfAt.only (q : Rq) : True := trivial
set_option maxRecDepth 100000 in
theorem rburn_any (w : World) (F : Nat → Prop) (q : Rq) (S : Fs) (h : RfAt w F q S) (hf : -1 ≤ S.fuse ∧ S.fuse ≤ 9223372036854775807) :
    Calls Try.prog 59 #[ptrV q.p] w fun e w' => e = .returned (.bool (burnOk S)) ∧ RfAt w' F q (burnF S) ∧ Chg (fun k => k = q.p) w w' := by
  have c5 := h.c5
  have f5 := h.fz 5
  have f6 := h.fz 6
  have c6 := h.c6
  have H := Lib.hid h
  have HC : Hid (∀ o v, Chg (fun k => k = q.p) w (w.setCell ⟨q.p, o, none⟩ v)) := Lib.hid (fun o v => (Chg.refl (fun k => k = q.p) w).setCell (a := ⟨q.p, o, none⟩) (.inl rfl) v)
  clear h
  unfold ptrV
  by_cases h0 : S.fuse < 0
  · have hm : S.fuse = -1 := by omega
    have HE : Hid (burnF S = S) := Lib.hid (by
      unfold burnF
      rw [hm, if_neg (by decide), if_neg (by decide), show (max ((-1 : Int) - 1) (-1)) = S.fuse by rw [hm]; rfl])
    have HB : Hid (burnOk S = true) := Lib.hid (by unfold burnOk; rw [hm]; rfl)
    rw [hm] at c5
    clear h0 hf hm
    go_enter Try.func59, Try.ntmps59
    go_wp2
    go_ret
    exact ⟨by rw [HB.out]; first | done | rfl, by rw [HE.out]; exact H.out, Chg.refl _ _⟩
  · by_cases h1 : S.fuse = 0
    · have HE : Hid (burnF S = { S with dead := true }) := Lib.hid (by
        unfold burnF
        rw [h1, if_pos rfl, if_pos rfl])
      have HB : Hid (burnOk S = false) := Lib.hid (by unfold burnOk; rw [h1]; rfl)
      rw [h1] at c5
      clear h0 hf h1
      go_enter Try.func59, Try.ntmps59
      go_wp2
      go_ret
      exact ⟨by rw [HB.out]; first | done | rfl, by rw [HE.out]; exact H.out.set6 true, HC.out _ _⟩
    · obtain ⟨n, hn⟩ : ∃ n : Nat, S.fuse = ((n + 1 : Nat) : Int) := ⟨(S.fuse - 1).toNat, by omega⟩
      have HE : Hid (burnF S = { S with fuse := (n : Int) }) := Lib.hid (by
        unfold burnF
        rw [if_neg h1, if_neg h1, hn, show (max (((n + 1 : Nat) : Int) - 1) (-1)) = (n : Int) by omega])
      have HB : Hid (burnOk S = true) := Lib.hid (by unfold burnOk; simpa using h1)
      have hnb : n + 1 ≤ 9223372036854775807 := by omega
      rw [hn] at c5
      have dd : decide (((n + 1 : Nat) : Int) < 0) = false := decide_eq_false (by omega)
      have de : (((n + 1 : Nat) : Int) == 0) = false := by rw [beq_eq_false_iff_ne]; omega
      have hw : IntKind.i64.wrap (((n + 1 : Nat) : Int) - 1) = (n : Int) := by rw [IntWalk.i64_in _ (by omega)]; omega
      clear h0 hf h1 hn
      generalize ((n + 1 : Nat) : Int) = z at *
      go_enter Try.func59, Try.ntmps59
      go_wp2
      go_ret
      exact ⟨by rw [HB.out]; first | done | rfl, by rw [HE.out]; exact H.out.set5 _, HC.out _ _⟩

/-! ### New -/
set_option maxRecDepth 100000 in
theorem rnew_any (w : World) (k : Int) (hk : 0 ≤ k ∧ k ≤ 16777216) : Calls Try.prog 27 #[.int .i64 k] w fun e w' => ∃ q, e = .returned (.tuple #[ptrV q.p, .int .i64 0]) ∧ RfAt w' (fun k => w.heap.size ≤ k) q (newF k) ∧ Below w.heap.size w w' := by
  have d1 : decide (k < 0) = false := decide_eq_false (by omega)
  have d2 : decide (16777216 < k) = false := decide_eq_false (by omega)
  have HC : Hid (Cel (w.alloc (.cells #[.int .i64 k, .slice none 0 0, .slice none 0 0, .slice none 0 0, .slice none 0 0, .int .i64 (-1), .bool false] 90)) w.heap.size 90 7 (rfF ⟨w.heap.size, .slice none 0 0, .slice none 0 0, .slice none 0 0, .slice none 0 0⟩ (newF k))) := Lib.hid (Cel.new w _ _ _ (fun i hi => by
    have : i = 0 ∨ i = 1 ∨ i = 2 ∨ i = 3 ∨ i = 4 ∨ i = 5 ∨ i = 6 := by simp at hi; omega
    rcases this with rfl | rfl | rfl | rfl | rfl | rfl | rfl <;> rfl))
  have HB : Hid (Below w.heap.size w (w.alloc (.cells #[.int .i64 k, .slice none 0 0, .slice none 0 0, .slice none 0 0, .slice none 0 0, .int .i64 (-1), .bool false] 90))) := Lib.hid ((Below.refl _ _).alloc (Nat.le_refl _) _)
  clear hk
  go_enter Try.func27, Try.ntmps27
  go_wp2
  go_ret2
  exact ⟨⟨w.heap.size, .slice none 0 0, .slice none 0 0, .slice none 0 0, .slice none 0 0⟩, rfl, ⟨HC.out, OwnS.nil _ _ _ _, OwnS.nil _ _ _ _, OwnS.nil _ _ _ _, OwnS.nil _ _ _ _, ⟨Nat.le_refl _, fun k hk => by (cases hk), fun k hk => by (cases hk), fun k hk => by (cases hk), fun k hk => by (cases hk)⟩⟩, HB.out⟩
set_option maxRecDepth 100000 in
theorem rnew_no (w : World) (k : Int) (hk : ¬ (0 ≤ k ∧ k ≤ 16777216)) : Calls Try.prog 27 #[.int .i64 k] w fun e w' => e = .returned (.tuple #[.pointer none, .int .i64 1]) ∧ w = w' := by
  by_cases h : k < 0
  · have d1 : decide (k < 0) = true := decide_eq_true h
    clear hk h
    go_enter Try.func27, Try.ntmps27
    go_wp2
    go_ret2
    exact ⟨rfl, rfl⟩
  · have d1 : decide (k < 0) = false := decide_eq_false h
    have d2 : decide (16777216 < k) = true := decide_eq_true (by omega)
    clear hk h
    go_enter Try.func27, Try.ntmps27
    go_wp2
    go_ret2
    exact ⟨rfl, rfl⟩
end Go.Proofs.Ytmoaabjiokjjlaa
namespace Go.Proofs.Ytmoaabjiokjjlaa
open Go.RowKit Go.Maps
set_option linter.unusedVariables false
set_option linter.unusedSimpArgs false

theorem nmsV_snoc (l : Ns) (p : Nm × Nat) : nmsV (l ++ [p]) = nmsV l ++ nmV p := by unfold nmsV; rw [List.flatMap_append]; simp
theorem nmsV_app (l m : Ns) : nmsV (l ++ m) = nmsV l ++ nmsV m := by unfold nmsV; rw [List.flatMap_append]
theorem nmsV_drop : ∀ (l : Ns) (k : Nat), (nmsV l).drop (k * 2) = nmsV (l.drop k)
  | l, 0 => by simp
  | [], k + 1 => by simp [nmsV]
  | p :: l, k + 1 => by
    show (nmV p ++ nmsV l).drop ((k + 1) * 2) = _
    rw [List.drop_append, List.drop_eq_nil_of_le (by rw [nmV_len]; omega), nmV_len, show (k + 1) * 2 - 2 = k * 2 by omega]
    exact nmsV_drop l k
theorem less_before : ∀ a b : List UInt8, Op.bytesLess a b = bytesBefore a b
  | [], [] => rfl
  | _ :: _, [] => rfl
  | [], _ :: _ => rfl
  | a :: x, b :: y => by
    show (_ || (_ && Op.bytesLess x y)) = (_ || (_ && bytesBefore x y))
    rw [less_before x y]
theorem less_nm (p : Nm) (s : ByteArray) : Op.bytesLess (bkN p).toList s.toList = bytesBefore p s.data.toList := by rw [less_before, Lib.toList_data, Lib.toList_data, bkN_list]
theorem eq_nm (p : Nm) (s : ByteArray) : ((bkN p).toList == s.toList) = (p == s.data.toList) := by rw [Lib.toList_data, Lib.toList_data, bkN_list]
theorem take_snoc {α : Type} {l : List α} {k : Nat} {p : α} (h : l[k]? = some p) : l.take (k + 1) = l.take k ++ [p] := by rw [List.take_add_one, h]; rfl
theorem src_tl {P : Program} {w : World} {B b o n c c' m k : Nat} {l : Ns} (h : NmS w B (.slice (some ⟨b, o, none⟩) n c) l) (hk : k ≤ l.length) (hm : m = l.length - k) : Src P w 2 (.slice (some ⟨b, o + k * 2, none⟩) m c') m (nmsV (l.drop k)) := by
  refine Src.vals (by rw [nmsV_len, List.length_drop, hm]) (nmsV_one _) fun hl => ⟨_, rfl, fun j u hj => ?_⟩
  rw [← nmsV_drop, List.getElem?_drop] at hj
  obtain ⟨g, off, c2, hv, _, _, hc⟩ := h.cells (by rw [nmsV_len]; rw [nmsV_len, List.length_drop] at hl; omega)
  injection hv with hA _ _
  injection hA with hA
  injection hA with h1 h2 _
  subst h1; subst h2
  rw [Addr.add_lit, Nat.add_assoc, hc _ (List.getElem?_eq_some_iff.1 hj).1]
  exact hj
theorem src_no {P : Program} {w : World} {A : Option Addr} {m c : Nat} {l : Ns} (hm : m = 0) (hl : l = []) : Src P w 2 (.slice A m c) m (nmsV l) := by
  subst hm; subst hl
  exact Src.vals rfl (by simp [nmsV]) (fun h => absurd h (by simp [nmsV]))
theorem OwnS.nmOf {w : World} {B n : Nat} {v : Value} {xs : List Value} {l : Ns} (h : OwnS w B 96 2 v n xs) (hx : xs = nmsV l) : NmS w B v l := by
  subst hx
  have h1 := h.1
  rw [nmsV_len] at h1
  have : n = l.length := by omega
  subst this
  exact h
theorem Src.agg2 {P : Program} (w : World) (a b : Value) (t : TypeId) (ha : a.oneCell' = true) (hb : b.oneCell' = true) : Src P (w.alloc (.cells #[a, b] t)) 2 (.slice (some ⟨w.heap.size, 0, none⟩) 1 1) 1 [a, b] :=
  Src.vals rfl (by simp [ha, hb]) (fun _ => ⟨_, rfl, World.news_of_block (heap_alloc_new w _)⟩)
/-- What put answers. -/
def PutPost (l : Ns) (w : World) (e : Ending) (w' : World) : Prop := ∃ v, e = .returned v ∧ NmS w' w.heap.size v l ∧ Below w.heap.size w w'
set_option maxRecDepth 100000 in
set_option maxHeartbeats 2000000 in
theorem rput_any (w : World) (B : Nat) (v : Value) (l : Ns) (s : ByteArray) (f : Int) (h : NmS w B v l) (hu : Up l) (hn : l.length ≤ 1000001) :
    Calls Try.prog 66 #[v, .string s, .int .i64 f] w (PutPost (putI l s.data.toList f) w) := by
  have HPO : Hid (∀ e w', PutPost (putI l s.data.toList f) w e w' = ∃ v, e = .returned v ∧ NmS w' w.heap.size v (putI l s.data.toList f) ∧ Below w.heap.size w w') := Lib.hid (fun _ _ => rfl)
  generalize PutPost (putI l s.data.toList f) w = POST at *
  obtain ⟨i0, hi, hz0, hz1, hz2⟩ := info_parts info_nmd
  obtain ⟨A, c, rfl⟩ := h.shape
  have H := Lib.hid h
  have HU := Lib.hid hu
  have HN := Lib.hid hn
  clear h hu hn
  go_enter Try.func66, Try.ntmps66
  go_wp2
  go_loopw [8, 7] (fun v8 v7 wr => ∃ (k : Nat) (vo : Value), v8 = .int .i64 (k : Int) ∧ v7 = vo ∧ k ≤ l.length ∧ OwnS wr w.heap.size 96 2 vo k (nmsV (l.take k)) ∧ Below w.heap.size w wr ∧ ∀ p ∈ l.take k, bytesBefore p.1 s.data.toList = true) (fun v8 _ _ => l.length - (intOf v8).toNat)
  case atStart => exact ⟨0, _, rfl, rfl, Nat.zero_le _, OwnS.nil _ _ _ _, Below.refl _ _, by simp⟩
  case round =>
    obtain ⟨k, vo, rfl, rfl, hk, ho, hb, hlow⟩ := hrel
    obtain ⟨Ao, co, rfl⟩ := ho.shape
    have HO := Lib.hid ho
    have HB := Lib.hid hb
    have HL := Lib.hid hlow
    have hls : l.length ≤ 1000001 := HN.out
    clear ho hb hlow
    by_cases hlt : k < l.length
    · obtain ⟨p, hp⟩ : ∃ p, l[k]? = some p := ⟨_, List.getElem?_eq_getElem hlt⟩
      obtain ⟨b, o, rfl, _, hbl, hc0, hc1⟩ := nmS_at (H.out.keptB HB.out) hp
      have d0 : decide ((k : Int) < (l.length : Int)) = true := decide_eq_true (by omega)
      have d0' : decide (k < l.length) = true := decide_eq_true hlt
      have HP := Lib.hid hp
      have HCAP := Lib.hid H.out.cap
      cases hbf : bytesBefore p.1 s.data.toList
      · by_cases he : p.1 = s.data.toList
        · have HIS := Lib.hid (putI_is (f := f) (k' := k + 1) HU.out hk HL.out (fun y hy => by rw [hp] at hy; rw [← Option.some.inj hy]; exact hbf) (.inl ⟨rfl, p, hp, he⟩))
          have q1 : Op.bytesLess (bkN p.1).toList s.toList = false := by rw [less_nm, hbf]
          have q2 : ((bkN p.1).toList == s.toList) = true := by rw [eq_nm, beq_iff_eq]; exact he
          clear hbf he hp
          by_cases hck : c = k + 1
          · subst hck
            have HEQ : Hid (l.length = k + 1) := Lib.hid (by have := HCAP.out; omega)
            have HSR : Hid (∀ W : World, Below w.heap.size w W → Src Try.prog W 2 (.slice (some ⟨b, o, none⟩) (l.length - (k + 1)) 0) (l.length - (k + 1)) (nmsV (l.drop (k + 1)))) := Lib.hid (fun W hb => src_no (by have := HEQ.out; omega) (List.drop_eq_nil_of_le (by have := HEQ.out; omega)))
            by_cases hf : 0 ≤ f
            · have d2 : decide ((0 : Int) ≤ f) = true := decide_eq_true hf
              have HAN : Hid (putI l s.data.toList f = l.take k ++ [(s.data.toList, f.toNat)] ++ l.drop (k + 1)) := Lib.hid (by rw [HIS.out, if_neg (by omega)])
              have HFN : Hid (((f.toNat : Nat) : Int) = f) := Lib.hid (by omega)
              have hw1 : Below wr.heap.size wr (wr.alloc (.cells #[.string s, .int .i64 f] 96)) := (Below.refl _ _).alloc (Nat.le_refl _) _
              have HOA := Lib.hid (HO.out.keptB hw1)
              have HBA := Lib.hid (HB.out.trans (hw1.mono HB.out.size))
              have HS1 := Lib.hid (Src.agg2 (P := Try.prog) wr (.string s) (.int .i64 f) 96 rfl rfl)
              have hm1 : k + 1 ≤ maxLen := by unfold maxLen; omega
              have hb1 : (k + 1) * 24 ≤ 140737488355328 := by omega
              have hm2 : k + 1 + (l.length - (k + 1)) ≤ maxLen := by unfold maxLen; omega
              have hb2 : (k + 1 + (l.length - (k + 1))) * 24 ≤ 140737488355328 := by omega
              clear hw1 HO HB HIS hf
              go_upto_region 10 with (at_builtin; go_loud (refine wpList_append_S rfl (.tmp 48) (.tmp 52) 87 87 rfl i0 (.agg #[.string ⟨#[]⟩, .int .i64 0]) 24 (.slice 96) Try.underlying87 Try.underlying87 (fun _ h => by cases h) hi hz0 hz1 hz2 rfl rfl rfl HOA.out HS1.out hm1 hb1 HBA.out.size ?_; intro A8 c8 w8;  intro ho8 hg8 hw8))
              have HO8 := Lib.hid ho8
              have HB8 := Lib.hid (HBA.out.grown hg8 HBA.out.size (fun j hj => (HOA.out.lt j hj).1))
              clear ho8 hg8 hw8 hm1 hb1
              go_wp2_with (at_builtin; go_loud (refine wpList_append_S rfl (.tmp 54) (.tmp 57) 87 87 rfl i0 (.agg #[.string ⟨#[]⟩, .int .i64 0]) 24 (.slice 96) Try.underlying87 Try.underlying87 (fun _ h => by cases h) hi hz0 hz1 hz2 rfl rfl rfl HO8.out (HSR.out _ HB8.out) hm2 hb2 HB8.out.size ?_; intro A9 c9 w9; generalize k + 1 + (l.length - (k + 1)) = n9 at *; intro ho9 hg9 hw9))
              have HB9 := Lib.hid (HB8.out.grown hg9 HB8.out.size (fun j hj => (HO8.out.lt j hj).1))
              have HO9 := Lib.hid ho9
              clear ho9 hg9 hw9
              go_wp2
              rw [HPO.out]
              exact ⟨.slice A9 n9 c9, rfl, HO9.out.nmOf (by rw [HAN.out, nmsV_app, nmsV_app]; show _ = _ ++ (nmV (s.data.toList, f.toNat) ++ []) ++ _; unfold nmV; rw [bkN_of, HFN.out]; rfl), HB9.out⟩
            · have d2 : decide ((0 : Int) ≤ f) = false := decide_eq_false hf
              have HAN : Hid (putI l s.data.toList f = l.take k ++ l.drop (k + 1)) := Lib.hid (by rw [HIS.out, if_pos (by omega), List.append_nil])
              have hm2 : k + (l.length - (k + 1)) ≤ maxLen := by unfold maxLen; omega
              have hb2 : (k + (l.length - (k + 1))) * 24 ≤ 140737488355328 := by omega
              clear HIS hf
              go_wp2_with (at_builtin; go_loud (refine wpList_append_S rfl (.tmp 54) (.tmp 57) 87 87 rfl i0 (.agg #[.string ⟨#[]⟩, .int .i64 0]) 24 (.slice 96) Try.underlying87 Try.underlying87 (fun _ h => by cases h) hi hz0 hz1 hz2 rfl rfl rfl HO.out (HSR.out _ HB.out) hm2 hb2 HB.out.size ?_; intro A9 c9 w9; generalize k + (l.length - (k + 1)) = n9 at *; intro ho9 hg9 hw9))
              have HB9 := Lib.hid (HB.out.grown hg9 HB.out.size (fun j hj => (HO.out.lt j hj).1))
              have HO9 := Lib.hid ho9
              clear ho9 hg9 hw9
              go_wp2
              rw [HPO.out]
              exact ⟨.slice A9 n9 c9, rfl, HO9.out.nmOf (by rw [HAN.out, nmsV_app]), HB9.out⟩
          · have HSR : Hid (∀ W : World, Below w.heap.size w W → Src Try.prog W 2 (.slice (some ⟨b, o + (k + 1) * 2, none⟩) (l.length - (k + 1)) (c - (k + 1))) (l.length - (k + 1)) (nmsV (l.drop (k + 1)))) := Lib.hid (fun W hb => src_tl (H.out.keptB hb) (by omega) rfl)
            by_cases hf : 0 ≤ f
            · have d2 : decide ((0 : Int) ≤ f) = true := decide_eq_true hf
              have HAN : Hid (putI l s.data.toList f = l.take k ++ [(s.data.toList, f.toNat)] ++ l.drop (k + 1)) := Lib.hid (by rw [HIS.out, if_neg (by omega)])
              have HFN : Hid (((f.toNat : Nat) : Int) = f) := Lib.hid (by omega)
              have hw1 : Below wr.heap.size wr (wr.alloc (.cells #[.string s, .int .i64 f] 96)) := (Below.refl _ _).alloc (Nat.le_refl _) _
              have HOA := Lib.hid (HO.out.keptB hw1)
              have HBA := Lib.hid (HB.out.trans (hw1.mono HB.out.size))
              have HS1 := Lib.hid (Src.agg2 (P := Try.prog) wr (.string s) (.int .i64 f) 96 rfl rfl)
              have hm1 : k + 1 ≤ maxLen := by unfold maxLen; omega
              have hb1 : (k + 1) * 24 ≤ 140737488355328 := by omega
              have hm2 : k + 1 + (l.length - (k + 1)) ≤ maxLen := by unfold maxLen; omega
              have hb2 : (k + 1 + (l.length - (k + 1))) * 24 ≤ 140737488355328 := by omega
              clear hw1 HO HB HIS hf
              go_upto_region 10 with (at_builtin; go_loud (refine wpList_append_S rfl (.tmp 48) (.tmp 52) 87 87 rfl i0 (.agg #[.string ⟨#[]⟩, .int .i64 0]) 24 (.slice 96) Try.underlying87 Try.underlying87 (fun _ h => by cases h) hi hz0 hz1 hz2 rfl rfl rfl HOA.out HS1.out hm1 hb1 HBA.out.size ?_; intro A8 c8 w8;  intro ho8 hg8 hw8))
              have HO8 := Lib.hid ho8
              have HB8 := Lib.hid (HBA.out.grown hg8 HBA.out.size (fun j hj => (HOA.out.lt j hj).1))
              clear ho8 hg8 hw8 hm1 hb1
              go_wp2_with (at_builtin; go_loud (refine wpList_append_S rfl (.tmp 54) (.tmp 57) 87 87 rfl i0 (.agg #[.string ⟨#[]⟩, .int .i64 0]) 24 (.slice 96) Try.underlying87 Try.underlying87 (fun _ h => by cases h) hi hz0 hz1 hz2 rfl rfl rfl HO8.out (HSR.out _ HB8.out) hm2 hb2 HB8.out.size ?_; intro A9 c9 w9; generalize k + 1 + (l.length - (k + 1)) = n9 at *; intro ho9 hg9 hw9))
              have HB9 := Lib.hid (HB8.out.grown hg9 HB8.out.size (fun j hj => (HO8.out.lt j hj).1))
              have HO9 := Lib.hid ho9
              clear ho9 hg9 hw9
              go_wp2
              rw [HPO.out]
              exact ⟨.slice A9 n9 c9, rfl, HO9.out.nmOf (by rw [HAN.out, nmsV_app, nmsV_app]; show _ = _ ++ (nmV (s.data.toList, f.toNat) ++ []) ++ _; unfold nmV; rw [bkN_of, HFN.out]; rfl), HB9.out⟩
            · have d2 : decide ((0 : Int) ≤ f) = false := decide_eq_false hf
              have HAN : Hid (putI l s.data.toList f = l.take k ++ l.drop (k + 1)) := Lib.hid (by rw [HIS.out, if_pos (by omega), List.append_nil])
              have hm2 : k + (l.length - (k + 1)) ≤ maxLen := by unfold maxLen; omega
              have hb2 : (k + (l.length - (k + 1))) * 24 ≤ 140737488355328 := by omega
              clear HIS hf
              go_wp2_with (at_builtin; go_loud (refine wpList_append_S rfl (.tmp 54) (.tmp 57) 87 87 rfl i0 (.agg #[.string ⟨#[]⟩, .int .i64 0]) 24 (.slice 96) Try.underlying87 Try.underlying87 (fun _ h => by cases h) hi hz0 hz1 hz2 rfl rfl rfl HO.out (HSR.out _ HB.out) hm2 hb2 HB.out.size ?_; intro A9 c9 w9; generalize k + (l.length - (k + 1)) = n9 at *; intro ho9 hg9 hw9))
              have HB9 := Lib.hid (HB.out.grown hg9 HB.out.size (fun j hj => (HO.out.lt j hj).1))
              have HO9 := Lib.hid ho9
              clear ho9 hg9 hw9
              go_wp2
              rw [HPO.out]
              exact ⟨.slice A9 n9 c9, rfl, HO9.out.nmOf (by rw [HAN.out, nmsV_app]), HB9.out⟩
        · have HIS := Lib.hid (putI_is (f := f) (k' := k) HU.out hk HL.out (fun y hy => by rw [hp] at hy; rw [← Option.some.inj hy]; exact hbf) (.inr ⟨rfl, fun y hy => by rw [hp] at hy; rw [← Option.some.inj hy]; exact he⟩))
          have q1 : Op.bytesLess (bkN p.1).toList s.toList = false := by rw [less_nm, hbf]
          have q2 : ((bkN p.1).toList == s.toList) = false := by rw [eq_nm, beq_eq_false_iff_ne]; exact he
          have hck : ¬ c = k := by have := HCAP.out; omega
          clear hbf he hp
          have HSR : Hid (∀ W : World, Below w.heap.size w W → Src Try.prog W 2 (.slice (some ⟨b, o + k * 2, none⟩) (l.length - k) (c - k)) (l.length - k) (nmsV (l.drop k))) := Lib.hid (fun W hb => src_tl (H.out.keptB hb) (by omega) rfl)
          by_cases hf : 0 ≤ f
          · have d2 : decide ((0 : Int) ≤ f) = true := decide_eq_true hf
            have HAN : Hid (putI l s.data.toList f = l.take k ++ [(s.data.toList, f.toNat)] ++ l.drop k) := Lib.hid (by rw [HIS.out, if_neg (by omega)])
            have HFN : Hid (((f.toNat : Nat) : Int) = f) := Lib.hid (by omega)
            have hw1 : Below wr.heap.size wr (wr.alloc (.cells #[.string s, .int .i64 f] 96)) := (Below.refl _ _).alloc (Nat.le_refl _) _
            have HOA := Lib.hid (HO.out.keptB hw1)
            have HBA := Lib.hid (HB.out.trans (hw1.mono HB.out.size))
            have HS1 := Lib.hid (Src.agg2 (P := Try.prog) wr (.string s) (.int .i64 f) 96 rfl rfl)
            have hm1 : k + 1 ≤ maxLen := by unfold maxLen; omega
            have hb1 : (k + 1) * 24 ≤ 140737488355328 := by omega
            have hm2 : k + 1 + (l.length - k) ≤ maxLen := by unfold maxLen; omega
            have hb2 : (k + 1 + (l.length - k)) * 24 ≤ 140737488355328 := by omega
            clear hw1 HO HB HIS hf
            go_upto_region 10 with (at_builtin; go_loud (refine wpList_append_S rfl (.tmp 48) (.tmp 52) 87 87 rfl i0 (.agg #[.string ⟨#[]⟩, .int .i64 0]) 24 (.slice 96) Try.underlying87 Try.underlying87 (fun _ h => by cases h) hi hz0 hz1 hz2 rfl rfl rfl HOA.out HS1.out hm1 hb1 HBA.out.size ?_; intro A8 c8 w8;  intro ho8 hg8 hw8))
            have HO8 := Lib.hid ho8
            have HB8 := Lib.hid (HBA.out.grown hg8 HBA.out.size (fun j hj => (HOA.out.lt j hj).1))
            clear ho8 hg8 hw8 hm1 hb1
            go_wp2_with (at_builtin; go_loud (refine wpList_append_S rfl (.tmp 54) (.tmp 57) 87 87 rfl i0 (.agg #[.string ⟨#[]⟩, .int .i64 0]) 24 (.slice 96) Try.underlying87 Try.underlying87 (fun _ h => by cases h) hi hz0 hz1 hz2 rfl rfl rfl HO8.out (HSR.out _ HB8.out) hm2 hb2 HB8.out.size ?_; intro A9 c9 w9; generalize k + 1 + (l.length - k) = n9 at *; intro ho9 hg9 hw9))
            have HB9 := Lib.hid (HB8.out.grown hg9 HB8.out.size (fun j hj => (HO8.out.lt j hj).1))
            have HO9 := Lib.hid ho9
            clear ho9 hg9 hw9
            go_wp2
            rw [HPO.out]
            exact ⟨.slice A9 n9 c9, rfl, HO9.out.nmOf (by rw [HAN.out, nmsV_app, nmsV_app]; show _ = _ ++ (nmV (s.data.toList, f.toNat) ++ []) ++ _; unfold nmV; rw [bkN_of, HFN.out]; rfl), HB9.out⟩
          · have d2 : decide ((0 : Int) ≤ f) = false := decide_eq_false hf
            have HAN : Hid (putI l s.data.toList f = l.take k ++ l.drop k) := Lib.hid (by rw [HIS.out, if_pos (by omega), List.append_nil])
            have hm2 : k + (l.length - k) ≤ maxLen := by unfold maxLen; omega
            have hb2 : (k + (l.length - k)) * 24 ≤ 140737488355328 := by omega
            clear HIS hf
            go_wp2_with (at_builtin; go_loud (refine wpList_append_S rfl (.tmp 54) (.tmp 57) 87 87 rfl i0 (.agg #[.string ⟨#[]⟩, .int .i64 0]) 24 (.slice 96) Try.underlying87 Try.underlying87 (fun _ h => by cases h) hi hz0 hz1 hz2 rfl rfl rfl HO.out (HSR.out _ HB.out) hm2 hb2 HB.out.size ?_; intro A9 c9 w9; generalize k + (l.length - k) = n9 at *; intro ho9 hg9 hw9))
            have HB9 := Lib.hid (HB.out.grown hg9 HB.out.size (fun j hj => (HO.out.lt j hj).1))
            have HO9 := Lib.hid ho9
            clear ho9 hg9 hw9
            go_wp2
            rw [HPO.out]
            exact ⟨.slice A9 n9 c9, rfl, HO9.out.nmOf (by rw [HAN.out, nmsV_app]), HB9.out⟩
      · have q1 : Op.bytesLess (bkN p.1).toList s.toList = true := by rw [less_nm, hbf]
        have HL2 : Hid (∀ y ∈ l.take (k + 1), bytesBefore y.1 s.data.toList = true) := Lib.hid (fun y hy => by
          rw [take_snoc HP.out] at hy
          rcases List.mem_append.1 hy with hy | hy
          · exact HL.out y hy
          · rw [List.mem_singleton.1 hy]; exact hbf)
        have HTS := Lib.hid (take_snoc HP.out)
        clear hp hbf
        have hw1 : Below wr.heap.size wr (wr.alloc (.cells #[.string (bkN p.1), .int .i64 (p.2 : Int)] 96)) := (Below.refl _ _).alloc (Nat.le_refl _) _
        have HOA := Lib.hid (HO.out.keptB hw1)
        have HBA := Lib.hid (HB.out.trans (hw1.mono HB.out.size))
        have HSR := Lib.hid (Src.agg2 (P := Try.prog) wr (.string (bkN p.1)) (.int .i64 (p.2 : Int)) 96 rfl rfl)
        have hm1 : k + 1 ≤ maxLen := by unfold maxLen; omega
        have hb1 : (k + 1) * 24 ≤ 140737488355328 := by omega
        clear hw1 HO HB
        go_wp2_with (at_builtin; go_loud (refine wpList_append_S rfl (.tmp 22) (.tmp 27) 87 87 rfl i0 (.agg #[.string ⟨#[]⟩, .int .i64 0]) 24 (.slice 96) Try.underlying87 Try.underlying87 (fun _ h => by cases h) hi hz0 hz1 hz2 rfl rfl rfl HOA.out HSR.out hm1 hb1 HBA.out.size ?_; intro A9 c9 w9 ho9 hg9 hw9))
        have HO9 : Hid (OwnS w9 w.heap.size 96 2 (.slice A9 (k + 1) c9) (k + 1) (nmsV (l.take (k + 1)))) := Lib.hid (by
          rw [HTS.out, nmsV_snoc]
          exact ho9)
        have HB9 := Lib.hid (HBA.out.grown hg9 HBA.out.size (fun j hj => (HOA.out.lt j hj).1))
        clear ho9 hg9 hw9
        go_roundw
        case rel => exact ⟨k + 1, _, rfl, rfl, hlt, HO9.out, HB9.out, HL2.out⟩
        case measure => simp [intOf]; omega
    · obtain rfl : k = l.length := by omega
      have HIS := Lib.hid (putI_is (f := f) (k' := l.length) HU.out (Nat.le_refl _) HL.out (fun y hy => by rw [List.getElem?_eq_none (Nat.le_refl _)] at hy; cases hy) (.inr ⟨rfl, fun y hy => by rw [List.getElem?_eq_none (Nat.le_refl _)] at hy; cases hy⟩))
      have d0 : decide ((l.length : Int) < (l.length : Int)) = false := decide_eq_false (by omega)
      have d0' : decide (l.length < l.length) = false := decide_eq_false (by omega)
      rcases H.out.2 with ⟨hv, hl0⟩ | ⟨b, o, c2, cur, hv, _, _, hcap, _⟩
      · injection hv with hA hn0 hc
        subst hA
        subst hc
        have HL0 := Lib.hid hl0
        clear hl0 hn0
        have HSR : Hid (∀ W : World, Below w.heap.size w W → Src Try.prog W 2 (.slice none 0 0) 0 (nmsV (l.drop l.length))) := Lib.hid (fun W hb => src_no (by simp) (by simp))
        by_cases hf : 0 ≤ f
        · have d2 : decide ((0 : Int) ≤ f) = true := decide_eq_true hf
          have HAN : Hid (putI l s.data.toList f = l.take l.length ++ [(s.data.toList, f.toNat)] ++ l.drop l.length) := Lib.hid (by rw [HIS.out, if_neg (by omega)])
          have HFN : Hid (((f.toNat : Nat) : Int) = f) := Lib.hid (by omega)
          have hw1 : Below wr.heap.size wr (wr.alloc (.cells #[.string s, .int .i64 f] 96)) := (Below.refl _ _).alloc (Nat.le_refl _) _
          have HOA := Lib.hid (HO.out.keptB hw1)
          have HBA := Lib.hid (HB.out.trans (hw1.mono HB.out.size))
          have HS1 := Lib.hid (Src.agg2 (P := Try.prog) wr (.string s) (.int .i64 f) 96 rfl rfl)
          have hm1 : l.length + 1 ≤ maxLen := by unfold maxLen; omega
          have hb1 : (l.length + 1) * 24 ≤ 140737488355328 := by omega
          have hm2 : l.length + 1 + 0 ≤ maxLen := by unfold maxLen; omega
          have hb2 : (l.length + 1 + 0) * 24 ≤ 140737488355328 := by omega
          clear hw1 HO HB HIS hf
          go_upto_region 10 with (at_builtin; go_loud (refine wpList_append_S rfl (.tmp 48) (.tmp 52) 87 87 rfl i0 (.agg #[.string ⟨#[]⟩, .int .i64 0]) 24 (.slice 96) Try.underlying87 Try.underlying87 (fun _ h => by cases h) hi hz0 hz1 hz2 rfl rfl rfl HOA.out HS1.out hm1 hb1 HBA.out.size ?_; intro A8 c8 w8;  intro ho8 hg8 hw8))
          have HO8 := Lib.hid ho8
          have HB8 := Lib.hid (HBA.out.grown hg8 HBA.out.size (fun j hj => (HOA.out.lt j hj).1))
          clear ho8 hg8 hw8 hm1 hb1
          go_wp2_with (at_builtin; go_loud (refine wpList_append_S rfl (.tmp 54) (.tmp 57) 87 87 rfl i0 (.agg #[.string ⟨#[]⟩, .int .i64 0]) 24 (.slice 96) Try.underlying87 Try.underlying87 (fun _ h => by cases h) hi hz0 hz1 hz2 rfl rfl rfl HO8.out (HSR.out _ HB8.out) hm2 hb2 HB8.out.size ?_; intro A9 c9 w9; generalize l.length + 1 + 0 = n9 at *; intro ho9 hg9 hw9))
          have HB9 := Lib.hid (HB8.out.grown hg9 HB8.out.size (fun j hj => (HO8.out.lt j hj).1))
          have HO9 := Lib.hid ho9
          clear ho9 hg9 hw9
          go_wp2
          rw [HPO.out]
          exact ⟨.slice A9 n9 c9, rfl, HO9.out.nmOf (by rw [HAN.out, nmsV_app, nmsV_app]; show _ = _ ++ (nmV (s.data.toList, f.toNat) ++ []) ++ _; unfold nmV; rw [bkN_of, HFN.out]; rfl), HB9.out⟩
        · have d2 : decide ((0 : Int) ≤ f) = false := decide_eq_false hf
          have HAN : Hid (putI l s.data.toList f = l.take l.length ++ l.drop l.length) := Lib.hid (by rw [HIS.out, if_pos (by omega), List.append_nil])
          have hm2 : l.length + 0 ≤ maxLen := by unfold maxLen; omega
          have hb2 : (l.length + 0) * 24 ≤ 140737488355328 := by omega
          clear HIS hf
          go_wp2_with (at_builtin; go_loud (refine wpList_append_S rfl (.tmp 54) (.tmp 57) 87 87 rfl i0 (.agg #[.string ⟨#[]⟩, .int .i64 0]) 24 (.slice 96) Try.underlying87 Try.underlying87 (fun _ h => by cases h) hi hz0 hz1 hz2 rfl rfl rfl HO.out (HSR.out _ HB.out) hm2 hb2 HB.out.size ?_; intro A9 c9 w9; generalize l.length + 0 = n9 at *; intro ho9 hg9 hw9))
          have HB9 := Lib.hid (HB.out.grown hg9 HB.out.size (fun j hj => (HO.out.lt j hj).1))
          have HO9 := Lib.hid ho9
          clear ho9 hg9 hw9
          go_wp2
          rw [HPO.out]
          exact ⟨.slice A9 n9 c9, rfl, HO9.out.nmOf (by rw [HAN.out, nmsV_app]), HB9.out⟩
      · injection hv with hA hn0 hc
        subst hA
        subst hc
        clear hn0
        by_cases hck : c = l.length
        · subst hck
          have HSR : Hid (∀ W : World, Below w.heap.size w W → Src Try.prog W 2 (.slice (some ⟨b, o, none⟩) 0 0) 0 (nmsV (l.drop l.length))) := Lib.hid (fun W hb => src_no (by simp) (by simp))
          by_cases hf : 0 ≤ f
          · have d2 : decide ((0 : Int) ≤ f) = true := decide_eq_true hf
            have HAN : Hid (putI l s.data.toList f = l.take l.length ++ [(s.data.toList, f.toNat)] ++ l.drop l.length) := Lib.hid (by rw [HIS.out, if_neg (by omega)])
            have HFN : Hid (((f.toNat : Nat) : Int) = f) := Lib.hid (by omega)
            have hw1 : Below wr.heap.size wr (wr.alloc (.cells #[.string s, .int .i64 f] 96)) := (Below.refl _ _).alloc (Nat.le_refl _) _
            have HOA := Lib.hid (HO.out.keptB hw1)
            have HBA := Lib.hid (HB.out.trans (hw1.mono HB.out.size))
            have HS1 := Lib.hid (Src.agg2 (P := Try.prog) wr (.string s) (.int .i64 f) 96 rfl rfl)
            have hm1 : l.length + 1 ≤ maxLen := by unfold maxLen; omega
            have hb1 : (l.length + 1) * 24 ≤ 140737488355328 := by omega
            have hm2 : l.length + 1 + 0 ≤ maxLen := by unfold maxLen; omega
            have hb2 : (l.length + 1 + 0) * 24 ≤ 140737488355328 := by omega
            clear hw1 HO HB HIS hf
            go_upto_region 10 with (at_builtin; go_loud (refine wpList_append_S rfl (.tmp 48) (.tmp 52) 87 87 rfl i0 (.agg #[.string ⟨#[]⟩, .int .i64 0]) 24 (.slice 96) Try.underlying87 Try.underlying87 (fun _ h => by cases h) hi hz0 hz1 hz2 rfl rfl rfl HOA.out HS1.out hm1 hb1 HBA.out.size ?_; intro A8 c8 w8;  intro ho8 hg8 hw8))
            have HO8 := Lib.hid ho8
            have HB8 := Lib.hid (HBA.out.grown hg8 HBA.out.size (fun j hj => (HOA.out.lt j hj).1))
            clear ho8 hg8 hw8 hm1 hb1
            go_wp2_with (at_builtin; go_loud (refine wpList_append_S rfl (.tmp 54) (.tmp 57) 87 87 rfl i0 (.agg #[.string ⟨#[]⟩, .int .i64 0]) 24 (.slice 96) Try.underlying87 Try.underlying87 (fun _ h => by cases h) hi hz0 hz1 hz2 rfl rfl rfl HO8.out (HSR.out _ HB8.out) hm2 hb2 HB8.out.size ?_; intro A9 c9 w9; generalize l.length + 1 + 0 = n9 at *; intro ho9 hg9 hw9))
            have HB9 := Lib.hid (HB8.out.grown hg9 HB8.out.size (fun j hj => (HO8.out.lt j hj).1))
            have HO9 := Lib.hid ho9
            clear ho9 hg9 hw9
            go_wp2
            rw [HPO.out]
            exact ⟨.slice A9 n9 c9, rfl, HO9.out.nmOf (by rw [HAN.out, nmsV_app, nmsV_app]; show _ = _ ++ (nmV (s.data.toList, f.toNat) ++ []) ++ _; unfold nmV; rw [bkN_of, HFN.out]; rfl), HB9.out⟩
          · have d2 : decide ((0 : Int) ≤ f) = false := decide_eq_false hf
            have HAN : Hid (putI l s.data.toList f = l.take l.length ++ l.drop l.length) := Lib.hid (by rw [HIS.out, if_pos (by omega), List.append_nil])
            have hm2 : l.length + 0 ≤ maxLen := by unfold maxLen; omega
            have hb2 : (l.length + 0) * 24 ≤ 140737488355328 := by omega
            clear HIS hf
            go_wp2_with (at_builtin; go_loud (refine wpList_append_S rfl (.tmp 54) (.tmp 57) 87 87 rfl i0 (.agg #[.string ⟨#[]⟩, .int .i64 0]) 24 (.slice 96) Try.underlying87 Try.underlying87 (fun _ h => by cases h) hi hz0 hz1 hz2 rfl rfl rfl HO.out (HSR.out _ HB.out) hm2 hb2 HB.out.size ?_; intro A9 c9 w9; generalize l.length + 0 = n9 at *; intro ho9 hg9 hw9))
            have HB9 := Lib.hid (HB.out.grown hg9 HB.out.size (fun j hj => (HO.out.lt j hj).1))
            have HO9 := Lib.hid ho9
            clear ho9 hg9 hw9
            go_wp2
            rw [HPO.out]
            exact ⟨.slice A9 n9 c9, rfl, HO9.out.nmOf (by rw [HAN.out, nmsV_app]), HB9.out⟩
        · have HSR : Hid (∀ W : World, Below w.heap.size w W → Src Try.prog W 2 (.slice (some ⟨b, o + l.length * 2, none⟩) 0 (c - l.length)) 0 (nmsV (l.drop l.length))) := Lib.hid (fun W hb => src_no (by simp) (by simp))
          by_cases hf : 0 ≤ f
          · have d2 : decide ((0 : Int) ≤ f) = true := decide_eq_true hf
            have HAN : Hid (putI l s.data.toList f = l.take l.length ++ [(s.data.toList, f.toNat)] ++ l.drop l.length) := Lib.hid (by rw [HIS.out, if_neg (by omega)])
            have HFN : Hid (((f.toNat : Nat) : Int) = f) := Lib.hid (by omega)
            have hw1 : Below wr.heap.size wr (wr.alloc (.cells #[.string s, .int .i64 f] 96)) := (Below.refl _ _).alloc (Nat.le_refl _) _
            have HOA := Lib.hid (HO.out.keptB hw1)
            have HBA := Lib.hid (HB.out.trans (hw1.mono HB.out.size))
            have HS1 := Lib.hid (Src.agg2 (P := Try.prog) wr (.string s) (.int .i64 f) 96 rfl rfl)
            have hm1 : l.length + 1 ≤ maxLen := by unfold maxLen; omega
            have hb1 : (l.length + 1) * 24 ≤ 140737488355328 := by omega
            have hm2 : l.length + 1 + 0 ≤ maxLen := by unfold maxLen; omega
            have hb2 : (l.length + 1 + 0) * 24 ≤ 140737488355328 := by omega
            clear hw1 HO HB HIS hf
            go_upto_region 10 with (at_builtin; go_loud (refine wpList_append_S rfl (.tmp 48) (.tmp 52) 87 87 rfl i0 (.agg #[.string ⟨#[]⟩, .int .i64 0]) 24 (.slice 96) Try.underlying87 Try.underlying87 (fun _ h => by cases h) hi hz0 hz1 hz2 rfl rfl rfl HOA.out HS1.out hm1 hb1 HBA.out.size ?_; intro A8 c8 w8;  intro ho8 hg8 hw8))
            have HO8 := Lib.hid ho8
            have HB8 := Lib.hid (HBA.out.grown hg8 HBA.out.size (fun j hj => (HOA.out.lt j hj).1))
            clear ho8 hg8 hw8 hm1 hb1
            go_wp2_with (at_builtin; go_loud (refine wpList_append_S rfl (.tmp 54) (.tmp 57) 87 87 rfl i0 (.agg #[.string ⟨#[]⟩, .int .i64 0]) 24 (.slice 96) Try.underlying87 Try.underlying87 (fun _ h => by cases h) hi hz0 hz1 hz2 rfl rfl rfl HO8.out (HSR.out _ HB8.out) hm2 hb2 HB8.out.size ?_; intro A9 c9 w9; generalize l.length + 1 + 0 = n9 at *; intro ho9 hg9 hw9))
            have HB9 := Lib.hid (HB8.out.grown hg9 HB8.out.size (fun j hj => (HO8.out.lt j hj).1))
            have HO9 := Lib.hid ho9
            clear ho9 hg9 hw9
            go_wp2
            rw [HPO.out]
            exact ⟨.slice A9 n9 c9, rfl, HO9.out.nmOf (by rw [HAN.out, nmsV_app, nmsV_app]; show _ = _ ++ (nmV (s.data.toList, f.toNat) ++ []) ++ _; unfold nmV; rw [bkN_of, HFN.out]; rfl), HB9.out⟩
          · have d2 : decide ((0 : Int) ≤ f) = false := decide_eq_false hf
            have HAN : Hid (putI l s.data.toList f = l.take l.length ++ l.drop l.length) := Lib.hid (by rw [HIS.out, if_pos (by omega), List.append_nil])
            have hm2 : l.length + 0 ≤ maxLen := by unfold maxLen; omega
            have hb2 : (l.length + 0) * 24 ≤ 140737488355328 := by omega
            clear HIS hf
            go_wp2_with (at_builtin; go_loud (refine wpList_append_S rfl (.tmp 54) (.tmp 57) 87 87 rfl i0 (.agg #[.string ⟨#[]⟩, .int .i64 0]) 24 (.slice 96) Try.underlying87 Try.underlying87 (fun _ h => by cases h) hi hz0 hz1 hz2 rfl rfl rfl HO.out (HSR.out _ HB.out) hm2 hb2 HB.out.size ?_; intro A9 c9 w9; generalize l.length + 0 = n9 at *; intro ho9 hg9 hw9))
            have HB9 := Lib.hid (HB.out.grown hg9 HB.out.size (fun j hj => (HO.out.lt j hj).1))
            have HO9 := Lib.hid ho9
            clear ho9 hg9 hw9
            go_wp2
            rw [HPO.out]
            exact ⟨.slice A9 n9 c9, rfl, HO9.out.nmOf (by rw [HAN.out, nmsV_app]), HB9.out⟩
end Go.Proofs.Ytmoaabjiokjjlaa
namespace Go.Proofs.Ytmoaabjiokjjlaa
open Go.RowKit Go.Maps
set_option linter.unusedVariables false
set_option linter.unusedSimpArgs false

def cdA (c : Cd) : Value := .agg #[.string (bkN c.n), .string (bkN c.a), .int .i64 c.f]
theorem applyD_len (l : Ns) (c : Cd) : (applyD l c).length ≤ l.length + 2 := by
  unfold applyD
  by_cases h : c.a = []
  · rw [if_pos h]
    exact Nat.le_succ_of_le (putI_len _ _ _)
  · rw [if_neg h]
    have h1 := putI_len (putI l c.a (-1)) c.n c.f
    have h2 := putI_len l c.a (-1)
    omega
set_option maxRecDepth 100000 in
set_option maxHeartbeats 2000000 in
theorem rapply_any (w : World) (B : Nat) (v : Value) (l : Ns) (c : Cd) (h : NmS w B v l) (hu : Up l) (hn : l.length ≤ 1000000) :
    Calls Try.prog 61 #[v, cdA c] w (PutPost (applyD l c) w) := by
  have HPO : Hid (∀ e w', PutPost (applyD l c) w e w' = ∃ v, e = .returned v ∧ NmS w' w.heap.size v (applyD l c) ∧ Below w.heap.size w w') := Lib.hid (fun _ _ => rfl)
  generalize PutPost (applyD l c) w = POST at *
  have hb0 : Below w.heap.size w (w.alloc (.cells #[.string (bkN c.n), .string (bkN c.a), .int .i64 c.f] 108)) := (Below.refl _ _).alloc (Nat.le_refl _) _
  have hce : Cel (w.alloc (.cells #[.string (bkN c.n), .string (bkN c.a), .int .i64 c.f] 108)) w.heap.size 108 3 (fun i => if i = 0 then .string (bkN c.n) else if i = 1 then .string (bkN c.a) else .int .i64 c.f) := Cel.new w _ _ _ (fun i hi => by
    have : i = 0 ∨ i = 1 ∨ i = 2 := by simp at hi; omega
    rcases this with rfl | rfl | rfl <;> rfl)
  have h0 := h.keptB hb0
  have HP2 := Lib.hid (fun (W : World) (B : Nat) (u : Value) (m : Ns) (hm : NmS W B u m) (hup : Up m) (hl : m.length ≤ 1000001) => rput_any W B u m (bkN c.n) c.f hm hup hl)
  have HP1 := Lib.hid (fun (W : World) (B : Nat) (u : Value) (m : Ns) (hm : NmS W B u m) (hup : Up m) (hl : m.length ≤ 1000001) => rput_any W B u m (bkN c.a) (-1) hm hup hl)
  rw [bkN_list] at HP1 HP2
  unfold PutPost at HP1 HP2
  have HA : Hid (applyD l c = putI (if c.a = [] then l else putI l c.a (-1)) c.n c.f) := Lib.hid rfl
  have HB0 := Lib.hid hb0
  have HU := Lib.hid hu
  have HN := Lib.hid hn
  have hall : (w.alloc (.cells #[.string (bkN c.n), .string (bkN c.a), .int .i64 c.f] 108)).heap.size = w.heap.size + 1 := by simp
  unfold cdA
  go_enter Try.func61, Try.ntmps61
  have k0 := hce.cell 0 (by decide)
  have k1 := hce.cell 1 (by decide)
  have k2 := hce.cell 2 (by decide)
  change (w.alloc (.cells #[.string (bkN c.n), .string (bkN c.a), .int .i64 c.f] 108)).cell? _ = some (.string (bkN c.n)) at k0
  have HCE := Lib.hid hce
  have H0 := Lib.hid h0
  have HG : Hid (w.heap.size < (w.alloc (.cells #[.string (bkN c.n), .string (bkN c.a), .int .i64 c.f] 108)).heap.size) := Lib.hid hce.blk
  change (w.alloc (.cells #[.string (bkN c.n), .string (bkN c.a), .int .i64 c.f] 108)).cell? _ = some (.string (bkN c.a)) at k1
  change (w.alloc (.cells #[.string (bkN c.n), .string (bkN c.a), .int .i64 c.f] 108)).cell? _ = some (.int .i64 c.f) at k2
  clear hb0 hce h0 h hu hn hall
  by_cases ha : c.a = []
  · have q0 : ((bkN c.a).toList == []) = true := by rw [Lib.toList_data, bkN_list, ha]; rfl
    have q0' : (bkN c.a).toList.isEmpty = true := by rw [Lib.toList_data, bkN_list, ha]; rfl
    have HA2 : Hid (applyD l c = putI l c.n c.f) := Lib.hid (by rw [HA.out, if_pos ha])
    clear ha HA
    go_wp2_with fail
    refine (HP2.out _ B v l H0.out HU.out (by have := HN.out; omega)).mono ?_
    rintro e w1 ⟨v1, rfl, ho1, hb1⟩
    have HO1 := Lib.hid (ho1.base_ HB0.out.size)
    have HB1 := Lib.hid (HB0.out.trans (hb1.mono HB0.out.size))
    clear ho1 hb1
    go_wp2
    rw [HPO.out]
    exact ⟨v1, rfl, by rw [HA2.out]; exact HO1.out, HB1.out⟩
  · have q0 : ((bkN c.a).toList == []) = false := by rw [Lib.toList_data, bkN_list, beq_eq_false_iff_ne]; exact ha
    have q0' : (bkN c.a).toList.isEmpty = false := by rw [Lib.toList_data, bkN_list, List.isEmpty_eq_false_iff]; exact ha
    have HA2 : Hid (applyD l c = putI (putI l c.a (-1)) c.n c.f) := Lib.hid (by rw [HA.out, if_neg ha])
    clear ha HA
    go_wp2_with fail
    refine (HP1.out _ B v l H0.out HU.out (by have := HN.out; omega)).mono ?_
    rintro e w1 ⟨v1, rfl, ho1, hb1⟩
    have HO1 := Lib.hid ho1
    have HB1 := Lib.hid (HB0.out.trans (hb1.mono HB0.out.size))
    have j0 := (hb1.cell (p := ⟨w.heap.size, 0, none⟩) HG.out).trans k0
    have j2 := (hb1.cell (p := ⟨w.heap.size, 2, none⟩) HG.out).trans k2
    clear ho1 hb1 k0 k1 k2
    go_wp2_with fail
    refine (HP2.out _ _ v1 _ HO1.out (putI_up HU.out _ _) (by have := HN.out; have := putI_len l c.a (-1); omega)).mono ?_
    rintro e w2 ⟨v2, rfl, ho2, hb2⟩
    have HO2 := Lib.hid (ho2.base_ HB1.out.size)
    have HB2 := Lib.hid (HB1.out.trans (hb2.mono HB1.out.size))
    clear ho2 hb2
    go_wp2
    rw [HPO.out]
    exact ⟨v2, rfl, by rw [HA2.out]; exact HO2.out, HB2.out⟩
end Go.Proofs.Ytmoaabjiokjjlaa
namespace Go.Proofs.Ytmoaabjiokjjlaa
open Go.RowKit Go.Maps
set_option linter.unusedVariables false
set_option linter.unusedSimpArgs false

section
variable {w w' : World} {F F' : Nat → Prop} {q : Rq} {S S' : Fs} {N M : Nat}
theorem rfI {i : Nat} (hi : i < 7) : i = 0 ∨ i = 1 ∨ i = 2 ∨ i = 3 ∨ i = 4 ∨ i = 5 ∨ i = 6 := by omega
/-- Other names now. -/
theorem RfAt.stNow (h : RfAt w F q S) {v : Value} {l : Ns} (ho : NmS w' w.heap.size v l) (hb : Below w.heap.size w w') :
    RfAt (w'.setCell ⟨q.p, 2, none⟩ v) (fun k => F k ∨ w.heap.size ≤ k) { q with vn := v } { S with now := l } := by
  obtain ⟨n1, n2, n3, n4⟩ := h.np
  have hbl := h.cel.blk
  have hk : ∀ k, k < w.heap.size → k ≠ q.p → (w'.setCell ⟨q.p, 2, none⟩ v).heap[k]? = w.heap[k]? := fun k hk hn => (Below.heap_setCell _ _ _ _ hn).trans (hb.block k hk)
  refine ⟨((h.cel.below hb h.cel.blk).set 2 v).congr fun i hi => ?_, h.files.heap fun k e => hk k (h.files.lt k e).2 (n1 k e), ho.base_ (Nat.zero_le _) |>.heap fun k e => Below.heap_setCell _ _ _ _ (fun hc => by have h1 := (ho.lt k e).1; have h2 : k = q.p := hc; omega),
    h.last.heap fun k e => hk k (h.last.lt k e).2 (n3 k e), h.wait.heap fun k e => hk k (h.wait.lt k e).2 (n4 k e), ⟨.inl h.mem.p, fun k e => .inl (h.mem.vf k e), fun k e => .inr (ho.lt k e).1, fun k e => .inl (h.mem.vl k e), fun k e => .inl (h.mem.vw k e)⟩⟩
  rcases rfI hi with rfl | rfl | rfl | rfl | rfl | rfl | rfl <;> rfl
/-- A change is laid behind the changes. -/
theorem RfAt.stWait (h : RfAt w F q S) {v : Value} {c : Ch} (hg : w.grownBy w' q.vw.ownBlock) (ho : OwnS w' 0 108 3 v (S.wait.length + 1) (cdsV S.wait ++ cdV (chD c)))
    (hv : ∀ k, v.ownBlock = some k → q.vw.ownBlock = some k ∨ w.heap.size ≤ k) :
    RfAt (w'.setCell ⟨q.p, 4, none⟩ v) (fun k => F k ∨ w.heap.size ≤ k) { q with vw := v } { S with wait := S.wait ++ [c] } := by
  obtain ⟨n1, n2, n3, n4⟩ := h.np
  have hbl := h.cel.blk
  have hpw : q.vw.ownBlock ≠ some q.p := fun e => n4 _ e rfl
  have hvp : v.ownBlock ≠ some q.p := fun e => by
    rcases hv _ e with h1 | h1
    · exact hpw h1
    · omega
  have hk : ∀ k, k < w.heap.size → k ≠ q.p → q.vw.ownBlock ≠ some k → (w'.setCell ⟨q.p, 4, none⟩ v).heap[k]? = w.heap[k]? := fun k hk hn hw => (Below.heap_setCell _ _ _ _ hn).trans (hg.block k hk (Ne.symm hw))
  have hcel : Cel w' q.p 90 7 (rfF q S) := h.cel.grown hg hpw
  refine ⟨(hcel.set 4 v).congr fun i hi => ?_, h.files.heap fun k e => hk k (h.files.lt k e).2 (n1 k e) (fun e2 => kd_ne (h.wait.kd e2) (h.files.kd e) (by decide) rfl), h.now.heap fun k e => hk k (h.now.lt k e).2 (n2 k e) (fun e2 => kd_ne (h.wait.kd e2) (h.now.kd e) (by decide) rfl),
    h.last.heap fun k e => hk k (h.last.lt k e).2 (n3 k e) (fun e2 => kd_ne (h.wait.kd e2) (h.last.kd e) (by decide) rfl), ?_, ⟨.inl h.mem.p, fun k e => .inl (h.mem.vf k e), fun k e => .inl (h.mem.vn k e), fun k e => .inl (h.mem.vl k e), fun k e => ?_⟩⟩
  · rcases rfI hi with rfl | rfl | rfl | rfl | rfl | rfl | rfl <;> rfl
  · show OwnS _ 0 _ 3 v (S.wait ++ [c]).length (cdsV (S.wait ++ [c]))
    have e : cdsV (S.wait ++ [c]) = cdsV S.wait ++ cdV (chD c) := by unfold cdsV; rw [List.map_append, List.flatMap_append]; simp
    rw [List.length_append, e]
    exact ho.heap fun k hk => Below.heap_setCell _ _ _ _ (fun e => hvp (by rw [hk]; exact congrArg some e))
  · rcases hv k e with h1 | h1
    · exact .inl (h.mem.vw k h1)
    · exact .inr h1
end
theorem Src.agg3 {P : Program} (w : World) (a b c : Value) (t : TypeId) (ha : a.oneCell' = true) (hb : b.oneCell' = true) (hc : c.oneCell' = true) : Src P (w.alloc (.cells #[a, b, c] t)) 3 (.slice (some ⟨w.heap.size, 0, none⟩) 1 1) 1 [a, b, c] :=
  Src.vals rfl (by simp [ha, hb, hc]) (fun _ => ⟨_, rfl, World.news_of_block (heap_alloc_new w _)⟩)
/-- While the names change. -/
def Cg1 (w0 : World) (p : Nat) (l : Ns) : List Value → World → Prop
  | [], W => W = w0.drew
  | [v], W => ∃ A c, v = .slice A l.length c ∧ NmS W w0.heap.size v l ∧ Below w0.heap.size w0 W
  | v :: _ :: _, W => ∃ W1 A c, v = .slice A l.length c ∧ NmS W1 w0.heap.size v l ∧ Below w0.heap.size w0 W1 ∧ W = W1.setCell ⟨p, 2, none⟩ v
theorem Cg1.old {w0 : World} {p : Nat} {l : Ns} {vs : List Value} {W : World} (h : Cg1 w0 p l vs W) (hl : vs.length ≤ 1) : Below w0.heap.size w0 W := by
  rcases vs with _ | ⟨v, _ | ⟨u, vs⟩⟩
  · rw [show W = w0.drew from h]; exact (Below.refl _ _).drew
  · obtain ⟨_, _, _, _, h⟩ := h; exact h
  · simp at hl
theorem Cg1.fin {w0 : World} {p : Nat} {l : Ns} {v u : Value} {W : World} (h : Cg1 w0 p l [v, u] W) : ∃ W1 A c, v = .slice A l.length c ∧ NmS W1 w0.heap.size v l ∧ Below w0.heap.size w0 W1 ∧ W = W1.setCell ⟨p, 2, none⟩ v := h
/-- While a change is laid behind the changes. -/
def CgI (w5 : World) (q : Rq) (S : Fs) (cd : Cd) : List Value → World → Prop
  | [], W => W = w5.drew
  | [v], W => v = .slice (some ⟨w5.heap.size, 0, none⟩) 1 1 ∧ W = w5.drew.alloc (.cells #[.string (bkN cd.n), .string (bkN cd.a), .int .i64 cd.f] 108)
  | [_, u], W => ∃ A c, u = .slice A (S.wait.length + 1) c ∧ OwnS W 0 108 3 u (S.wait.length + 1) (cdsV S.wait ++ cdV cd) ∧ w5.grownBy W q.vw.ownBlock ∧ (u.ownBlock = q.vw.ownBlock ∨ u.ownBlock = some (w5.heap.size + 1))
  | _ :: u :: _ :: _, W => ∃ W1 A c, u = .slice A (S.wait.length + 1) c ∧ OwnS W1 0 108 3 u (S.wait.length + 1) (cdsV S.wait ++ cdV cd) ∧ w5.grownBy W1 q.vw.ownBlock ∧ (u.ownBlock = q.vw.ownBlock ∨ u.ownBlock = some (w5.heap.size + 1)) ∧ W = W1.setCell ⟨q.p, 4, none⟩ u
theorem CgI.old {w5 : World} {q : Rq} {S : Fs} {cd : Cd} {vs : List Value} {W : World} (h : CgI w5 q S cd vs W) (hl : vs.length ≤ 1) : Below w5.heap.size w5 W := by
  rcases vs with _ | ⟨v, _ | ⟨u, vs⟩⟩
  · rw [show W = w5.drew from h]; exact (Below.refl _ _).drew
  · rw [h.2]; exact (Below.refl _ _).drew.alloc (Nat.le_refl _) _
  · simp at hl
theorem CgI.fin {w5 : World} {q : Rq} {S : Fs} {cd : Cd} {v u x : Value} {W : World} (h : CgI w5 q S cd [v, u, x] W) : ∃ W1 A c, u = .slice A (S.wait.length + 1) c ∧ OwnS W1 0 108 3 u (S.wait.length + 1) (cdsV S.wait ++ cdV cd) ∧ w5.grownBy W1 q.vw.ownBlock ∧ (u.ownBlock = q.vw.ownBlock ∨ u.ownBlock = some (w5.heap.size + 1)) ∧ W = W1.setCell ⟨q.p, 4, none⟩ u := h
def RChPost (F : Nat → Prop) (p : Nat) (S : Fs) (c : Ch) (w : World) (e : Ending) (w' : World) : Prop := e = .returned (.tuple #[]) ∧ RfTo F p w (changeF S c) w'
set_option maxRecDepth 100000 in
set_option maxHeartbeats 2000000 in
theorem rchange_any (w : World) (F : Nat → Prop) (q : Rq) (S : Fs) (N : Nat) (c : Ch) (h : RfAt w F q S) (hI : Inv N 16777216 S) (hN : N ≤ 1000000) (hc : OkD c) :
    Calls Try.prog 60 #[ptrV q.p, cdA (chD c)] w (RChPost F q.p S c w) := by
  obtain ⟨i0, hi, hz0, hz1, hz2⟩ := info_parts info_chg
  have HPO : Hid (∀ e w', RChPost F q.p S c w e w' = (e = .returned (.tuple #[]) ∧ RfTo F q.p w (changeF S c) w')) := Lib.hid (fun _ _ => rfl)
  generalize RChPost F q.p S c w = POST at *
  have hlw : S.wait.length ≤ 1000000 := Nat.le_trans hI.wt hN
  have hap : applyD S.now (chD c) = applyC S.now c := applyD_is hI.upNow hc
  have HAP := Lib.hid (fun (W : World) (B : Nat) (v : Value) (hm : NmS W B v S.now) => rapply_any W B v S.now (chD c) hm hI.upNow (by have := hI.lenNow; omega))
  rw [hap] at HAP
  unfold PutPost at HAP
  have HCF : Hid (changeF S c = { S with now := applyC S.now c, wait := S.wait ++ [c] }) := Lib.hid rfl
  clear hI hN hc hap
  unfold ptrV cdA at *
  generalize hcd : chD c = cd at *
  have HCD := Lib.hid hcd
  clear hcd
  have hb0 : Below w.heap.size w (w.alloc (.cells #[.string (bkN cd.n), .string (bkN cd.a), .int .i64 cd.f] 108)) := (Below.refl _ _).alloc (Nat.le_refl _) _
  have hce : Cel (w.alloc (.cells #[.string (bkN cd.n), .string (bkN cd.a), .int .i64 cd.f] 108)) w.heap.size 108 3 (fun i => if i = 0 then .string (bkN cd.n) else if i = 1 then .string (bkN cd.a) else .int .i64 cd.f) := Cel.new w _ _ _ (fun i hi => by
    have : i = 0 ∨ i = 1 ∨ i = 2 := by simp at hi; omega
    rcases this with rfl | rfl | rfl <;> rfl)
  have hA := h.below hb0
  have HB0 := Lib.hid hb0
  go_enter Try.func60, Try.ntmps60
  go_upto_region 1 with (fail)
  generalize hW0 : w.alloc (.cells #[.string (bkN cd.n), .string (bkN cd.a), .int .i64 cd.f] 108) = w0 at *
  have k0 : w0.cell? ⟨w.heap.size, 0, none⟩ = some (.string (bkN cd.n)) := hce.cell 0 (by decide)
  have k1 : w0.cell? ⟨w.heap.size, 1, none⟩ = some (.string (bkN cd.a)) := hce.cell 1 (by decide)
  have k2 : w0.cell? ⟨w.heap.size, 2, none⟩ = some (.int .i64 cd.f) := hce.cell 2 (by decide)
  obtain ⟨A, cc, hvn⟩ := hA.now.shape
  have c2 := hA.c2
  have f2 := hA.fz 2
  rw [hvn] at c2
  have HA := Lib.hid hA
  have HCE := Lib.hid hce
  have HGE : Hid (w.heap.size < w0.heap.size) := Lib.hid hce.blk
  have HVN := Lib.hid hvn
  clear hA hce h hW0 hb0 hvn
  generalize hgc : w.heap.size = gc at *
  have HGC := Lib.hid hgc
  clear hgc
  go_cut [] (fun wx => ∃ w1 v, wx = w1.setCell ⟨q.p, 2, none⟩ v ∧ NmS w1 w0.heap.size v (applyC S.now c) ∧ Below w0.heap.size w0 w1)
  case first =>
    refine wp_region_ph (by kernel_rfl) [6, 9] [.span 0 1, .span 0 0, .span 0 0, .span 0 0, .span 0 0, .span 0 0, .phase 0, .span 1 1, .span 1 1, .phase 1] [fun z9 => z9 = .pointer (some ⟨q.p, 0, none⟩), fun z9 => z9 = .pointer (some ⟨q.p, 0, none⟩), fun z9 => z9 = .pointer (some ⟨q.p, 0, none⟩), fun z9 => z9 = .pointer (some ⟨q.p, 2, none⟩), fun z9 => z9 = .slice A S.now.length cc, fun z9 => z9 = .agg #[.string (bkN cd.n), .string (bkN cd.a), .int .i64 cd.f], fun _ => True, fun z9 => z9 = .pointer (some ⟨q.p, 0, none⟩), fun z9 => z9 = .pointer (some ⟨q.p, 2, none⟩), fun _ => True] (Cg1 w0 q.p (applyC S.now c)) (by kernel_rfl) (by kernel_rfl) (by kernel_rfl) (by kernel_rfl) (by kernel_rfl) (by kernel_rfl) rfl rfl ((show w0.drew = w0.drew from rfl)) ?steps ?done
    case steps =>
      refine ⟨?_, ?_, ?_, ?_, ?_, ?_, ?_, ?_, ?_, ?_, trivial⟩
      · intro us au w1 k0 hlo hhi ha hd hst hI
        have q0 := slot_far (t := 0) (v := .pointer (some ⟨q.p, 0, none⟩)) ha (by kernel_rfl) (by kernel_rfl)
        have p0 := slot_norm q0
        clear ha hd hst
        exact StepI.pure (v := .pointer (some ⟨q.p, 0, none⟩)) rfl rfl (by go_simp) ⟨rfl, hI⟩
      · intro us au w1 k1 hlo hhi ha hd hst hI
        obtain rfl : k1 = 0 := by omega
        have q0 := slot_far (t := 0) (v := .pointer (some ⟨q.p, 0, none⟩)) ha (by kernel_rfl) (by kernel_rfl)
        have p0 := slot_norm q0
        clear ha hd hst
        exact StepI.pure (v := .pointer (some ⟨q.p, 0, none⟩)) rfl rfl (by go_simp) ⟨rfl, hI⟩
      · intro us au w1 k2 hlo hhi ha hd hst hI
        obtain rfl : k2 = 0 := by omega
        have e1 := hd 1 _ (by kernel_rfl) rfl
        have q5 := slot_at (t := 5) 1 ha (by kernel_rfl) (by kernel_rfl) (by kernel_rfl) e1
        have p5 := slot_norm q5
        clear ha hd hst
        exact StepI.pure (v := .pointer (some ⟨q.p, 0, none⟩)) rfl rfl (by go_simp) ⟨rfl, hI⟩
      · intro us au w1 k3 hlo hhi ha hd hst hI
        obtain rfl : k3 = 0 := by omega
        have e2 := hd 2 _ (by kernel_rfl) rfl
        have q6 := slot_at (t := 6) 2 ha (by kernel_rfl) (by kernel_rfl) (by kernel_rfl) e2
        have p6 := slot_norm q6
        clear ha hd hst
        exact StepI.pure (v := .pointer (some ⟨q.p, 2, none⟩)) rfl rfl (by go_simp) ⟨rfl, hI⟩
      · intro us au w1 k4 hlo hhi ha hd hst hI
        obtain rfl : k4 = 0 := by omega
        have e3 := hd 3 _ (by kernel_rfl) rfl
        have q7 := slot_at (t := 7) 3 ha (by kernel_rfl) (by kernel_rfl) (by kernel_rfl) e3
        have p7 := slot_norm q7
        clear ha hd hst
        have kk := (HA.out.below (Cg1.old hI (by simp <;> omega))).c2
        rw [HVN.out] at kk
        exact StepI.pure (v := .slice A S.now.length cc) rfl rfl (by go_simp) ⟨rfl, hI⟩
      · intro us au w1 k5 hlo hhi ha hd hst hI
        obtain rfl : k5 = 0 := by omega
        have q3 := slot_far (t := 3) (v := .pointer (some ⟨gc, 0, none⟩)) ha (by kernel_rfl) (by kernel_rfl)
        have p3 := slot_norm q3
        clear ha hd hst
        have hcx := HCE.out.below (Cg1.old hI (by simp <;> omega)) HCE.out.blk
        have k0 := hcx.cell 0 (by decide)
        have k1 := hcx.cell 1 (by decide)
        have k2 := hcx.cell 2 (by decide)
        change w1.cell? _ = some (.string (bkN cd.n)) at k0
        change w1.cell? _ = some (.string (bkN cd.a)) at k1
        change w1.cell? _ = some (.int .i64 cd.f) at k2
        exact StepI.pure (v := .agg #[.string (bkN cd.n), .string (bkN cd.a), .int .i64 cd.f]) rfl rfl (by go_simp) ⟨rfl, hI⟩
      · intro us au w1 ha hd hst hI
        have e4 := hd 4 _ (by kernel_rfl) rfl
        have e5 := hd 5 _ (by kernel_rfl) rfl
        have q8 := slot_at (t := 8) 4 ha (by kernel_rfl) (by kernel_rfl) (by kernel_rfl) e4
        have p8 := slot_norm q8
        have q9 := slot_at (t := 9) 5 ha (by kernel_rfl) (by kernel_rfl) (by kernel_rfl) e5
        have p9 := slot_norm q9
        clear ha hd hst
        obtain rfl : w1 = w0.drew := hI
        refine StepI.call (f := 61) (args := #[.slice A S.now.length cc, .agg #[.string (bkN cd.n), .string (bkN cd.a), .int .i64 cd.f]]) rfl rfl (by go_simp) ?_
        refine (HAP.out w0.drew 0 _ (by rw [← HVN.out]; exact HA.out.drew.now)).mono ?_
        rintro e w5 ⟨v5, rfl, ho5, hb5⟩
        obtain ⟨A5, c5, rfl⟩ := ho5.shape
        exact ⟨_, rfl, trivial, A5, c5, rfl, ho5, (Below.refl _ _).drew.trans hb5⟩
      · intro us au w1 k7 hlo hhi ha hd hst hI
        obtain rfl : k7 = 1 := by omega
        have e0 := hd 0 _ (by kernel_rfl) rfl
        have q4 := slot_at (t := 4) 0 ha (by kernel_rfl) (by kernel_rfl) (by kernel_rfl) e0
        have p4 := slot_norm q4
        clear ha hd hst
        exact StepI.pure (v := .pointer (some ⟨q.p, 0, none⟩)) rfl rfl (by go_simp) ⟨rfl, hI⟩
      · intro us au w1 k8 hlo hhi ha hd hst hI
        obtain rfl : k8 = 1 := by omega
        have e7 := hd 7 _ (by kernel_rfl) rfl
        have q11 := slot_at (t := 11) 7 ha (by kernel_rfl) (by kernel_rfl) (by kernel_rfl) e7
        have p11 := slot_norm q11
        clear ha hd hst
        exact StepI.pure (v := .pointer (some ⟨q.p, 2, none⟩)) rfl rfl (by go_simp) ⟨rfl, hI⟩
      · intro us au w1 ha hd hst hI
        have e8 := hd 8 _ (by kernel_rfl) rfl
        obtain ⟨_⟩ := hd 6 _ (by kernel_rfl) rfl
        have q12 := slot_at (t := 12) 8 ha (by kernel_rfl) (by kernel_rfl) (by kernel_rfl) e8
        have p12 := slot_norm q12
        have q10 := slot_at (t := 10) 6 ha (by kernel_rfl) (by kernel_rfl) (by kernel_rfl) (Eq.refl (us 6))
        have p10 := slot_norm q10
        clear ha hd hst
        obtain ⟨A9, c9, hu9, ho9, hb9⟩ := hI
        rw [hu9] at p10
        have kk := (HA.out.below hb9).c2
        have ff := (HA.out.below hb9).fz 2
        exact StepI.stored (w' := w1.setCell ⟨q.p, 2, none⟩ (.slice A9 (applyC S.now c).length c9)) rfl rfl (by go_simp) ⟨trivial, w1, A9, c9, hu9, ho9, hb9, by rw [hu9]⟩
    case done =>
      intro us w1 hI hd
      obtain ⟨w2, A2, c2', hv2, ho2, hb2, rfl⟩ := Cg1.fin hI
      simp only [putAll, upd]
      go_simp
      go_wp2_with fail
      go_meet
      exact ⟨w2, _, by rw [hv2], ho2, hb2⟩
  case rest =>
    obtain ⟨w1, v, rfl, ho1, hb1⟩ := hcut
    have hA2 := HA.out.stNow ho1 hb1
    have hce2 : Cel (w1.setCell ⟨q.p, 2, none⟩ v) gc 108 3 (fun i => if i = 0 then .string (bkN cd.n) else if i = 1 then .string (bkN cd.a) else .int .i64 cd.f) :=
      (HCE.out.below hb1 HCE.out.blk).same (Below.heap_setCell _ _ _ _ (fun e => kd_ne HCE.out.kd HA.out.cel.kd (by decide) e))
    have HC2 : Hid (Chg (fun k => k = q.p) w0 (w1.setCell ⟨q.p, 2, none⟩ v)) := Lib.hid ((Chg.of_below (S := fun k => k = q.p) hb1).setCell (a := ⟨q.p, 2, none⟩) (.inl rfl) v)
    have HAO := Lib.hid HA.out
    clear HA HCE c2 f2 k0 k1 k2 ho1 hb1 HAP
    generalize w1.setCell ⟨q.p, 2, none⟩ v = w5 at *
    obtain ⟨Aw, cw, hvw⟩ := hA2.wait.shape
    have HVW := Lib.hid hvw
    have HA := Lib.hid hA2
    have HCE := Lib.hid hce2
    have HLW := Lib.hid hlw
    have HI2 := Lib.hid hi
    have HZ : Hid (i0.zero = some (.agg #[.string ⟨#[]⟩, .string ⟨#[]⟩, .int .i64 0]) ∧ i0.size = 3 ∧ i0.bytes = 40) := Lib.hid ⟨hz0, hz1, hz2⟩
    clear hA2 hce2 hvw hlw hi hz0 hz1 hz2
    go_upto_region 2 with (fail)
    refine wp_region_ph (by kernel_rfl) [6, 7, 10] [.span 0 2, .span 0 1, .span 0 1, .span 0 1, .span 0 1, .span 0 0, .phase 0, .phase 1, .span 2 2, .span 2 2, .phase 2] [fun z9 => z9 = .pointer (some ⟨q.p, 0, none⟩), fun z9 => z9 = .pointer (some ⟨q.p, 0, none⟩), fun z9 => z9 = .pointer (some ⟨q.p, 0, none⟩), fun z9 => z9 = .pointer (some ⟨q.p, 4, none⟩), fun z9 => z9 = .slice Aw S.wait.length cw, fun z9 => z9 = .agg #[.string (bkN cd.n), .string (bkN cd.a), .int .i64 cd.f], fun z9 => z9 = .slice (some ⟨w5.heap.size, 0, none⟩) 1 1, fun _ => True, fun z9 => z9 = .pointer (some ⟨q.p, 0, none⟩), fun z9 => z9 = .pointer (some ⟨q.p, 4, none⟩), fun _ => True] (CgI w5 { q with vn := v } { S with now := applyC S.now c } cd) (by kernel_rfl) (by kernel_rfl) (by kernel_rfl) (by kernel_rfl) (by kernel_rfl) (by kernel_rfl) rfl rfl ((show w5.drew = w5.drew from rfl)) ?steps ?done
    case steps =>
      refine ⟨?_, ?_, ?_, ?_, ?_, ?_, ?_, ?_, ?_, ?_, ?_, trivial⟩
      · intro us au w1 k0 hlo hhi ha hd hst hI
        have q0 := slot_far (t := 0) (v := .pointer (some ⟨q.p, 0, none⟩)) ha (by kernel_rfl) (by kernel_rfl)
        have p0 := slot_norm q0
        clear ha hd hst
        exact StepI.pure (v := .pointer (some ⟨q.p, 0, none⟩)) rfl rfl (by go_simp) ⟨rfl, hI⟩
      · intro us au w1 k1 hlo hhi ha hd hst hI
        have q0 := slot_far (t := 0) (v := .pointer (some ⟨q.p, 0, none⟩)) ha (by kernel_rfl) (by kernel_rfl)
        have p0 := slot_norm q0
        clear ha hd hst
        exact StepI.pure (v := .pointer (some ⟨q.p, 0, none⟩)) rfl rfl (by go_simp) ⟨rfl, hI⟩
      · intro us au w1 k2 hlo hhi ha hd hst hI
        have e1 := hd 1 _ (by kernel_rfl) rfl
        have q14 := slot_at (t := 14) 1 ha (by kernel_rfl) (by kernel_rfl) (by kernel_rfl) e1
        have p14 := slot_norm q14
        clear ha hd hst
        exact StepI.pure (v := .pointer (some ⟨q.p, 0, none⟩)) rfl rfl (by go_simp) ⟨rfl, hI⟩
      · intro us au w1 k3 hlo hhi ha hd hst hI
        have e2 := hd 2 _ (by kernel_rfl) rfl
        have q15 := slot_at (t := 15) 2 ha (by kernel_rfl) (by kernel_rfl) (by kernel_rfl) e2
        have p15 := slot_norm q15
        clear ha hd hst
        exact StepI.pure (v := .pointer (some ⟨q.p, 4, none⟩)) rfl rfl (by go_simp) ⟨rfl, hI⟩
      · intro us au w1 k4 hlo hhi ha hd hst hI
        have e3 := hd 3 _ (by kernel_rfl) rfl
        have q16 := slot_at (t := 16) 3 ha (by kernel_rfl) (by kernel_rfl) (by kernel_rfl) e3
        have p16 := slot_norm q16
        clear ha hd hst
        have kk : w1.cell? ⟨q.p, 4, none⟩ = some (.slice Aw S.wait.length cw) := by rw [← HVW.out]; exact (HA.out.below (CgI.old hI (by simp <;> omega))).c4
        exact StepI.pure (v := .slice Aw S.wait.length cw) rfl rfl (by go_simp) ⟨rfl, hI⟩
      · intro us au w1 k5 hlo hhi ha hd hst hI
        obtain rfl : k5 = 0 := by omega
        have q3 := slot_far (t := 3) (v := .pointer (some ⟨gc, 0, none⟩)) ha (by kernel_rfl) (by kernel_rfl)
        have p3 := slot_norm q3
        clear ha hd hst
        have hcx := HCE.out.below (CgI.old hI (by simp <;> omega)) HCE.out.blk
        have k0 := hcx.cell 0 (by decide)
        have k1 := hcx.cell 1 (by decide)
        have k2 := hcx.cell 2 (by decide)
        change w1.cell? _ = some (.string (bkN cd.n)) at k0
        change w1.cell? _ = some (.string (bkN cd.a)) at k1
        change w1.cell? _ = some (.int .i64 cd.f) at k2
        exact StepI.pure (v := .agg #[.string (bkN cd.n), .string (bkN cd.a), .int .i64 cd.f]) rfl rfl (by go_simp) ⟨rfl, hI⟩
      · intro us au w1 ha hd hst hI
        have e5 := hd 5 _ (by kernel_rfl) rfl
        have q18 := slot_at (t := 18) 5 ha (by kernel_rfl) (by kernel_rfl) (by kernel_rfl) e5
        have p18 := slot_norm q18
        clear ha hd hst
        obtain rfl : w1 = w5.drew := hI
        exact StepI.runs (w' := w5.drew.alloc (.cells #[.string (bkN cd.n), .string (bkN cd.a), .int .i64 cd.f] 108)) rfl rfl (by go_simp) ⟨rfl, rfl, rfl⟩
      · intro us au w1 ha hd hst hI
        have e4 := hd 4 _ (by kernel_rfl) rfl
        have e6 := hd 6 _ (by kernel_rfl) rfl
        have q17 := slot_at (t := 17) 4 ha (by kernel_rfl) (by kernel_rfl) (by kernel_rfl) e4
        have p17 := slot_norm q17
        have q19 := slot_at (t := 19) 6 ha (by kernel_rfl) (by kernel_rfl) (by kernel_rfl) e6
        have p19 := slot_norm q19
        clear ha hd hst
        obtain ⟨hv6, rfl⟩ : _ ∧ w1 = _ := hI
        refine StepI.wp rfl rfl (fun K hK => ?_)
        have hbx : Below w5.heap.size w5 (w5.drew.alloc (.cells #[.string (bkN cd.n), .string (bkN cd.a), .int .i64 cd.f] 108)) := (Below.refl _ _).drew.alloc (Nat.le_refl _) _
        have hOW := HA.out.wait.keptB hbx
        rw [HVW.out] at hOW
        have hls := HLW.out
        refine wp_append_S (.tmp 17) (.tmp 19) 88 88 rfl i0 (.agg #[.string ⟨#[]⟩, .string ⟨#[]⟩, .int .i64 0]) 40 (.slice 108) Try.underlying88 Try.underlying88 (fun _ h => by cases h) HI2.out HZ.out.1 HZ.out.2.1 HZ.out.2.2 rfl q17 q19 hOW (Src.agg3 (P := Try.prog) w5.drew (.string (bkN cd.n)) (.string (bkN cd.a)) (.int .i64 cd.f) 108 rfl rfl rfl) (by show S.wait.length + 1 ≤ maxLen; unfold maxLen; omega) (by show (S.wait.length + 1) * 40 ≤ _; omega) (Nat.zero_le _) ?_
        intro A9 c9 w9 ho9 hg9 hw9
        refine hK _ _ ⟨trivial, A9, c9, rfl, ho9, ?_, ?_⟩
        · show w5.grownBy w9 q.vw.ownBlock
          rw [HVW.out]
          exact World.grownBy.andThen (⟨hbx.os, hbx.tape, hbx.output, hbx.size, fun k hk _ => hbx.block k hk⟩ : w5.grownBy _ (Value.slice Aw S.wait.length cw).ownBlock) hg9 (fun j hj => .inr hj)
        · rw [HVW.out]
          refine hw9.imp id (fun h => ?_)
          rw [h]
          simp
      · intro us au w1 k8 hlo hhi ha hd hst hI
        obtain rfl : k8 = 2 := by omega
        have e0 := hd 0 _ (by kernel_rfl) rfl
        have q13 := slot_at (t := 13) 0 ha (by kernel_rfl) (by kernel_rfl) (by kernel_rfl) e0
        have p13 := slot_norm q13
        clear ha hd hst
        exact StepI.pure (v := .pointer (some ⟨q.p, 0, none⟩)) rfl rfl (by go_simp) ⟨rfl, hI⟩
      · intro us au w1 k9 hlo hhi ha hd hst hI
        obtain rfl : k9 = 2 := by omega
        have e8 := hd 8 _ (by kernel_rfl) rfl
        have q21 := slot_at (t := 21) 8 ha (by kernel_rfl) (by kernel_rfl) (by kernel_rfl) e8
        have p21 := slot_norm q21
        clear ha hd hst
        exact StepI.pure (v := .pointer (some ⟨q.p, 4, none⟩)) rfl rfl (by go_simp) ⟨rfl, hI⟩
      · intro us au w1 ha hd hst hI
        have e9 := hd 9 _ (by kernel_rfl) rfl
        obtain ⟨_⟩ := hd 7 _ (by kernel_rfl) rfl
        have q22 := slot_at (t := 22) 9 ha (by kernel_rfl) (by kernel_rfl) (by kernel_rfl) e9
        have p22 := slot_norm q22
        have q20 := slot_at (t := 20) 7 ha (by kernel_rfl) (by kernel_rfl) (by kernel_rfl) (Eq.refl (us 7))
        have p20 := slot_norm q20
        clear ha hd hst
        obtain ⟨A9, c9, hu9, ho9, hg9, hw9⟩ := hI
        rw [hu9] at p20
        have hpw : q.vw.ownBlock ≠ some q.p := fun e => HA.out.np.2.2.2 _ e rfl
        have hcx : Cel w1 q.p 90 7 _ := HA.out.cel.grown hg9 hpw
        have y4 := hcx.cell 4 (by decide)
        have f4 := hcx.frozen 4
        exact StepI.stored (w' := w1.setCell ⟨q.p, 4, none⟩ (.slice A9 (S.wait.length + 1) c9)) rfl rfl (by go_simp) ⟨trivial, w1, A9, c9, hu9, ho9, hg9, hw9, by rw [hu9]⟩
    case done =>
      intro us w1 hI hd
      obtain ⟨W1, A7, c7, hv7, ho7, hg7, hu7, rfl⟩ := CgI.fin hI
      have hfin : RfTo F q.p w (changeF S c) (W1.setCell ⟨q.p, 4, none⟩ (us 7)) := by
        have hs5 := HC2.out.size
        have hb0 : Below w.heap.size w w0 := by rw [HGC.out]; exact HB0.out
        have hs0 := hb0.size
        have h3 := HA.out.stWait (c := c) hg7 (by rw [HCD.out]; exact ho7) (fun k hk => by
          rcases hu7 with h | h
          · exact .inl (by rw [← h]; exact hk)
          · rw [hk] at h; injection h with h; exact .inr (by omega))
        rw [HCF.out]
        refine ⟨_, h3.mono (fun k hk => ?_), rfl, ?_⟩
        · rcases hk with (hk | hk) | hk
          · exact .inl hk
          · exact .inr (by omega)
          · exact .inr (by omega)
        · refine ((Chg.of_below (S := F) hb0).trans HC2.out (fun k hl hk => by rw [hk]; exact HAO.out.mem.p)).trans (S' := fun k => k = q.p ∨ q.vw.ownBlock = some k) ((Chg.of_grown hg7 (fun k hk => .inr hk)).setCell (a := ⟨q.p, 4, none⟩) (.inl (.inl rfl)) _) (fun k hl hk => ?_)
          rcases hk with hk | hk
          · rw [hk]; exact HAO.out.mem.p
          · exact HAO.out.mem.vw k hk
      have HFIN := Lib.hid hfin
      clear hfin hI hv7 ho7 hg7 hu7
      simp only [putAll]
      go_simp
      go_wp2
      refine ⟨rfl, _, results_none rfl _ _ _, ?_⟩
      rw [HPO.out]
      exact ⟨rfl, HFIN.out⟩
end Go.Proofs.Ytmoaabjiokjjlaa
namespace Go.Proofs.Ytmoaabjiokjjlaa
open Go.RowKit Go.Maps
set_option linter.unusedVariables false
set_option linter.unusedSimpArgs false

/-- What a call leaves. -/
def RfPost (F : Nat → Prop) (p : Nat) (r : Int × Fs) (w : World) (e : Ending) (w' : World) : Prop := e = .returned (.int .i64 r.1) ∧ RfTo F p w r.2 w'
section
variable {w w' : World} {F F' : Nat → Prop} {q : Rq} {S S' : Fs} {N M : Nat}
theorem findI_pos {l : Ns} {s : Nm} {i : Nat} (h : getN l s = some i) : findI l s = (i : Int) := by unfold findI; rw [h]
theorem findI_neg {l : Ns} {s : Nm} (h : getN l s = none) : findI l s = -1 := by unfold findI; rw [h]
theorem RfTo.burnt (h : RfAt w F q S) {S1 : Fs} (hA : RfAt w' F q S1) (hC : Chg (fun k => k = q.p) w w') : RfTo F q.p w S1 w' := ⟨q, hA.mono fun k hk => .inl hk, rfl, hC.mono fun k _ hk => by rw [hk]; exact h.mem.p⟩
theorem RfTo.quiet (h : RfAt w F q S) (n : Nat) : RfTo F q.p w S (w.drewN n) := ⟨q, (h.same (w' := w.drewN n) fun _ _ _ => rfl).mono fun k hk => .inl hk, rfl, (Chg.refl _ _).drewN n⟩
/-- Behind a change of the struct alone. -/
theorem RfTo.after (h : RfAt w F q S) (hC : Chg (fun k => k = q.p) w w') {w2 : World} (h2 : RfTo F q.p w' S' w2) : RfTo F q.p w S' w2 := by
  obtain ⟨q2, hB, hp2, hD⟩ := h2
  have hs := hC.size
  exact ⟨q2, hB.mono (fun k hk => by rcases hk with hk | hk; exact .inl hk; exact .inr (by omega)), hp2, (hC.mono (S' := F) fun k _ hk => by rw [hk]; exact h.mem.p).trans hD (fun k _ hk => hk)⟩
/-- Other files. -/
theorem RfAt.stFiles (h : RfAt w F q S) {v : Value} {L : List Fl} (hg : w.grownBy w' q.vf.ownBlock) (ho : FlS w' 0 v L)
    (hv : ∀ k, v.ownBlock = some k → q.vf.ownBlock = some k ∨ w.heap.size ≤ k) :
    RfAt (w'.setCell ⟨q.p, 1, none⟩ v) (fun k => F k ∨ w.heap.size ≤ k) { q with vf := v } { S with files := L } := by
  obtain ⟨n1, n2, n3, n4⟩ := h.np
  have hbl := h.cel.blk
  have hpw : q.vf.ownBlock ≠ some q.p := fun e => n1 _ e rfl
  have hvp : v.ownBlock ≠ some q.p := fun e => by
    rcases hv _ e with h1 | h1
    · exact hpw h1
    · omega
  have hk : ∀ k, k < w.heap.size → k ≠ q.p → q.vf.ownBlock ≠ some k → (w'.setCell ⟨q.p, 1, none⟩ v).heap[k]? = w.heap[k]? := fun k hk hn hw => (Below.heap_setCell _ _ _ _ hn).trans (hg.block k hk (Ne.symm hw))
  have hcel : Cel w' q.p 90 7 (rfF q S) := h.cel.grown hg hpw
  refine ⟨(hcel.set 1 v).congr fun i hi => ?_, ho.heap fun k hk => Below.heap_setCell _ _ _ _ (fun e => hvp (by rw [hk]; exact congrArg some e)), h.now.heap fun k e => hk k (h.now.lt k e).2 (n2 k e) (fun e2 => kd_ne (h.files.kd e2) (h.now.kd e) (by decide) rfl),
    h.last.heap fun k e => hk k (h.last.lt k e).2 (n3 k e) (fun e2 => kd_ne (h.files.kd e2) (h.last.kd e) (by decide) rfl), h.wait.heap fun k e => hk k (h.wait.lt k e).2 (n4 k e) (fun e2 => kd_ne (h.files.kd e2) (h.wait.kd e) (by decide) rfl), ⟨.inl h.mem.p, fun k e => ?_, fun k e => .inl (h.mem.vn k e), fun k e => .inl (h.mem.vl k e), fun k e => .inl (h.mem.vw k e)⟩⟩
  · rcases rfI hi with rfl | rfl | rfl | rfl | rfl | rfl | rfl <;> rfl
  · rcases hv k e with h1 | h1
    · exact .inl (h.mem.vf k h1)
    · exact .inr h1
end
/-! ### Create -/
theorem okN_sz2 {s : ByteArray} (h : okN s.data.toList = true) : s.data.toList.length ≤ 200 := (okN_sz h).2
set_option maxRecDepth 100000 in
set_option maxHeartbeats 2000000 in
theorem rcreate_any (w : World) (F : Nat → Prop) (q : Rq) (S : Fs) (N : Nat) (h : RfAt w F q S) (hI : Inv N 16777216 S) (hN : N < 1000000) (s : ByteArray) (hs : s.size ≤ 9223372036854775807) :
    Calls Try.prog 43 #[ptrV q.p, .string s] w (RfPost F q.p (createF S s.data.toList) w) := by
  obtain ⟨i0, hi, hz0, hz1, hz2⟩ := info_parts info_fle
  have HPO : Hid (∀ r e w', RfPost F q.p r w e w' = (e = .returned (.int .i64 r.1) ∧ RfTo F q.p w r.2 w')) := Lib.hid (fun _ _ _ => rfl)
  generalize hr : createF S s.data.toList = r at *
  have HR := Lib.hid hr
  generalize RfPost F q.p = POST at *
  have HNM := Lib.hid (fun w => rname_any s w hs)
  have HFI := Lib.hid (find_any w F q S N h hI (by omega) s)
  have HBU := Lib.hid (rburn_any w F q S h hI.fus)
  have HI := Lib.hid hI
  have HNB := Lib.hid hN
  have c6 := h.c6
  have H := Lib.hid h
  have hfl : S.files.length ≤ 1000000 := by have := hI.fl; omega
  clear hs h hI hN hr
  unfold ptrV at *
  go_enter Try.func43, Try.ntmps43
  cases hd : S.dead
  case true =>
    rw [hd] at c6
    have HE : Hid (r = (50, S)) := Lib.hid (by rw [← HR.out]; unfold createF namedF; rw [hd]; rfl)
    clear hd
    go_wp2
    rw [HPO.out, HE.out]
    exact ⟨rfl, RfTo.refl H.out⟩
  case false =>
    rw [hd] at c6
    have HD := Lib.hid hd
    clear hd
    cases hk : okN s.data.toList
    case false =>
      have HE : Hid (r = (1, S)) := Lib.hid (by rw [← HR.out]; unfold createF namedF; rw [HD.out]; simp [hk])
      rw [hk] at HNM
      clear hk
      go_wp2_with (go_at_call 57; refine (HNM.out w).mono ?_; rintro e w1 ⟨rfl, rfl⟩)
      rw [HPO.out, HE.out]
      exact ⟨rfl, RfTo.refl H.out⟩
    case true =>
      rw [hk] at HNM
      have HK := Lib.hid hk
      clear hk
      have HNF : Hid (namedF S [s.data.toList] = 0) := Lib.hid (by unfold namedF; rw [HD.out]; simp [HK.out])
      cases hg : getN S.now s.data.toList
      case some i =>
        have hfp := findI_pos hg
        rw [hfp] at HFI
        have HE : Hid (r = (64, S)) := Lib.hid (by rw [← HR.out]; unfold createF; rw [if_neg (by rw [HNF.out]; simp), if_pos (by rw [hg]; simp)])
        have d1 : decide ((0 : Int) ≤ (i : Int)) = true := decide_eq_true (by omega)
        clear hg hfp
        go_wp2_with (first
          | (go_at_call 57; refine (HNM.out w).mono ?_; rintro e w1 ⟨rfl, rfl⟩)
          | (go_at_call 58; refine HFI.out.mono ?_; rintro e w1 ⟨rfl, rfl⟩))
        rw [HPO.out, HE.out]
        exact ⟨rfl, RfTo.refl H.out⟩
      case none =>
        have hfp := findI_neg hg
        rw [hfp] at HFI
        have HG := Lib.hid hg
        clear hg hfp
        cases hb : burnOk S
        case false =>
          rw [hb] at HBU
          have HE : Hid (r = (50, burnF S)) := Lib.hid (by rw [← HR.out]; unfold createF; rw [if_neg (by rw [HNF.out]; simp), if_neg (by rw [HG.out]; simp), if_pos hb])
          clear hb
          go_wp2_with (first
            | (go_at_call 57; refine (HNM.out w).mono ?_; rintro e w1 ⟨rfl, rfl⟩)
            | (go_at_call 58; refine HFI.out.mono ?_; rintro e w1 ⟨rfl, rfl⟩)
            | (go_at_call 59; refine HBU.out.mono ?_; rintro e w1 ⟨rfl, hA1, hC1⟩))
          rw [HPO.out, HE.out]
          exact ⟨rfl, RfTo.burnt H.out hA1 hC1⟩
        case true =>
          rw [hb] at HBU
          have HE : Hid (r = (0, changeF { burnF S with files := S.files ++ [⟨[], 0⟩] } (.create s.data.toList S.files.length))) := Lib.hid (by rw [← HR.out]; unfold createF; rw [if_neg (by rw [HNF.out]; simp), if_neg (by rw [HG.out]; simp), if_neg (by rw [hb]; simp)])
          clear hb
          go_upto_region 9 with (first
            | (go_at_call 57; refine (HNM.out w).mono ?_; rintro e w1 ⟨rfl, rfl⟩)
            | (go_at_call 58; refine HFI.out.mono ?_; rintro e w1 ⟨rfl, rfl⟩)
            | (go_at_call 59; refine HBU.out.mono ?_; rintro e w1 ⟨rfl, hA1, hC1⟩))
          obtain ⟨A, c, hvf⟩ := hA1.files.shape
          have c1 := hA1.c1
          rw [hvf] at c1
          have hbx : Below w1.heap.size w1 (w1.alloc (.cells #[.string ⟨#[]⟩, .int .i64 0] 105)) := (Below.refl _ _).alloc (Nat.le_refl _) _
          have HOA := Lib.hid (hA1.files.keptB hbx)
          rw [hvf] at HOA
          have HSR := Lib.hid (Src.agg2 (P := Try.prog) w1 (.string ⟨#[]⟩) (.int .i64 0) 105 rfl rfl)
          have HGA : Hid (w1.grownBy (w1.alloc (.cells #[.string ⟨#[]⟩, .int .i64 0] 105)) (Value.slice A S.files.length c).ownBlock) := Lib.hid ⟨hbx.os, hbx.tape, hbx.output, hbx.size, fun k hk _ => hbx.block k hk⟩
          have HA1 := Lib.hid hA1
          have HC1 := Lib.hid hC1
          have HVF := Lib.hid hvf
          have HAL : Hid ((w1.alloc (.cells #[.string ⟨#[]⟩, .int .i64 0] 105)).heap.size = w1.heap.size + 1) := Lib.hid (by simp)
          have HST : Hid (∀ (A9 : Option Addr) (c9 : Nat) (w9 : World), OwnS w9 0 105 2 (.slice A9 (S.files.length + 1) c9) (S.files.length + 1) (flsV S.files ++ [.string ⟨#[]⟩, .int .i64 0]) → (w1.alloc (.cells #[.string ⟨#[]⟩, .int .i64 0] 105)).grownBy w9 (Value.slice A S.files.length c).ownBlock → ((Value.slice A9 (S.files.length + 1) c9).ownBlock = (Value.slice A S.files.length c).ownBlock ∨ (Value.slice A9 (S.files.length + 1) c9).ownBlock = some (w1.alloc (.cells #[.string ⟨#[]⟩, .int .i64 0] 105)).heap.size) →
              Cel w9 q.p 90 7 (rfF q (burnF S)) ∧ RfTo F q.p w { burnF S with files := S.files ++ [⟨[], 0⟩] } (w9.setCell ⟨q.p, 1, none⟩ (.slice A9 (S.files.length + 1) c9))) := Lib.hid (by
            intro A9 c9 w9 ho9 hg9 hw9
            have hg : w1.grownBy w9 q.vf.ownBlock := by
              rw [HVF.out]
              exact World.grownBy.andThen HGA.out hg9 (fun j hj => .inr hj)
            refine ⟨HA1.out.cel.grown hg (fun e => HA1.out.np.1 _ e rfl), RfTo.after H.out HC1.out ?_⟩
            refine ⟨{ q with vf := .slice A9 (S.files.length + 1) c9 }, HA1.out.stFiles (v := .slice A9 (S.files.length + 1) c9) (L := S.files ++ [⟨[], 0⟩]) hg ?_ (fun k hk => ?_), rfl, ?_⟩
            · show OwnS w9 0 _ 2 _ (S.files ++ [(⟨[], 0⟩ : Fl)]).length (flsV (S.files ++ [⟨[], 0⟩]))
              have e : flsV (S.files ++ [(⟨[], 0⟩ : Fl)]) = flsV S.files ++ [.string ⟨#[]⟩, .int .i64 0] := by unfold flsV; rw [List.flatMap_append]; rfl
              rw [List.length_append, e]
              exact ho9
            · rcases hw9 with h9 | h9
              · left; rw [HVF.out]; exact h9.symm.trans hk
              · right
                rw [hk, HAL.out] at h9
                injection h9 with h9
                omega
            · refine (Chg.of_grown (S := fun k => q.vf.ownBlock = some k ∨ k = q.p) hg (fun k hk => .inl hk)).setCell (a := ⟨q.p, 1, none⟩) (.inl (.inr rfl)) _ |>.mono fun k _ hk => ?_
              rcases hk with hk | hk
              · exact HA1.out.mem.vf k hk
              · rw [hk]; exact HA1.out.mem.p)
          have hm1 : S.files.length + 1 ≤ maxLen := by unfold maxLen; omega
          have hb1 : (S.files.length + 1) * 24 ≤ 140737488355328 := by omega
          have hbz : (0 : Nat) ≤ (w1.alloc (.cells #[.string ⟨#[]⟩, .int .i64 0] 105)).heap.size := Nat.zero_le _
          clear hA1 hC1 hvf hbx c6
          change Hid (OwnS _ 0 _ 2 (.slice A S.files.length c) S.files.length (flsV S.files)) at HOA
          change w1.cell? _ = some (.slice A S.files.length c) at c1
          have HCH := Lib.hid (fun (W : World) (F' : Nat → Prop) (q' : Rq) (hq : q'.p = q.p) (hA : RfAt W F' q' { burnF S with files := S.files ++ [⟨[], 0⟩] }) => rchange_any W F' q' _ (N + 1) (.create s.data.toList S.files.length) hA (by have := HI.out.burn.file; rw [burnF_files] at this; exact this) (by have := HNB.out; omega) (okN_sz2 HK.out))
          have HCE : Hid (cdA (chD (.create s.data.toList S.files.length)) = .agg #[.string s, .string ⟨#[]⟩, .int .i64 (S.files.length : Int)]) := Lib.hid (by
            show Value.agg #[.string (bkN s.data.toList), _, _] = _
            rw [bkN_of]; rfl)
          rw [HCE.out] at HCH
          unfold RChPost at HCH
          go_upto_region 10 with (at_builtin; go_loud (refine wpList_append_S rfl (.tmp 27) (.tmp 29) 86 86 rfl i0 (.agg #[.string ⟨#[]⟩, .int .i64 0]) 24 (.slice 105) Try.underlying86 Try.underlying86 (fun _ h => by cases h) hi hz0 hz1 hz2 rfl rfl rfl HOA.out HSR.out hm1 hb1 hbz ?_; intro A9 c9 w9 ho9 hg9 hw9; have hst := HST.out A9 c9 w9 ho9 hg9 hw9; have y1 := hst.1.cell 1 (by decide); have f1 := hst.1.frozen 1))
          have HRT := Lib.hid hst.2
          clear hst ho9 hg9 hw9 y1 f1 HST HOA HSR HGA HAL hm1 hb1 hbz c1 HA1 HC1 HVF
          generalize w9.setCell ⟨q.p, 1, none⟩ (.slice A9 (S.files.length + 1) c9) = w5 at *
          obtain ⟨q5, hA5, hq5, hC5⟩ := HRT.out
          have k1 := hA5.c1
          obtain ⟨A5, c5, hv5⟩ := hA5.files.shape
          rw [hv5, hq5] at k1
          rw [show (S.files ++ [(⟨[], 0⟩ : Fl)]).length = S.files.length + 1 by simp] at k1
          have HCX := Lib.hid (HCH.out w5 _ q5 hq5 hA5)
          rw [hq5] at HCX
          clear hA5 hq5 hv5 hC5 HCH
          go_wp2_with (go_at_call 60; refine HCX.out.mono ?_; rintro e w6 ⟨rfl, hT⟩)
          rw [HPO.out, HE.out]
          exact ⟨rfl, HRT.out.trans (fun _ _ _ => hT)⟩
end Go.Proofs.Ytmoaabjiokjjlaa
