/- GraphLines, in plain words: what hangs on a line's commits. -/
import Derived.Test.YtihanglnjghcfaaGreatDoorGLn16
import Derived.Test.YtihanglnjghcfaaGreatDoorGLn14
import Derived.Test.YtihanglnjghcfaaGreatDoorGLn3
namespace Go.Proofs.YtihanglnjghcfaaGreatDoor
open Go.RowKit
set_option linter.unusedVariables false
set_option linter.unusedSimpArgs false

theorem ln_len {k : Nat} (h : k < 17) : (lnD k).length = 40 ∧ (lnB k).length ≤ 2000 := by
 have := List.all_eq_true.1 ln_len_all k (List.mem_range.2 h)
 rw [Bool.and_eq_true] at this
 exact ⟨of_decide_eq_true this.1, of_decide_eq_true this.2⟩
theorem ln_gob {k : Nat} (h : k < 17) : gobK ⟨1, lnB k, lnD k⟩ = lnG k := by
 have := List.all_eq_true.1 ln_lk_all k (List.mem_range.2 h)
 rw [Bool.and_eq_true] at this
 unfold gobK lnG
 dsimp only
 rw [of_decide_eq_true this.1, of_decide_eq_true this.2, show tgOf 1 (lnB k) = none by unfold tgOf; rw [if_neg (by decide)]]
theorem t_gob : gobK ⟨2, [], et_d⟩ = tG := by kernel_rfl
theorem ln_map {N : Nat} (h : N ≤ 17) : (lnR N).map gobK = tG :: (List.range N).map lnG := by
 unfold lnR
 rw [List.map_append, List.map_map, List.map_cons, List.map_nil, t_gob]
 show tG :: _ = _
 congr 1
 refine List.map_congr_left fun k hk => ?_
 exact ln_gob (by have := List.mem_range.1 hk; omega)
theorem ln_mem {N : Nat} {x : Kn} (h : x ∈ lnR N) : x = ⟨2, [], et_d⟩ ∨ ∃ k, k < N ∧ x = ⟨1, lnB k, lnD k⟩ := by
 unfold lnR at h
 rcases List.mem_append.1 h with h | h
 · exact .inl (by simpa using h)
 · obtain ⟨k, hk, rfl⟩ := List.mem_map.1 h
   exact .inr ⟨k, List.mem_range.1 hk, rfl⟩
theorem lnR_len (N : Nat) : (lnR N).length = N + 1 := by unfold lnR; simp
theorem lnR_sz {N : Nat} (h : N ≤ 17) : ∀ x ∈ lnR N, x.b.length ≤ 2000 := fun x hx => by
 rcases ln_mem hx with rfl | ⟨k, hk, rfl⟩
 · simp
 · exact (ln_len (by omega)).2
theorem ln_tab {N : Nat} (h : N ≤ 17) : gobG (withoutK (lnR N) []) = lnTab N := by
 funext d
 have e : lnTab N d = (getK (lnR N) d).map gobK := by
  unfold lnTab getK
  rw [← ln_map h, List.find?_map]
  rfl
 rw [e]
 unfold gobG withoutK
 by_cases hd : d = []
 · rw [if_pos hd]
   have : getK (lnR N) d = none := by
    unfold getK
    rw [List.find?_eq_none]
    intro x hx
    rw [hd]
    rcases ln_mem hx with rfl | ⟨k, hk, rfl⟩
    · decide
    · have h40 := (ln_len (k := k) (by omega)).1
      intro h0
      have h1 : lnD k = [] := by simpa using h0
      rw [h1] at h40
      simp at h40
   rw [this]
 · rw [if_neg hd]
theorem ln_univ {N : Nat} (h : N ≤ 17) : Univ (withoutK (lnR N) []) lnU where
 num := by decide
 sz := fun d o ho => by have := lnR_sz h o (without_mem ho); omega
 lk := fun d o ks ho hks k hk => by
  have hm : k.id.data.toList ∈ (ks.map lkG).map (·.id) := List.mem_map.2 ⟨lkG k, List.mem_map_of_mem hk, rfl⟩
  rcases ln_mem (without_mem ho) with rfl | ⟨i, hi, rfl⟩
  · have h2 : lkOf 2 [] = some [] := by kernel_rfl
    dsimp only at hks
    rw [h2] at hks
    injection hks with hks
    rw [← hks] at hk
    simp at hk
  · have h3 := List.all_eq_true.1 ln_lk_all i (List.mem_range.2 (by omega))
    rw [Bool.and_eq_true] at h3
    have h4 := of_decide_eq_true h3.1
    dsimp only at hks
    rw [hks, Option.map_some] at h4
    injection h4 with h4
    rw [h4] at hm
    unfold lnK at hm
    unfold lnU
    by_cases h0 : i = 0
    · rw [if_pos h0] at hm
      simp at hm
      rw [hm]; simp
    · rw [if_neg h0] at hm
      simp at hm
      rcases hm with hm | hm
      · rw [hm]; simp
      · rw [hm]
        exact List.mem_cons_of_mem _ (List.mem_map.2 ⟨i - 1, List.mem_range.2 (by omega), rfl⟩)
theorem ln_anc {k a b : Nat} (hk : k < 16) (ha : a < k + 2) (hb : b < k + 2) : ancR (withoutK (lnR (k + 2)) []) lnU 100 (lnD a) (lnD b) = .ok (decide (a ≤ b)) := by
 have h1 := List.all_eq_true.1 ln_anc_all k (List.mem_range.2 hk)
 have h2 := List.all_eq_true.1 h1 a (List.mem_range.2 ha)
 have h3 := List.all_eq_true.1 h2 b (List.mem_range.2 hb)
 unfold ancR
 rw [ln_tab (by omega), show lnU.length + 1 = 19 from rfl]
 cases he : ancP (lnTab (k + 2)) 100 (lnD a) 19 0 [lnD b] with
 | error x => rw [he] at h3; simp [ancIs] at h3
 | ok y => rw [he] at h3; congr 1; simpa [ancIs] using h3
theorem closIs_ok {e : Except Int (List Git)} {L : List Gid} (h : closIs e L = true) : ∃ m, e = .ok m ∧ m.map (·.id) = L := by
 cases e with
 | error x => simp [closIs] at h
 | ok m => exact ⟨m, rfl, by simpa [closIs] using h⟩
theorem ln_clos {k b : Nat} (hk : k < 16) (hb : b < k + 2) :
 (∃ m, closR (withoutK (lnR (k + 2)) []) lnU [lnD b] ((b + 2 : Nat) : Int) = .ok m ∧ m.map (·.id) = lnC b) ∧ closR (withoutK (lnR (k + 2)) []) lnU [lnD b] ((b + 1 : Nat) : Int) = .error 5 ∧
 (∃ m, closR (withoutK (lnR (k + 2)) []) lnU [lnD b] 100 = .ok m ∧ m.map (·.id) = lnC b) ∧ ThRun (gobG (withoutK (lnR (k + 2)) [])) 0 (parG [] [lnD b]) (lnC b) := by
 have h1 := List.all_eq_true.1 ln_clos_all k (List.mem_range.2 hk)
 have h2 := List.all_eq_true.1 h1 b (List.mem_range.2 hb)
 simp only [Bool.and_eq_true] at h2
 obtain ⟨c1, c2, c3, c4⟩ := h2
 unfold closR
 rw [ln_tab (by omega), show lnU.length + 1 = 19 from rfl, show rootsP [] [lnD b] = [⟨lnD b, 0⟩] from rfl]
 refine ⟨closIs_ok c1, ?_, closIs_ok c3, ?_⟩
 · cases he : goG (lnTab (k + 2)) ((b + 1 : Nat) : Int) 19 0 [⟨lnD b, 0⟩] with
   | ok m => rw [he] at c2; simp [closBig] at c2
   | error x => rw [he] at c2; congr 1; simpa [closBig] using c2
 · have h5 : thF (lnTab (k + 2)) 19 0 [lnD b] = some (lnC b) := by simpa using c4
   have hrun : ∀ (n i : Nat) (L M : List Gid), thF (lnTab (k + 2)) n i L = some M → ThRun (lnTab (k + 2)) i L M := by
    intro n
    induction n with
    | zero => intro i L M h; simp [thF] at h
    | succ n ih =>
     intro i L M h
     unfold thF at h
     cases hx : L[i]? with
     | none => rw [hx] at h; simp at h; subst h; exact .done (by simpa using hx)
     | some d => rw [hx] at h; exact .step hx (ih _ _ _ h)
   exact hrun 19 0 [lnD b] (lnC b) h5
theorem ThRun.one {G : Gid → Option Gob} {i : Nat} {L M M' : List Gid} (h : ThRun G i L M) (h' : ThRun G i L M') : M = M' := by
 induction h generalizing M' with
 | done hl =>
  cases h' with
  | done => rfl
  | step hx _ => rw [List.getElem?_eq_none hl] at hx; cases hx
 | step hx _ ih =>
  cases h' with
  | done hl => rw [List.getElem?_eq_none hl] at hx; cases hx
  | step hy n =>
   rw [hx] at hy
   injection hy with hy
   subst hy
   exact ih n
theorem ln_there {k a : Nat} (hk : k < 16) (ha : a < k + 2) {M : List Gid} (h : ThRun (gobG (withoutK (lnR (k + 2)) [])) 0 (parG [] [lnD a]) M) : thOut (withoutK (lnR (k + 2)) []) M = lnC a := by
 rw [h.one (ln_clos hk ha).2.2.2]
 unfold thOut
 rw [List.filter_eq_self]
 intro d hd
 have h1 := List.all_eq_true.1 ln_in_all k (List.mem_range.2 hk)
 have h2 := List.all_eq_true.1 h1 a (List.mem_range.2 ha)
 have h3 := List.all_eq_true.1 h2 d hd
 rw [Bool.and_eq_true] at h3
 unfold withoutK
 rw [if_neg (by simpa using h3.2)]
 exact h3.1
theorem drop_len (X Y : List Gid) : (dropG (sortG X) (sortG Y)).length = (dropG X Y).length ∧ ∀ d, d ∈ dropG (sortG X) (sortG Y) ↔ d ∈ dropG X Y := by
 have e : ∀ Z, dropG (sortG X) Z = dropG X Z := fun Z => by
  unfold dropG
  refine List.filter_congr fun d _ => ?_
  congr 1
  rw [decide_eq_decide]
  exact sortG_mem
 rw [e]
 have hp : (dropG X (sortG Y)).Perm (dropG X Y) := by
  unfold dropG sortG
  exact (List.mergeSort_perm Y _).filter _
 exact ⟨hp.length_eq, fun d => hp.mem_iff⟩
theorem ln_cut {a b : Nat} (ha : a < 17) (hb : b < 17) : (dropG (sortG (lnC a)) (sortG (lnC b))).length = b - a ∧ ∀ i, a < i → i ≤ b → lnD i ∈ dropG (sortG (lnC a)) (sortG (lnC b)) := by
 have h1 := List.all_eq_true.1 ln_cut_all a (List.mem_range.2 ha)
 have h2 := List.all_eq_true.1 h1 b (List.mem_range.2 hb)
 rw [Bool.and_eq_true] at h2
 obtain ⟨h3, h4⟩ := drop_len (lnC a) (lnC b)
 refine ⟨by rw [h3]; exact of_decide_eq_true h2.1, fun i hi hib => (h4 _).2 ?_⟩
 have h5 := List.all_eq_true.1 h2.2 i (List.mem_range.2 (by omega))
 rw [Bool.or_eq_true] at h5
 rcases h5 with h5 | h5
 · simp at h5; omega
 · exact of_decide_eq_true h5
theorem lnC_len (b : Nat) : (lnC b).length = b + 2 := by unfold lnC; simp
end Go.Proofs.YtihanglnjghcfaaGreatDoor
namespace Go.Proofs.YtihanglnjghcfaaGreatDoor
open Go.RowKit Go.Maps
set_option linter.unusedVariables false
set_option linter.unusedSimpArgs false

theorem drop_take {hv P : List Gid} {i : Nat} {x : Gid} (h : P[i]? = some x) : dropG hv (P.take (i + 1)) = if x ∈ hv then dropG hv (P.take i) else dropG hv (P.take i) ++ [x] := by
 unfold dropG
 rw [List.take_add_one, h, List.filter_append]
 by_cases hx : x ∈ hv
 · rw [if_pos hx]; simp [hx]
 · rw [if_neg hx]; simp [hx]
end Go.Proofs.YtihanglnjghcfaaGreatDoor
namespace Go.Proofs.YtihanglnjghcfaaGreatDoor
open Go.RowKit
set_option linter.unusedVariables false

/-- What the chosen operations have left so far. -/
def desL (D : List Nat) (dn : Nat → Bool) (us : Nat → Value) : List (Option Value) := D.map fun d => if dn d = true then some (us d) else none
section
variable (P : Program) (ops : Array Oper) (Q : Exit → Act → World → Prop)
def StepD (D : List Nat) (Vs : List (Value → Prop)) (J : List (Option Value) → World → Prop) (a0 : Act) (i : Nat) (o : Oper) : Prop :=
 ∀ (us : Nat → Value) a w (dn : Nat → Bool), a = putAll us ops.toList 0 a0 → (∀ j, depB o j = true → dn j = true) → dn i = false → DepsI Vs o us → J (desL D dn us) w →
  StepI P ops Q (fun v w' => (Vs.getD i (fun _ => True)) v ∧ J (desL D (fun j => j == i || dn j) (upd us i v)) w') i o a w
def StepsD (D : List Nat) (Vs : List (Value → Prop)) (J : List (Option Value) → World → Prop) (a0 : Act) : List Oper → Nat → Prop
 | o :: l, i => StepD P ops Q D Vs J a0 i o ∧ StepsD D Vs J a0 l (i + 1)
 | [], _ => True
end
section
variable {P : Program} {ops : Array Oper} {Q : Exit → Act → World → Prop}
theorem StepsD.at_ {D : List Nat} {Vs : List (Value → Prop)} {J : List (Option Value) → World → Prop} {a0 : Act} : ∀ (l : List Oper) (k : Nat), StepsD P ops Q D Vs J a0 l k → ∀ i o, l[i]? = some o → StepD P ops Q D Vs J a0 (k + i) o
 | [], _, _, _, _, h => by simp at h
 | o' :: l, k, hs, i, o, h => by
  cases i with
  | zero => simp at h; subst h; exact hs.1
  | succ i =>
   have := StepsD.at_ l (k + 1) hs.2 i o (by simpa using h)
   rwa [show k + 1 + i = k + (i + 1) by omega] at this
/-- The law. -/
theorem wp_region_des {id : Nat} {l : List Oper} {a0 : Act} {w0 : World} (hm : P.follows .mixedOrders = true) (D : List Nat) (Vs : List (Value → Prop)) (J : List (Option Value) → World → Prop)
 (hd : distinct l = true) (hE : edgesDown l = true) (hn : D.all (fun p => decide (p < l.length)) = true) (hv : Vs.length = l.length) (h0 : J (D.map fun _ => none) w0.drew)
 (steps : StepsD P l.toArray Q D Vs J a0 l 0)
 (done : ∀ (us : Nat → Value) w, J (D.map fun d => some (us d)) w → (∀ (j : Nat) p, j < l.length → Vs[j]? = some p → p (us j)) → Q .normal (putAll us l 0 a0) w) : (Code.region id l.toArray true).wp P Q a0 w0 := by
 refine wp_region_any hm ?_
 have hlt : ∀ d, d ∈ D → d < l.length := fun d h => by simpa using List.all_eq_true.1 hn d h
 have h := wpAny_inv (P := P) (ops := l.toArray) (Q := Q) (fun listed us w => J (desL D (fun d => listed.getD d true) us) w ∧ ∀ j p, Vs[j]? = some p → listed.getD j true = true → p (us j)) hd hE a0
  (by
   intro listed us w i o hs ⟨hJ, hval⟩ ho h0 hdeps K hK
   have hil : i < l.length := by simpa using (Array.getElem?_eq_some_iff.1 ho).1
   have hol : l[i]? = some o := by simpa using ho
   have hsz : listed.size = l.length := by simpa using hs
   have hst := StepsD.at_ l 0 steps i o hol
   rw [Nat.zero_add] at hst
   have hset : ∀ j, (listed.setIfInBounds i true).getD j true = if j = i then true else listed.getD j true := fun j => by
    by_cases hji : j = i
    · subst hji
      rw [if_pos rfl, Array.getD_eq_getD_getElem?]
      simp [show j < listed.size by omega]
    · rw [if_neg hji, Array.getD_eq_getD_getElem?, Array.getElem?_setIfInBounds_ne (Ne.symm hji), ← Array.getD_eq_getD_getElem?]
   refine hst us _ w (fun d => listed.getD d true) rfl hdeps h0 (fun j p hj hp => hval j p hp (hdeps j hj)) hJ K (fun v w' hv => hK v w' ⟨?_, fun j p hp hj => ?_⟩)
   · have e : (fun d => (listed.setIfInBounds i true).getD d true) = fun j => j == i || listed.getD j true := funext fun j => by
      rw [hset]
      by_cases hji : j = i
      · subst hji; simp
      · simp [hji]
     rw [e]
     exact hv.2
   · by_cases hji : j = i
     · subst hji
       have hv1 := hv.1
       rw [List.getD_eq_getElem?_getD, hp] at hv1
       rw [show upd us j v j = v by simp [upd]]
       exact hv1
     · rw [hset, if_neg hji] at hj
       rw [show upd us i v j = us j by unfold upd; rw [if_neg hji]]
       exact hval j p hp hj)
  (by
   intro listed us w hs ⟨hJ, hval⟩ hall
   refine done us w ?_ (fun j p hj hp => hval j p hp (hall j (by simpa using hj)))
   have e : desL D (fun d => listed.getD d true) us = D.map fun d => some (us d) := by
    unfold desL
    refine List.map_congr_left fun d hd => ?_
    rw [if_pos (hall d (by simpa using hlt d hd))]
   rw [← e]
   exact hJ)
  l.toArray.size (Array.replicate l.toArray.size false) (startV l a0) w0.drew
  (by unfold unl; exact Nat.le_trans (List.length_filter_le _ _) (by simp))
  ⟨by
   have e : desL D (fun d => (Array.replicate l.toArray.size false).getD d true) (startV l a0) = D.map fun _ => none := by
    unfold desL
    refine List.map_congr_left fun d hd => ?_
    have := hlt d hd
    rw [if_neg (by dsimp only; rw [Array.getD_eq_getD_getElem?]; simp [this])]
   rw [e]
   exact h0, fun j p hp hj => by
    rw [Array.getD_eq_getD_getElem?] at hj
    have hjl : j < l.length := by rw [← hv]; exact (List.getElem?_eq_some_iff.1 hp).1
    simp [hjl] at hj⟩ (by simp)
 rw [show l.toArray.toList = l from rfl, putAll_start] at h
 exact h
end
/-- What holds amid such a region: of the world, and of what each chosen operation has left. -/
def JL (D : List Nat) (X : World → Prop) (PR : Nat → Value → World → Prop) (xs : List (Option Value)) (W : World) : Prop := X W ∧ ∀ (k d : Nat) (v : Value), D[k]? = some d → xs[k]? = some (some v) → PR d v W
theorem jl_none {D : List Nat} {X : World → Prop} {PR : Nat → Value → World → Prop} {W : World} (h : X W) : JL D X PR (D.map fun _ => none) W :=
 ⟨h, fun k d v hk hx => by rw [List.getElem?_map, hk] at hx; simp at hx⟩
theorem jl_step {D : List Nat} {X : World → Prop} {PR : Nat → Value → World → Prop} {dn : Nat → Bool} {us : Nat → Value} {i : Nat} {v : Value} {W W' : World} (hI : JL D X PR (desL D dn us) W) (hx : X W') (hk : ∀ d u, PR d u W → PR d u W') (hn : D.contains i = true → PR i v W') :
 JL D X PR (desL D (fun j => j == i || dn j) (upd us i v)) W' := by
 refine ⟨hx, fun k d u hd hu => ?_⟩
 unfold desL at hu
 rw [List.getElem?_map, hd, Option.map_some] at hu
 injection hu with hu
 by_cases hdi : d = i
 · subst hdi
   rw [if_pos (by simp)] at hu
   injection hu with hu
   rw [← hu, show upd us d v d = v by simp [upd]]
   exact hn (by simpa using List.mem_of_getElem? hd)
 · split at hu
   · rename_i hdn
     injection hu with hu
     rw [show upd us i v d = us d by unfold upd; rw [if_neg hdi]] at hu
     refine hk d u (hI.2 k d u hd ?_)
     unfold desL
     rw [List.getElem?_map, hd, Option.map_some, if_pos (by simpa [hdi] using hdn), hu]
   · cases hu
theorem jl_get {D : List Nat} {X : World → Prop} {PR : Nat → Value → World → Prop} {dn : Nat → Bool} {us : Nat → Value} {W : World} (hI : JL D X PR (desL D dn us) W) {d : Nat} (hd : D.contains d = true) (h : dn d = true) : PR d (us d) W := by
 obtain ⟨k, hk⟩ := List.mem_iff_getElem?.1 (by simpa using hd : d ∈ D)
 refine hI.2 k d (us d) hk ?_
 unfold desL
 rw [List.getElem?_map, hk, Option.map_some, if_pos h]
theorem jl_done {D : List Nat} {X : World → Prop} {PR : Nat → Value → World → Prop} {us : Nat → Value} {W : World} (hI : JL D X PR (D.map fun d => some (us d)) W) {d : Nat} (hd : D.contains d = true) : PR d (us d) W := by
 obtain ⟨k, hk⟩ := List.mem_iff_getElem?.1 (by simpa using hd : d ∈ D)
 exact hI.2 k d (us d) hk (by rw [List.getElem?_map, hk]; rfl)
end Go.Proofs.YtihanglnjghcfaaGreatDoor
namespace Go.Proofs.YtihanglnjghcfaaGreatDoor
open Go.RowKit Go.Maps
set_option linter.unusedVariables false
set_option linter.unusedSimpArgs false

/-- The line's repository, told by the law's Get, its memory in fixed blocks. -/
structure LnW (F0 : Nat → Prop) (r b1 b2 N : Nat) (w5 W : World) : Prop where
 st : GetSt r b1 b2 (lnR N) [] F0 [] W
 chg : Chg F0 w5 W
/-- What is cut. -/
def LnL (s a b D : Nat) (A : Option Addr) (L : List Gid) (W : World) : Prop := StrsAt W A (L.map bk) ∧ L.length = D ∧ (∀ i, a < i → i ≤ b → lnD i ∈ L) ∧ ∀ q o, A = some ⟨q, o, none⟩ → s ≤ q
/-- What the operations of the cut's region leave. -/
def PR15 (s a b D : Nat) : Nat → Value → World → Prop
 | 5, v, W => ∃ g, v = .slice (some ⟨g, 0, none⟩) 1 1 ∧ s ≤ g ∧ StrsAt W (some ⟨g, 0, none⟩) ([lnD b].map bk)
 | 10, v, W => ∃ g, v = .slice (some ⟨g, 0, none⟩) 1 1 ∧ s ≤ g ∧ StrsAt W (some ⟨g, 0, none⟩) ([lnD a].map bk)
 | 11, v, W => ∃ A L, v = .tuple #[.slice A D D, .int .i64 0] ∧ LnL s a b D A L W
 | 12, v, W => ∃ A L, v = .tuple #[.slice A D D, .int .i64 0] ∧ LnL s a b D A L W
 | _, v, W => ∃ A L, v = .slice A D D ∧ LnL s a b D A L W
theorem strs_chg {S : Nat → Prop} {W W' : World} {s : Nat} {A : Option Addr} {P : List ByteArray} (h : StrsAt W A P) (hA : ∀ q o, A = some ⟨q, o, none⟩ → s ≤ q) (hc : Chg S W W') (hS : ∀ q, s ≤ q → q < W.heap.size → ¬ S q) : StrsAt W' A P := fun hl => by
 obtain ⟨g, o, e, hlt, h2⟩ := h hl
 exact ⟨g, o, e, Nat.lt_of_lt_of_le hlt hc.size, fun i x hi => cell_chg (h2 i x hi) hc (hS g (hA g o e) hlt)⟩
theorem lnl_keep {S : Nat → Prop} {W W' : World} {s a b D : Nat} {A : Option Addr} {L : List Gid} (h : LnL s a b D A L W) (hc : Chg S W W') (hS : ∀ q, s ≤ q → q < W.heap.size → ¬ S q) : LnL s a b D A L W' :=
 ⟨strs_chg h.1 h.2.2.2 hc hS, h.2⟩
theorem pr15_keep {S : Nat → Prop} {W W' : World} {s a b D d : Nat} {v : Value} (h : PR15 s a b D d v W) (hc : Chg S W W') (hS : ∀ q, s ≤ q → q < W.heap.size → ¬ S q) : PR15 s a b D d v W' := by
 unfold PR15 at h ⊢
 split at h
 · obtain ⟨g, e, hg, hs⟩ := h
   exact ⟨g, e, hg, strs_chg hs (fun q o e => by injection e with e; injection e with e1; rw [← e1]; exact hg) hc hS⟩
 · obtain ⟨g, e, hg, hs⟩ := h
   exact ⟨g, e, hg, strs_chg hs (fun q o e => by injection e with e; injection e with e1; rw [← e1]; exact hg) hc hS⟩
 · obtain ⟨A, L, e, hL⟩ := h; exact ⟨A, L, e, lnl_keep hL hc hS⟩
 · obtain ⟨A, L, e, hL⟩ := h; exact ⟨A, L, e, lnl_keep hL hc hS⟩
 · obtain ⟨A, L, e, hL⟩ := h; exact ⟨A, L, e, lnl_keep hL hc hS⟩
section
variable {F0 : Nat → Prop} {r b1 b2 k a b : Nat} {w5 W : World}
theorem LnW.below {N : Nat} {W' : World} (h : LnW F0 r b1 b2 N w5 W) (hb : Below W.heap.size W W') : LnW F0 r b1 b2 N w5 W' := by
 have hc : Chg (fun k => W.heap.size ≤ k) W W' := Chg.of_below hb
 have hn : ∀ k, F0 k → ¬ W.heap.size ≤ k := fun k hk => Nat.not_le.2 (h.st.1 k hk)
 obtain ⟨h0, h1, h2, h3, h4, h5⟩ := h.st
 exact ⟨⟨fun k hk => Nat.lt_of_lt_of_le (h0 k hk) hb.size, h1.keep hc (fun k hk _ => hn k hk) (fun k hk _ => hk), h2, h3, cell_chg h4 hc (hn _ h2), cell_chg h5 hc (hn _ h3)⟩, h.chg.trans (Chg.of_below (S := fun _ => False) hb) (fun _ _ h => h.elim)⟩
theorem ln_mem_U {k b : Nat} (hk : k < 16) (hb : b < k + 2) : lnD b ∈ lnU := by
 unfold lnU
 exact List.mem_cons_of_mem _ (List.mem_map.2 ⟨b, List.mem_range.2 (by omega), rfl⟩)
theorem ln_ancW (hk : k < 16) (h : LnW F0 r b1 b2 (k + 2) w5 W) (hE : EnvO W) (h1 : ¬ F0 1) (h2 : ¬ F0 2) (ha : a < k + 2) (hb : b < k + 2) :
 Calls Tryz.prog 23 #[fnV 38 (.pointer (some ⟨b1, 0, none⟩)) (.pointer (some ⟨b2, 0, none⟩)), .string (bk (lnD a)), .string (bk (lnD b)), .int .i64 100] W fun e w' =>
  e = .returned (.tuple #[.bool (decide (a ≤ b)), .int .i64 0]) ∧ LnW F0 r b1 b2 (k + 2) w5 w' := by
 refine (ancestor_any (getter_fx F0 r b1 b2 (lnR (k + 2)) [] (by rw [lnR_len]; omega) (fun x hx => by have := lnR_sz (N := k + 2) (by omega) x hx; omega)) (ln_univ (by omega)) F0 [] W (lnD a) (lnD b) 100 ⟨rfl, h.st⟩ hE h1 h2 (ln_mem_U hk hb) (by rw [(ln_len (by omega)).1]; omega) (by rw [(ln_len (by omega)).1]; omega)).mono ?_
 rintro e w' ⟨F', qs', hst', hc, _, ha'⟩
 rw [ln_anc hk ha hb] at ha'
 exact ⟨ha', hst'.2, h.chg.trans hc (fun _ _ h => h)⟩
theorem ln_cutW (hSo : SortsS) (hk : k < 16) (h : LnW F0 r b1 b2 (k + 2) w5 W) (hE : EnvO W) (h1 : ¬ F0 1) (h2 : ¬ F0 2) (ha : a < k + 2) (hb : b < k + 2) (Aw Ah : Option Addr) (cw ch D : Nat)
 (hw : StrsAt W Aw ([lnD b].map bk)) (hh : StrsAt W Ah ([lnD a].map bk)) (hF : ∀ q o, Ah = some ⟨q, o, none⟩ → ¬ F0 q) (hD : D = b - a) :
 Calls Tryz.prog 26 #[fnV 38 (.pointer (some ⟨b1, 0, none⟩)) (.pointer (some ⟨b2, 0, none⟩)), .slice Aw 1 cw, .slice Ah 1 ch, .int .i64 100] W fun e w' =>
  LnW F0 r b1 b2 (k + 2) w5 w' ∧ ∃ (A : Option Addr) (L : List Gid), e = .returned (.tuple #[.slice A D D, .int .i64 0]) ∧ LnL W.heap.size a b D A L w' ∧ Chg F0 W w' := by
 have hl : ∀ {i : Nat}, i < k + 2 → ∀ q ∈ [lnD i], q.length ≤ 1099511627776 := fun hi q hq => by simp at hq; subst hq; rw [(ln_len (by omega)).1]; omega
 have hu : ∀ {i : Nat}, i < k + 2 → ∀ q ∈ [lnD i], q ∈ lnU := fun hi q hq => by simp at hq; subst hq; exact ln_mem_U hk hi
 refine (cut_any hSo F0 r b1 b2 (lnR (k + 2)) [] (ln_univ (by omega)) W h.st hE h1 h2 Aw 1 cw [lnD b] Ah 1 ch [lnD a] 100 hw rfl (by decide) (hl hb) (hu hb) hh rfl (by decide) (hl ha) (hu ha) (fun q o hq _ => hF q o hq) (by rw [lnR_len]; omega) (fun x hx => by have := lnR_sz (N := k + 2) (by omega) x hx; omega)).mono ?_
 rintro e w' ⟨hst, hc, hr⟩
 obtain ⟨m, hm, hml⟩ := (ln_clos hk hb).2.2.1
 rw [hm] at hr
 obtain ⟨M, A, hrun, he, hs, hA, _⟩ := hr
 have hM := ln_there hk ha hrun
 have hml' : List.map (fun x => x.id) m = lnC b := hml
 rw [hM, hml'] at he hs
 obtain ⟨c1, c2⟩ := ln_cut (a := a) (b := b) (by omega) (by omega)
 rw [c1, ← hD] at he
 exact ⟨⟨hst, h.chg.trans hc (fun _ _ h => h)⟩, A, _, he, ⟨hs, by rw [c1, hD], c2, hA⟩, hc⟩
theorem ln_closW (hSo : SortsS) (hk : k < 16) (h : LnW F0 r b1 b2 (k + 2) w5 W) (hE : EnvO W) (h1 : ¬ F0 1) (h2 : ¬ F0 2) (hb : b < k + 2) (A : Option Addr) (c : Nat) (hA : StrsAt W A ([lnD b].map bk)) (most : Int) :
 Calls Tryz.prog 16 #[fnV 38 (.pointer (some ⟨b1, 0, none⟩)) (.pointer (some ⟨b2, 0, none⟩)), .slice A 1 c, .int .i64 most] W fun e w' =>
  LnW F0 r b1 b2 (k + 2) w5 w' ∧ ((most = ((b + 2 : Nat) : Int) → ∃ A' : Option Addr, e = .returned (.tuple #[.slice A' (b + 2) (b + 2), .int .i64 0])) ∧ (most = ((b + 1 : Nat) : Int) → e = .returned (.tuple #[.slice none 0 0, .int .i64 5]))) := by
 refine (clos_fx hSo F0 r b1 b2 (lnR (k + 2)) [] (ln_univ (by omega)) W h.st hE h1 h2 A 1 c [lnD b] most hA rfl (by decide) (fun q hq => by simp at hq; subst hq; rw [(ln_len (by omega)).1]; omega) (fun q hq => by simp at hq; subst hq; exact ln_mem_U hk hb) (by rw [lnR_len]; omega) (fun x hx => by have := lnR_sz (N := k + 2) (by omega) x hx; omega)).mono ?_
 rintro e w' ⟨hst, hc, ha⟩
 refine ⟨⟨hst, h.chg.trans hc (fun _ _ h => h)⟩, fun hm => ?_, fun hm => ?_⟩
 · obtain ⟨m, hm2, hml⟩ := (ln_clos hk hb).1
   rw [hm, hm2] at ha
   obtain ⟨A', he, _⟩ := ha
   have hl : m.length = b + 2 := by rw [← lnC_len b, ← hml, List.length_map]
   rw [hl] at he
   exact ⟨A', he⟩
 · rw [hm, (ln_clos hk hb).2.1] at ha
   exact ha
end
end Go.Proofs.YtihanglnjghcfaaGreatDoor
