/- A region that draws its order and that changes the world by some of its operations, one behind the other (the phases): each operation is shown once. No program's function is named here. -/
import Derived.Test.YtihanglnjghcfaaGreatDoorGCt3
namespace Go.Proofs.YtihanglnjghcfaaGreatDoor
open Go.RowKit
set_option linter.unusedVariables false

section
variable {P : Program} {ops : Array Oper} {Q : Exit → Act → World → Prop}
theorem wpAny_inv (J : Array Bool → (Nat → Value) → World → Prop) (hd : distinct ops.toList = true) (hE : edgesDown ops.toList = true) (a0 : Act)
 (step : ∀ listed us w i o, listed.size = ops.size → J listed us w → ops[i]? = some o → listed.getD i true = false → (∀ j, depB o j = true → listed.getD j true = true) → ∀ K : Act → World → Prop,
  (∀ v w', J (listed.setIfInBounds i true) (upd us i v) w' → K ((putAll us ops.toList 0 a0).put o.dst v) w') → wpOp P ops Q i K (putAll us ops.toList 0 a0) w)
 (done : ∀ listed us w, listed.size = ops.size → J listed us w → (∀ i, i < ops.size → listed.getD i true = true) → Q .normal (putAll us ops.toList 0 a0) w) :
 ∀ (fuel : Nat) (listed : Array Bool) (us : Nat → Value) (w : World), unl ops.size listed ≤ fuel → J listed us w → listed.size = ops.size → wpAny P .any ops Q fuel listed (putAll us ops.toList 0 a0) w := by
 intro fuel
 induction fuel with
 | zero =>
  intro listed us w hf hJ hs
  have hr : Region.ready .any ops listed = [] := by
   cases hc : Region.ready .any ops listed with
   | nil => rfl
   | cons i r =>
    exfalso
    have hm : i ∈ Region.ready .any ops listed := by rw [hc]; simp
    obtain ⟨h0, o, ho, _⟩ := mem_ready.1 hm
    have hi : i < ops.size := (Array.getElem?_eq_some_iff.1 ho).1
    have := unl_set ops.size i listed hi h0
    omega
  exact ⟨hr, done listed us w hs hJ (all_listed hE listed hr)⟩
 | succ fuel ih =>
  intro listed us w hf hJ hs
  refine ⟨fun hr => done listed us w hs hJ (all_listed hE listed hr), fun i hi => ?_⟩
  obtain ⟨h0, o, ho, hall⟩ := mem_ready.1 hi
  have hil : i < ops.size := (Array.getElem?_eq_some_iff.1 ho).1
  refine step listed us w i o hs hJ ho h0 (fun j hj => ?_) _ (fun v w' hJ' => ?_)
  · unfold depB at hj
    rw [Array.any_eq_true'] at hj
    obtain ⟨e, he, hb⟩ := hj
    rw [Bool.and_eq_true] at hb
    have hon : e.on = j := by simpa using hb.2
    subst hon
    have h1 := hall e he hb.1
    have hsz : e.on < listed.size := by
     rcases Nat.lt_or_ge e.on listed.size with h' | h'
     · exact h'
     · rw [Array.getD_eq_getD_getElem?, Array.getElem?_eq_none h'] at h1; cases h1
    rw [Array.getD_eq_getD_getElem?, Array.getElem?_eq_getElem hsz] at h1 ⊢
    exact h1
  · rw [putAll_put us ops.toList 0 a0 i o v hd (by rw [Array.getElem?_toList]; exact ho), Nat.zero_add]
    refine ih _ _ w' ?_ hJ' (by simpa using hs)
    have := unl_set ops.size i listed hil h0
    omega
end

/-- What an operation waits for, as bits. -/
def depMask (o : Oper) : Nat := o.after.foldl (fun m e => if Region.binds .any e then m ||| (1 <<< e.on) else m) 0
def ancM (l : List Oper) : Nat → Nat → Nat
 | 0, m => m
 | j + 1, m => ancM l j (if m.testBit j then (match l[j]? with | some o => m ||| depMask o | none => m) else m)
theorem depMask_bit {o : Oper} {i : Nat} (h : (depMask o).testBit i = true) : depB o i = true := by
 have key : ∀ (es : List Edge) (m : Nat), (es.foldl (fun m e => if Region.binds .any e then m ||| (1 <<< e.on) else m) m).testBit i = true → m.testBit i = true ∨ es.any (fun e => Region.binds .any e && e.on == i) = true := by
  intro es
  induction es with
  | nil => intro m h; exact .inl h
  | cons e es ih =>
   intro m h
   rw [List.foldl_cons] at h
   rcases ih _ h with h1 | h1
   · by_cases hb : Region.binds .any e = true
     · rw [if_pos hb, Nat.testBit_or, Bool.or_eq_true] at h1
       rcases h1 with h1 | h1
       · exact .inl h1
       · right
         have he : e.on = i := by
          rw [Nat.testBit_shiftLeft, Bool.and_eq_true] at h1
          obtain ⟨h2, h3⟩ := h1
          have h4 : i - e.on = 0 := Nat.testBit_one_eq_true_iff_self_eq_zero.1 h3
          have : e.on ≤ i := by simpa using h2
          omega
         simp [hb, he]
     · rw [if_neg hb] at h1; exact .inl h1
   · right; simp [h1]
 have hk := key o.after.toList 0 (by rw [Array.foldl_toList]; exact h)
 rcases hk with h1 | h1
 · simp at h1
 · unfold depB; rw [← Array.any_toList]; exact h1
theorem ancM_closed {l : List Oper} {D : Nat → Prop} (hD : ∀ j o, l[j]? = some o → D j → ∀ i, depB o i = true → D i) : ∀ (n m : Nat), (∀ i, m.testBit i = true → D i) → ∀ i, (ancM l n m).testBit i = true → D i
 | 0, m, hm, i, h => hm i h
 | n + 1, m, hm, i, h => by
  refine ancM_closed hD n _ ?_ i h
  intro i' h'
  by_cases hb : m.testBit n = true
  · rw [if_pos hb] at h'
    cases ho : l[n]? with
    | none => rw [ho] at h'; exact hm i' h'
    | some o =>
     rw [ho] at h'
     simp only [Nat.testBit_or, Bool.or_eq_true] at h'
     rcases h' with h' | h'
     · exact hm i' h'
     · exact hD n o ho (hm n hb) i' (depMask_bit h')
  · rw [if_neg hb] at h'; exact hm i' h'
/-- Does the operation p wait for number i, through others too? -/
def waitB (l : List Oper) (p i : Nat) : Bool := (ancM l l.length (1 <<< p)).testBit i
theorem waitB_closed {l : List Oper} {D : Nat → Prop} (hD : ∀ j o, l[j]? = some o → D j → ∀ i, depB o i = true → D i) {p i : Nat} (hp : D p) (h : waitB l p i = true) : D i := by
 refine ancM_closed hD l.length (1 <<< p) (fun j hj => ?_) i h
 rw [Nat.testBit_shiftLeft, Bool.and_eq_true] at hj
 have h4 : j - p = 0 := Nat.testBit_one_eq_true_iff_self_eq_zero.1 hj.2
 have h5 : p ≤ j := by simpa using hj.1
 have : j = p := by omega
 subst this
 exact hp
/-- Each phase waits for the one ahead of it. -/
def chainB (l : List Oper) : List Nat → Bool
 | p :: q :: r => waitB l q p && chainB l (q :: r)
 | _ => true
/-- The phases of an operation that is none: from lo to hi. -/
def spanB (l : List Oper) (ph : List Nat) (i lo hi : Nat) : Bool :=
 decide (hi ≤ ph.length) && (match lo with | 0 => true | k + 1 => (match ph[k]? with | some p => waitB l i p | none => false)) && (match ph[hi]? with | some p => waitB l p i | none => true)
/-- phase: which phase it is; span: in which phases it may come. -/
inductive Tag where
 | phase (k : Nat)
 | span (lo hi : Nat)
def tagB (l : List Oper) (ph : List Nat) (i : Nat) : Tag → Bool
 | .phase k => ph[k]? == some i
 | .span lo hi => spanB l ph i lo hi && !ph.contains i
def tagsB (l : List Oper) (ph : List Nat) : List Tag → Nat → Bool
 | [], _ => true
 | t :: ts, i => tagB l ph i t && tagsB l ph ts (i + 1)
theorem tagsB_at {l : List Oper} {ph : List Nat} : ∀ {ts : List Tag} {k : Nat}, tagsB l ph ts k = true → ∀ i t, ts[i]? = some t → tagB l ph (k + i) t = true
 | [], _, _, _, _, h => by simp at h
 | t' :: ts, k, hb, i, t, h => by
  rw [tagsB, Bool.and_eq_true] at hb
  cases i with
  | zero => simp at h; subst h; exact hb.1
  | succ i =>
   have := tagsB_at hb.2 i t (by simpa using h)
   rwa [show k + 1 + i = k + (i + 1) by omega] at this

section
variable (P : Program) (ops : Array Oper) (Q : Exit → Act → World → Prop)
/-- One operation, whatever follows: it leaves a value and a world of which p holds. -/
def StepI (p : Value → World → Prop) (i : Nat) (o : Oper) (a : Act) (w : World) : Prop :=
 ∀ K : Act → World → Prop, (∀ v w', p v w' → K (a.put o.dst v) w') → wpOp P ops Q i K a w
def DepsI (Vs : List (Value → Prop)) (o : Oper) (us : Nat → Value) : Prop := ∀ (j : Nat) p, depB o j = true → Vs[j]? = some p → p (us j)
def StepT (ph : List Nat) (Vs : List (Value → Prop)) (I : List Value → World → Prop) (a0 : Act) (i : Nat) (o : Oper) : Tag → Prop
 | .phase k => ∀ (us : Nat → Value) a w, a = putAll us ops.toList 0 a0 → DepsI Vs o us → (∀ j, j < ops.toList.length → waitB ops.toList j i = true → us j = startV ops.toList a0 j) → I ((ph.take k).map us) w →
  StepI P ops Q (fun v w' => (Vs.getD i (fun _ => True)) v ∧ I ((ph.take k).map us ++ [v]) w') i o a w
 | .span lo hi => ∀ (us : Nat → Value) a w k, lo ≤ k → k ≤ hi → a = putAll us ops.toList 0 a0 → DepsI Vs o us → (∀ j, j < ops.toList.length → waitB ops.toList j i = true → us j = startV ops.toList a0 j) → I ((ph.take k).map us) w →
  StepI P ops Q (fun v w' => (Vs.getD i (fun _ => True)) v ∧ I ((ph.take k).map us) w') i o a w
def StepsT (ph : List Nat) (Vs : List (Value → Prop)) (I : List Value → World → Prop) (a0 : Act) : List Oper → List Tag → Nat → Prop
 | o :: l, t :: ts, i => StepT P ops Q ph Vs I a0 i o t ∧ StepsT ph Vs I a0 l ts (i + 1)
 | _, _, _ => True
end
section
variable {P : Program} {ops : Array Oper} {Q : Exit → Act → World → Prop}
theorem StepsT.at_ {ph : List Nat} {Vs : List (Value → Prop)} {I : List Value → World → Prop} {a0 : Act} : ∀ (l : List Oper) (ts : List Tag) (k : Nat), StepsT P ops Q ph Vs I a0 l ts k → ∀ i o t, l[i]? = some o → ts[i]? = some t → StepT P ops Q ph Vs I a0 (k + i) o t
 | [], _, _, _, _, _, _, h, _ => by simp at h
 | _ :: _, [], _, _, _, _, _, _, h => by simp at h
 | o' :: l, t' :: ts, k, hs, i, o, t, h, h' => by
  cases i with
  | zero => simp at h h'; subst h; subst h'; exact hs.1
  | succ i =>
   have := StepsT.at_ l ts (k + 1) hs.2 i o t (by simpa using h) (by simpa using h')
   rwa [show k + 1 + i = k + (i + 1) by omega] at this
/-- All that is done stands in front. -/
structure PhJ (l : List Oper) (ph : List Nat) (Vs : List (Value → Prop)) (I : List Value → World → Prop) (a0 : Act) (k : Nat) (listed : Array Bool) (us : Nat → Value) (w : World) : Prop where
 le : k ≤ ph.length
 on : ∀ x p, x < k → ph[x]? = some p → listed.getD p true = true
 off : ∀ x p, k ≤ x → ph[x]? = some p → listed.getD p true = false
 inv : I ((ph.take k).map us) w
 val : ∀ j p, Vs[j]? = some p → listed.getD j true = true → p (us j)
 closed : ∀ j o, l[j]? = some o → listed.getD j true = true → ∀ i, depB o i = true → listed.getD i true = true
 start : ∀ j, listed.getD j true = false → us j = startV l a0 j
theorem map_upd {us : Nat → Value} {i : Nat} {v : Value} : ∀ (l : List Nat), i ∉ l → l.map (upd us i v) = l.map us
 | [], _ => rfl
 | j :: l, h => by
  rw [List.map_cons, List.map_cons, map_upd l (fun h' => h (by simp [h']))]
  congr 1
  unfold upd
  rw [if_neg (fun e => h (by simp [e]))]
theorem chain_wait {l : List Oper} {D : Nat → Prop} (hD : ∀ j o, l[j]? = some o → D j → ∀ i, depB o i = true → D i) : ∀ (ph : List Nat) (x : Nat) (p q : Nat), chainB l ph = true → ph[x]? = some p → ph[x + 1]? = some q → D q → D p
 | [], _, _, _, _, h, _, _ => by simp at h
 | [_], x, _, _, _, _, h, _ => by simp at h
 | a :: b :: r, 0, p, q, hc, h1, h2, hq => by
  simp at h1 h2
  subst h1; subst h2
  rw [chainB, Bool.and_eq_true] at hc
  exact waitB_closed hD hq hc.1
 | a :: b :: r, x + 1, p, q, hc, h1, h2, hq => by
  rw [chainB, Bool.and_eq_true] at hc
  exact chain_wait hD (b :: r) x p q hc.2 (by simpa using h1) (by simpa using h2) hq
theorem chain_down {l : List Oper} {D : Nat → Prop} (hD : ∀ j o, l[j]? = some o → D j → ∀ i, depB o i = true → D i) {ph : List Nat} (hc : chainB l ph = true) : ∀ (d x : Nat) (p q : Nat), ph[x]? = some p → ph[x + d]? = some q → D q → D p
 | 0, x, p, q, h1, h2, hq => by
  rw [Nat.add_zero, h1] at h2
  injection h2 with h2
  subst h2; exact hq
 | d + 1, x, p, q, h1, h2, hq => by
  have hlt : x + d + 1 < ph.length := by rw [← Nat.add_assoc] at h2; exact (List.getElem?_eq_some_iff.1 h2).1
  have h3 : ph[x + d]? = some ph[x + d] := List.getElem?_eq_getElem (by omega)
  refine chain_down hD hc d x p _ h1 h3 (chain_wait hD ph (x + d) _ q hc h3 (by rw [← Nat.add_assoc] at h2; exact h2) hq)
/-- The law. -/
theorem wp_region_ph {id : Nat} {l : List Oper} {a0 : Act} {w0 : World} (hm : P.follows .mixedOrders = true) (ph : List Nat) (tags : List Tag) (Vs : List (Value → Prop)) (I : List Value → World → Prop)
 (hd : distinct l = true) (hE : edgesDown l = true) (hc : chainB l ph = true) (ht : tagsB l ph tags 0 = true) (hn : ph.all (fun p => decide (p < l.length)) = true) (hu : decide ph.Nodup = true) (hl : tags.length = l.length) (hv : Vs.length = l.length) (h0 : I [] w0.drew)
 (steps : StepsT P l.toArray Q ph Vs I a0 l tags 0)
 (done : ∀ (us : Nat → Value) w, I (ph.map us) w → (∀ (j : Nat) p, j < l.length → Vs[j]? = some p → p (us j)) → Q .normal (putAll us l 0 a0) w) : (Code.region id l.toArray true).wp P Q a0 w0 := by
 refine wp_region_any hm ?_
 have hnod : ph.Nodup := of_decide_eq_true hu
 have hlt : ∀ x p, ph[x]? = some p → p < l.length := fun x p h => by
  have := List.all_eq_true.1 hn p (List.mem_of_getElem? h)
  simpa using this
 have h := wpAny_inv (P := P) (ops := l.toArray) (Q := Q) (fun listed us w => ∃ k, PhJ l ph Vs I a0 k listed us w) hd hE a0
  (by
   intro listed us w i o hs ⟨k, hJ⟩ ho h0 hdeps K hK
   have hil : i < l.length := by simpa using (Array.getElem?_eq_some_iff.1 ho).1
   have hol : l[i]? = some o := by simpa using ho
   have hsz : listed.size = l.length := by simpa using hs
   obtain ⟨t, htg⟩ : ∃ t, tags[i]? = some t := ⟨tags[i]'(by omega), List.getElem?_eq_getElem (by omega)⟩
   have hst := StepsT.at_ l tags 0 steps i o _ hol htg
   have htb := tagsB_at ht i _ htg
   rw [Nat.zero_add] at hst htb
   have hdep : DepsI Vs o us := fun j p hj hp => hJ.val j p hp (hdeps j hj)
   have hset : ∀ j, (listed.setIfInBounds i true).getD j true = if j = i then true else listed.getD j true := fun j => by
    by_cases hji : j = i
    · subst hji
      rw [if_pos rfl, Array.getD_eq_getD_getElem?]
      simp [show j < listed.size by omega]
    · rw [if_neg hji, Array.getD_eq_getD_getElem?, Array.getElem?_setIfInBounds_ne (Ne.symm hji), ← Array.getD_eq_getD_getElem?]
   have hval : ∀ v, (Vs.getD i (fun _ => True)) v → ∀ j p, Vs[j]? = some p → (listed.setIfInBounds i true).getD j true = true → p (upd us i v j) := by
    intro v hv j p hp hj
    by_cases hji : j = i
    · subst hji
      rw [List.getD_eq_getElem?_getD, hp] at hv
      rw [show upd us j v j = v by simp [upd]]
      exact hv
    · rw [hset, if_neg hji] at hj
      rw [show upd us i v j = us j by unfold upd; rw [if_neg hji]]
      exact hJ.val j p hp hj
   have hcl : ∀ j o', l[j]? = some o' → (listed.setIfInBounds i true).getD j true = true → ∀ i', depB o' i' = true → (listed.setIfInBounds i true).getD i' true = true := by
    intro j o' ho' hj i' hi'
    rw [hset]
    by_cases hii : i' = i
    · rw [if_pos hii]
    · rw [if_neg hii]
      by_cases hji : j = i
      · subst hji
        rw [hol] at ho'
        injection ho' with ho'
        subst ho'
        exact hdeps i' hi'
      · rw [hset, if_neg hji] at hj
        exact hJ.closed j o' ho' hj i' hi'
   have hstart : ∀ j, j < l.toArray.toList.length → waitB l.toArray.toList j i = true → us j = startV l.toArray.toList a0 j := by
    intro j hj hw
    refine hJ.start j ?_
    cases hlj : listed.getD j true with
    | false => rfl
    | true =>
     have := waitB_closed (D := fun j => listed.getD j true = true) hJ.closed hlj hw
     rw [h0] at this; cases this
   have hst' : ∀ v, ∀ j, (listed.setIfInBounds i true).getD j true = false → upd us i v j = startV l a0 j := by
    intro v j hj
    rw [hset] at hj
    by_cases hji : j = i
    · rw [if_pos hji] at hj; cases hj
    · rw [if_neg hji] at hj
      rw [show upd us i v j = us j by unfold upd; rw [if_neg hji]]
      exact hJ.start j hj
   cases t with
   | phase x =>
    have hx : ph[x]? = some i := by simpa [tagB] using htb
    have hxl : x < ph.length := (List.getElem?_eq_some_iff.1 hx).1
    have hkx : k = x := by
     rcases Nat.lt_trichotomy k x with h1 | h1 | h1
     · exfalso
       have hp : ph[k]? = some ph[k] := List.getElem?_eq_getElem (by omega)
       have h2 := hJ.off k _ (Nat.le_refl _) hp
       -- the phase at k waits to be done: but what waits for it is ready
       have hx' : ph[x - 1]? = some ph[x - 1] := List.getElem?_eq_getElem (by omega)
       have h3 : ∀ i', depB o i' = true → listed.getD i' true = true := hdeps
       -- D: listed, or number i itself
       have hD : ∀ j o', l[j]? = some o' → (listed.getD j true = true ∨ j = i) → ∀ i', depB o' i' = true → (listed.getD i' true = true ∨ i' = i) := by
        intro j o' ho' hj i' hi'
        rcases hj with hj | rfl
        · exact .inl (hJ.closed j o' ho' hj i' hi')
        · rw [hol] at ho'
          injection ho' with ho'
          subst ho'
          exact .inl (hdeps i' hi')
       have h4 := chain_down (D := fun j => listed.getD j true = true ∨ j = i) hD hc (x - k) k _ i hp (by rw [show k + (x - k) = x by omega]; exact hx) (.inr rfl)
       rcases h4 with h4 | h4
       · rw [h2] at h4; cases h4
       · have := ((List.getElem?_inj (by omega) hnod).1 (hp.trans (by rw [h4]; exact hx.symm)))
         omega
     · exact h1
     · exfalso
       have := hJ.on x i h1 hx
       rw [h0] at this; cases this
    subst hkx
    refine hst us _ w rfl hdep hstart hJ.inv K (fun v w' hv => hK v w' ⟨k + 1, ?_⟩)
    have hni : i ∉ ph.take k := fun hm => by
     obtain ⟨y, hy⟩ := List.mem_iff_getElem?.1 hm
     rw [List.getElem?_take] at hy
     split at hy
     · rename_i hyk
       have := hJ.on y i hyk hy
       rw [h0] at this; cases this
     · cases hy
    refine ⟨hxl, ?_, ?_, ?_, hval v hv.1, hcl, hst' v⟩
    · intro y p hy hp
      rw [hset]
      by_cases hpi : p = i
      · rw [if_pos hpi]
      · rw [if_neg hpi]
        have : y ≠ k := fun e => hpi (by rw [e, hx] at hp; injection hp with hp; exact hp.symm)
        exact hJ.on y p (by omega) hp
    · intro y p hy hp
      rw [hset, if_neg]
      · exact hJ.off y p (by omega) hp
      · intro e
        have := ((List.getElem?_inj hxl hnod).1 (hx.trans (by rw [← e]; exact hp.symm)))
        omega
    · rw [List.take_add_one, hx]
      simp only [Option.toList_some, List.map_append, List.map_cons, List.map_nil]
      rw [map_upd _ hni, show upd us i v i = v by simp [upd]]
      exact hv.2
   | span lo hi =>
    have htb' : spanB l ph i lo hi = true ∧ ¬ i ∈ ph := by simpa [tagB] using htb
    obtain ⟨hsp, hni⟩ := htb'
    unfold spanB at hsp
    simp only [Bool.and_eq_true, decide_eq_true_eq] at hsp
    obtain ⟨⟨hhi, hlo⟩, hup⟩ := hsp
    have hD : ∀ j o', l[j]? = some o' → (listed.getD j true = true ∨ j = i) → ∀ i', depB o' i' = true → (listed.getD i' true = true ∨ i' = i) := by
     intro j o' ho' hj i' hi'
     rcases hj with hj | rfl
     · exact .inl (hJ.closed j o' ho' hj i' hi')
     · rw [hol] at ho'
       injection ho' with ho'
       subst ho'
       exact .inl (hdeps i' hi')
    have h1 : lo ≤ k := by
     cases lo with
     | zero => exact Nat.zero_le _
     | succ y =>
      simp only at hlo
      cases hp : ph[y]? with
      | none => rw [hp] at hlo; cases hlo
      | some p =>
       rw [hp] at hlo
       simp only at hlo
       have h2 := waitB_closed (D := fun j => listed.getD j true = true ∨ j = i) hD (.inr rfl) hlo
       have h3 : listed.getD p true = true := by
        rcases h2 with h2 | h2
        · exact h2
        · exact absurd (List.mem_of_getElem? (by rw [← h2]; exact hp)) hni
       rcases Nat.lt_or_ge y k with h4 | h4
       · exact h4
       · have := hJ.off y p h4 hp
         rw [h3] at this; cases this
    have h2 : k ≤ hi := by
     rcases Nat.lt_or_ge hi k with h4 | h4
     · exfalso
       have hhl : hi < ph.length := by have := hJ.le; omega
       have hp : ph[hi]? = some ph[hi] := List.getElem?_eq_getElem hhl
       rw [hp] at hup
       simp only at hup
       have h5 := waitB_closed (D := fun j => listed.getD j true = true) hJ.closed (hJ.on hi _ h4 hp) hup
       rw [h0] at h5; cases h5
     · exact h4
    refine hst us _ w k h1 h2 rfl hdep hstart hJ.inv K (fun v w' hv => hK v w' ⟨k, ?_⟩)
    have hni' : i ∉ ph.take k := fun hm => hni (List.mem_of_mem_take hm)
    refine ⟨hJ.le, ?_, ?_, by rw [map_upd _ hni']; exact hv.2, hval v hv.1, hcl, hst' v⟩
    · intro y p hy hp
      rw [hset]
      by_cases hpi : p = i
      · rw [if_pos hpi]
      · rw [if_neg hpi]; exact hJ.on y p hy hp
    · intro y p hy hp
      rw [hset, if_neg (fun e => hni (by rw [← e]; exact List.mem_of_getElem? hp))]
      exact hJ.off y p hy hp)
  (by
   intro listed us w hs ⟨k, hJ⟩ hall
   have hk : k = ph.length := by
    rcases Nat.lt_or_ge k ph.length with h1 | h1
    · exfalso
      have hp : ph[k]? = some ph[k] := List.getElem?_eq_getElem h1
      have h2 := hJ.off k _ (Nat.le_refl _) hp
      rw [hall _ (by have := hlt k _ hp; simpa using this)] at h2
      cases h2
    · have := hJ.le; omega
   have hi := hJ.inv
   rw [hk, List.take_length] at hi
   exact done us w hi (fun j p hj hp => hJ.val j p hp (hall j (by simpa using hj))))
  l.toArray.size (Array.replicate l.toArray.size false) (startV l a0) w0.drew
  (by unfold unl; exact Nat.le_trans (List.length_filter_le _ _) (by simp))
  ⟨0, ⟨Nat.zero_le _, fun x p h => by omega, fun x p _ hp => by
   rw [Array.getD_eq_getD_getElem?]
   have := hlt x p hp
   simp [this], h0, fun j p hp hj => by
   rw [Array.getD_eq_getD_getElem?] at hj
   have hjl : j < l.length := by rw [← hv]; exact (List.getElem?_eq_some_iff.1 hp).1
   simp [hjl] at hj, fun j o ho hj => by
   rw [Array.getD_eq_getD_getElem?] at hj
   have : j < l.length := (List.getElem?_eq_some_iff.1 ho).1
   simp [this] at hj, fun j _ => rfl⟩⟩ (by simp)
 rw [show l.toArray.toList = l from rfl, putAll_start] at h
 exact h
theorem put_getD (a : Act) (d : Tmp) (v : Value) (t : Tmp) : (a.put (some d) v).tmps.getD t undef = if d = t ∧ t < a.tmps.size then v else a.tmps.getD t undef := by
 show (a.tmps.setIfInBounds d v).getD t undef = _
 rw [Array.getD_eq_getD_getElem?, Array.getD_eq_getD_getElem?]
 by_cases hdt : d = t
 · subst hdt
   by_cases hs : d < a.tmps.size
   · rw [if_pos ⟨rfl, hs⟩, Array.getElem?_setIfInBounds_self_of_lt hs]; rfl
   · rw [if_neg (fun h => hs h.2), Array.getElem?_eq_none (show (a.tmps.setIfInBounds d v).size ≤ d by rw [Array.size_setIfInBounds]; exact Nat.le_of_not_lt hs), Array.getElem?_eq_none (show a.tmps.size ≤ d from Nat.le_of_not_lt hs)]
 · rw [if_neg (fun h => hdt h.1), Array.getElem?_setIfInBounds_ne hdt]
theorem put_size (a : Act) (d : Option Tmp) (v : Value) : (a.put d v).tmps.size = a.tmps.size := by
 cases d with
 | none => rfl
 | some d => exact Array.size_setIfInBounds
theorem putAll_getD_far {us : Nat → Value} {t : Tmp} : ∀ (l : List Oper) (k : Nat) (a : Act), l.all (fun o => o.dst != some t) = true → (putAll us l k a).tmps.getD t undef = a.tmps.getD t undef
 | [], _, _, _ => rfl
 | o :: l, k, a, h => by
  rw [List.all_cons, Bool.and_eq_true] at h
  rw [putAll, putAll_getD_far l (k + 1) _ h.2]
  cases hd : o.dst with
  | none => rfl
  | some d =>
   rw [put_getD, if_neg]
   rintro ⟨h1, _⟩
   rw [hd, h1] at h
   simp at h
theorem putAll_getD_at {us : Nat → Value} {t : Tmp} : ∀ (l : List Oper) (k i : Nat) (a : Act), distinct l = true → (l[i]?).bind (·.dst) = some t → t < a.tmps.size → (putAll us l k a).tmps.getD t undef = us (k + i)
 | [], _, _, _, _, h, _ => by simp at h
 | o :: l, k, 0, a, hd, h, ht => by
  have h : o.dst = some t := by simpa using h
  rw [distinct, Bool.and_eq_true, h] at hd
  rw [putAll, putAll_getD_far l (k + 1) _ (by simpa using hd.1), h, put_getD, if_pos ⟨rfl, ht⟩, Nat.add_zero]
 | o :: l, k, i + 1, a, hd, h, ht => by
  rw [distinct, Bool.and_eq_true] at hd
  rw [putAll, putAll_getD_at l (k + 1) i _ hd.2 (by simpa using h) (by rw [put_size]; exact ht), show k + 1 + i = k + (i + 1) by omega]
/-- What a slot reads behind some of the operations: what an operation has left, or what the frame holds. -/
theorem slot_at {us : Nat → Value} {l : List Oper} {a0 au : Act} {t : Tmp} {v : Value} (i : Nat) (ha : au = putAll us l 0 a0) (hd : distinct l = true) (h : (l[i]?).bind (·.dst) = some t) (ht : decide (t < a0.tmps.size) = true) (hv : us i = v) : au.eval (.tmp t) = v := by
 subst ha
 show (putAll us l 0 a0).tmps.getD t undef = v
 rw [putAll_getD_at l 0 i a0 hd h (of_decide_eq_true ht), Nat.zero_add, hv]
theorem slot_far {us : Nat → Value} {l : List Oper} {a0 au : Act} {t : Tmp} {v : Value} (ha : au = putAll us l 0 a0) (h : l.all (fun o => o.dst != some t) = true) (hv : a0.tmps[t]? = some v) : au.eval (.tmp t) = v := by
 subst ha
 show (putAll us l 0 a0).tmps.getD t undef = v
 rw [putAll_getD_far l 0 a0 h, Array.getD_eq_getD_getElem?, hv]; rfl
theorem slot_norm {au : Act} {t : Tmp} {v : Value} (h : au.eval (.tmp t) = v) : au.tmps[t]?.getD undef = v := by
 have h : au.tmps.getD t undef = v := h
 rwa [Array.getD_eq_getD_getElem?] at h
theorem unwanted_at {ops : Array Oper} {o : Oper} {au : Act} {g t : Nat} {b b' : Bool} (hg : o.guard = some (g, b)) (hd : (ops[g]?).bind (·.dst) = some t) (h : au.eval (.tmp t) = .bool b') (hb : (b' == b) = false) : Region.wanted o (yielded ops au.tmps) = false := by
 have h : au.tmps.getD t undef = .bool b' := h
 rw [Array.getD_eq_getD_getElem?] at h
 cases hx : au.tmps[t]? with
 | none => rw [hx] at h; exact absurd h (by intro h'; cases h')
 | some v =>
  rw [hx] at h
  have h : v = .bool b' := h
  subst h
  cases b <;> cases b' <;> simp_all [Region.wanted, yielded]
theorem unwanted_undef {ops : Array Oper} {o : Oper} {au : Act} {g t : Nat} {b : Bool} (hg : o.guard = some (g, b)) (hd : (ops[g]?).bind (·.dst) = some t) (h : au.eval (.tmp t) = undef) : Region.wanted o (yielded ops au.tmps) = false := by
 have h : au.tmps.getD t undef = undef := h
 rw [Array.getD_eq_getD_getElem?] at h
 unfold Region.wanted
 rw [hg]
 simp only [yielded, hd, Option.bind_some]
 cases hx : au.tmps[t]? with
 | none => rfl
 | some v =>
  rw [hx] at h
  have h : v = undef := h
  subst h
  rfl
theorem wanted_at {ops : Array Oper} {o : Oper} {au : Act} {g t : Nat} {b : Bool} (hg : o.guard = some (g, b)) (hd : (ops[g]?).bind (·.dst) = some t) (h : au.eval (.tmp t) = .bool b) : Region.wanted o (yielded ops au.tmps) = true := by
 have h : au.tmps.getD t undef = .bool b := h
 rw [Array.getD_eq_getD_getElem?] at h
 cases hx : au.tmps[t]? with
 | none => rw [hx] at h; exact absurd h (by intro h'; cases h')
 | some v => rw [hx] at h; exact wanted_guard hg hd hx h
/-- A slot that an operation behind this one writes too. -/
theorem slot_start {us : Nat → Value} {l : List Oper} {a0 au : Act} {t : Tmp} {v : Value} (i : Nat) (ha : au = putAll us l 0 a0) (hs : us i = startV l a0 i) (hd : distinct l = true) (h : (l[i]?).bind (·.dst) = some t) (ht : decide (t < a0.tmps.size) = true) (hv : a0.tmps[t]? = some v) : au.eval (.tmp t) = v := by
 refine slot_at i ha hd h ht ?_
 rw [hs]
 unfold startV
 rw [h]
 show a0.tmps.getD t undef = v
 rw [Array.getD_eq_getD_getElem?, hv]; rfl
/-- An operation that leaves the world alone. -/
theorem StepI.pure {p : Value → World → Prop} {i : Nat} {o : Oper} {a : Act} {w : World} {v : Value} (ho : ops[i]? = some o) (hg : Region.wanted o (yielded ops a.tmps) = true)
 (he : (execOp a.eval o).run P w = .ok (.value v) w) (hp : p v w) : StepI P ops Q p i o a w := fun K hK => by
 unfold wpOp
 simp only [ho, hg, if_true]
 exact .inl (by unfold Oper.wp; rw [he]; exact hK v w hp)
theorem StepI.skip {p : Value → World → Prop} {i : Nat} {o : Oper} {a : Act} {w : World} (ho : ops[i]? = some o) (hg : Region.wanted o (yielded ops a.tmps) = false) (hp : p undef w) : StepI P ops Q p i o a w := fun K hK => by
 unfold wpOp
 simp only [ho, hg]
 exact hK undef w hp
theorem StepI.runs {p : Value → World → Prop} {i : Nat} {o : Oper} {a : Act} {w w' : World} {v : Value} (ho : ops[i]? = some o) (hg : Region.wanted o (yielded ops a.tmps) = true)
 (he : (execOp a.eval o).run P w = .ok (.value v) w') (hp : p v w') : StepI P ops Q p i o a w := fun K hK => by
 unfold wpOp
 simp only [ho, hg, if_true]
 exact .inl (by unfold Oper.wp; rw [he]; exact hK v w' hp)
theorem StepI.call {p : Value → World → Prop} {i : Nat} {o : Oper} {a : Act} {w : World} {f : FuncId} {args : Array Value} (ho : ops[i]? = some o) (hg : Region.wanted o (yielded ops a.tmps) = true)
 (he : (execOp a.eval o).run P w = .ok (.enter f args) w) (hc : Calls P f args w fun e w' => ∃ v, e = .returned v ∧ p v w') : StepI P ops Q p i o a w := fun K hK => by
 unfold wpOp
 simp only [ho, hg, if_true]
 refine .inl ?_
 unfold Oper.wp
 rw [he]
 exact Calls.mono hc (fun e w' ⟨v, h1, h2⟩ => by subst h1; exact hK v w' h2)
/-- A store. -/
theorem StepI.stored {p : Value → World → Prop} {i : Nat} {o : Oper} {a : Act} {w w' : World} (ho : ops[i]? = some o) (hg : Region.wanted o (yielded ops a.tmps) = true)
 (he : (execOp a.eval o).run P w = .ok .skip w') (hp : p undef w') : StepI P ops Q p i o a w := fun K hK => by
 unfold wpOp
 simp only [ho, hg, if_true]
 refine .inl ?_
 unfold Oper.wp
 rw [he]
 exact hK undef w' hp
/-- By the law of one operation. -/
theorem StepI.wp {p : Value → World → Prop} {i : Nat} {o : Oper} {a : Act} {w : World} (ho : ops[i]? = some o) (hg : Region.wanted o (yielded ops a.tmps) = true)
 (h : ∀ K : Act → World → Prop, (∀ v w', p v w' → K (a.put o.dst v) w') → Oper.wp P o a w K Q) : StepI P ops Q p i o a w := fun K hK => by
 unfold wpOp
 simp only [ho, hg, if_true]
 exact .inl (h K hK)
end
end Go.Proofs.YtihanglnjghcfaaGreatDoor
namespace Go.Proofs.YtihanglnjghcfaaGreatDoor
open Go.RowKit
set_option linter.unusedVariables false
set_option linter.unusedSimpArgs false

/-- An entry: mode, name, ID. -/
structure Ent where
 m : ByteArray
 n : ByteArray
 i : ByteArray
/-- A row of entries that reads as these. -/
def EntsAt (w : World) (A : Option Addr) (L : List Ent) : Prop :=
 0 < L.length → ∃ g o, A = some ⟨g, o, none⟩ ∧ g < w.heap.size ∧ ∀ (i : Nat) (x : Ent), L[i]? = some x → w.cell? ⟨g, o + i * 3, none⟩ = some (.string x.m) ∧ w.cell? ⟨g, o + i * 3 + 1, none⟩ = some (.string x.n) ∧ w.cell? ⟨g, o + i * 3 + 2, none⟩ = some (.string x.i)
theorem EntsAt.below {w w' : World} {A : Option Addr} {L : List Ent} (h : EntsAt w A L) (hb : Below w.heap.size w w') : EntsAt w' A L := fun hl => by
 obtain ⟨g, o, h1, h2, h3⟩ := h hl
 exact ⟨g, o, h1, Nat.lt_of_lt_of_le h2 hb.size, fun i x hx => ⟨(hb.cell (p := ⟨g, o + i * 3, none⟩) h2).trans (h3 i x hx).1, (hb.cell (p := ⟨g, o + i * 3 + 1, none⟩) h2).trans (h3 i x hx).2.1, (hb.cell (p := ⟨g, o + i * 3 + 2, none⟩) h2).trans (h3 i x hx).2.2⟩⟩
theorem EntsAt.nil {w : World} {A : Option Addr} : EntsAt w A [] := fun h => absurd h (by simp)
/-- What an entry is printed as, and a tree. -/
def entS (x : Ent) : ByteArray := x.m ++ ⟨#[32]⟩ ++ x.n ++ ⟨#[0]⟩
def entL (x : Ent) : List Int := bytesOf (entS x) ++ rawL x.i
def treeL (L : List Ent) : List Int := L.flatMap entL
theorem entS_size (x : Ent) : (entS x).size = x.m.size + 1 + x.n.size + 1 := by
 unfold entS; rw [ByteArray.size_append, ByteArray.size_append, ByteArray.size_append]; rfl
theorem entL_len (x : Ent) : (entL x).length = x.m.size + 1 + x.n.size + 1 + 20 := by
 unfold entL; rw [List.length_append, bytesOf_len, rawL_len, entS_size]
theorem treeL_succ {L : List Ent} {k : Nat} {x : Ent} (h : L[k]? = some x) : treeL (L.take (k + 1)) = treeL (L.take k) ++ entL x := by
 unfold treeL
 rw [List.take_add_one, h, List.flatMap_append]
 simp
theorem treeL_pre (L : List Ent) (k : Nat) : (treeL (L.take k)).length ≤ (treeL L).length := by
 have e : treeL L = treeL (L.take k) ++ treeL (L.drop k) := by unfold treeL; rw [← List.flatMap_append, List.take_append_drop]
 rw [e, List.length_append]
 omega
def entF (x : Ent) (j : Nat) : Value := if j = 0 then .string x.m else if j = 1 then .string x.n else .string x.i
theorem entF_new (w : World) (x : Ent) : Cel (w.alloc (.cells #[.string x.m, .string x.n, .string x.i] 116)) w.heap.size 116 3 (entF x) :=
 Cel.new w _ #[.string x.m, .string x.n, .string x.i] _ (fun i hi => by
  have : i < 3 := hi
  rcases i with _ | _ | _ | i <;> first | rfl | omega)
end Go.Proofs.YtihanglnjghcfaaGreatDoor
namespace Go.Proofs.YtihanglnjghcfaaGreatDoor
open Go.RowKit
set_option linter.unusedVariables false
set_option linter.unusedSimpArgs false

/-- A row of texts. -/
def StrsAt (w : World) (A : Option Addr) (P : List ByteArray) : Prop :=
 0 < P.length → ∃ g o, A = some ⟨g, o, none⟩ ∧ g < w.heap.size ∧ ∀ (i : Nat) (s : ByteArray), P[i]? = some s → w.cell? ⟨g, o + i, none⟩ = some (.string s)
theorem StrsAt.below {w w' : World} {A : Option Addr} {P : List ByteArray} (h : StrsAt w A P) (hb : Below w.heap.size w w') : StrsAt w' A P := fun hl => by
 obtain ⟨g, o, h1, h2, h3⟩ := h hl
 exact ⟨g, o, h1, Nat.lt_of_lt_of_le h2 hb.size, fun i x hx => (hb.cell (p := ⟨g, o + i, none⟩) h2).trans (h3 i x hx)⟩
theorem StrsAt.nil {w : World} {A : Option Addr} : StrsAt w A [] := fun h => absurd h (by simp)
def treeW : ByteArray := ⟨#[116, 114, 101, 101, 32]⟩
def parentW : ByteArray := ⟨#[112, 97, 114, 101, 110, 116, 32]⟩
def authorW : ByteArray := ⟨#[97, 117, 116, 104, 111, 114, 32]⟩
def committerW : ByteArray := ⟨#[10, 99, 111, 109, 109, 105, 116, 116, 101, 114, 32]⟩
def objectW : ByteArray := ⟨#[111, 98, 106, 101, 99, 116, 32]⟩
def typeW : ByteArray := ⟨#[10, 116, 121, 112, 101, 32]⟩
def tagW : ByteArray := ⟨#[10, 116, 97, 103, 32]⟩
def taggerW : ByteArray := ⟨#[10, 116, 97, 103, 103, 101, 114, 32]⟩
def nlW : ByteArray := ⟨#[10]⟩
def nl2W : ByteArray := ⟨#[10, 10]⟩
/-- A parent's line; a commit's beginning, its end; a tag. -/
def parS (p : ByteArray) : ByteArray := parentW ++ p ++ nlW
def headS (t : ByteArray) : ByteArray := treeW ++ t ++ nlW
def tailS (a c m : ByteArray) : ByteArray := authorW ++ a ++ committerW ++ c ++ nl2W ++ m
def parL (P : List ByteArray) : List Int := P.flatMap fun p => bytesOf (parS p)
def commitL (t : ByteArray) (P : List ByteArray) (a c m : ByteArray) : List Int := bytesOf (headS t) ++ parL P ++ bytesOf (tailS a c m)
def tagS (o k n g m : ByteArray) : ByteArray := objectW ++ o ++ typeW ++ k ++ tagW ++ n ++ taggerW ++ g ++ nl2W ++ m
theorem parS_size (p : ByteArray) : (parS p).size = p.size + 8 := by
 unfold parS; rw [ByteArray.size_append, ByteArray.size_append]; show 7 + p.size + 1 = _; omega
theorem headS_size (t : ByteArray) : (headS t).size = t.size + 6 := by
 unfold headS; rw [ByteArray.size_append, ByteArray.size_append]; show 5 + t.size + 1 = _; omega
theorem tailS_size (a c m : ByteArray) : (tailS a c m).size = a.size + c.size + m.size + 20 := by
 unfold tailS
 rw [ByteArray.size_append, ByteArray.size_append, ByteArray.size_append, ByteArray.size_append, ByteArray.size_append]
 show 7 + a.size + 11 + c.size + 2 + m.size = _
 omega
theorem tagS_size (o k n g m : ByteArray) : (tagS o k n g m).size = o.size + k.size + n.size + g.size + m.size + 28 := by
 unfold tagS
 rw [ByteArray.size_append, ByteArray.size_append, ByteArray.size_append, ByteArray.size_append, ByteArray.size_append, ByteArray.size_append, ByteArray.size_append, ByteArray.size_append, ByteArray.size_append]
 show 7 + o.size + 6 + k.size + 5 + n.size + 8 + g.size + 2 + m.size = _
 omega
theorem parL_succ {P : List ByteArray} {k : Nat} {p : ByteArray} (h : P[k]? = some p) : parL (P.take (k + 1)) = parL (P.take k) ++ bytesOf (parS p) := by
 unfold parL
 rw [List.take_add_one, h, List.flatMap_append]
 simp
theorem parL_pre (P : List ByteArray) (k : Nat) : (parL (P.take k)).length ≤ (parL P).length := by
 have e : parL P = parL (P.take k) ++ parL (P.drop k) := by unfold parL; rw [← List.flatMap_append, List.take_append_drop]
 rw [e, List.length_append]
 omega
end Go.Proofs.YtihanglnjghcfaaGreatDoor
namespace Go.Proofs.YtihanglnjghcfaaGreatDoor
open Go.RowKit
set_option linter.unusedVariables false
set_option linter.unusedSimpArgs false

def bk (l : List UInt8) : ByteArray := ⟨l.toArray⟩
theorem bk_list (l : List UInt8) : (bk l).data.toList = l := by simp [bk]
theorem bk_of (s : ByteArray) : bk s.data.toList = s := by cases s; simp [bk]
theorem bk_size (l : List UInt8) : (bk l).size = l.length := by show l.toArray.size = _; simp
theorem bk_ext (s : ByteArray) (a b : Nat) : s.extract a b = bk ((s.data.toList.take b).drop a) := by
 obtain ⟨⟨l⟩⟩ := s
 apply ByteArray.ext
 simp [bk, ByteArray.data_extract, List.drop_take]
theorem bk_ext0 (s : ByteArray) (b : Nat) : s.extract 0 b = bk (s.data.toList.take b) := by rw [bk_ext]; simp
theorem bk_extE (s : ByteArray) (a : Nat) : s.extract a s.size = bk (s.data.toList.drop a) := by
 rw [bk_ext, List.take_of_length_le (by rw [← Lib.size_eq]; exact Nat.le_refl _)]
theorem bk_inj {a b : List UInt8} : bk a = bk b ↔ a = b := ⟨fun h => by rw [← bk_list a, h, bk_list], fun h => by rw [h]⟩
theorem idx_cases (c : UInt8) : ∀ (l : List UInt8), (Lib.indexByte l c = -1 ∧ c ∉ l) ∨ ∃ i : Nat, Lib.indexByte l c = i ∧ i < l.length ∧ l[i]? = some c ∧ c ∉ l.take i
 | [] => .inl ⟨rfl, by simp⟩
 | b :: l => by
  unfold Lib.indexByte
  by_cases h : b = c
  · subst h
    exact .inr ⟨0, by rw [if_pos (by simp)]; rfl, by simp, rfl, by simp⟩
  · have hb : (b == c) = false := by simpa using h
    rw [hb, if_neg (by decide)]
    rcases idx_cases c l with ⟨h1, h2⟩ | ⟨i, h1, h2, h3, h4⟩
    · left
      rw [h1]
      exact ⟨rfl, by simp [h2]; exact fun e => h e.symm⟩
    · right
      refine ⟨i + 1, ?_, by simp; omega, by simpa using h3, by simp [h4]; exact fun e => h e.symm⟩
      have : ((i : Int) == -1) = false := by rw [beq_eq_false_iff_ne]; omega
      rw [h1, this, if_neg (by decide)]
      rfl
set_option maxRecDepth 100000 in
set_option maxHeartbeats 1000000 in
theorem cut1_none (s : ByteArray) (c : UInt8) (w : World) (h : Lib.indexByte s.data.toList c = -1) :
 Calls Tryz.prog 126 #[.string s, .string ⟨#[c]⟩] w fun e w' => e = .returned (.tuple #[.string s, .string (bk []), .bool false]) ∧ Below w.heap.size w w' := by
 have hi := Tryz.stringslite_Index_one s c w
 rw [h] at hi
 have key : Calls Tryz.prog 143 #[.string s, .string ⟨#[c]⟩] w fun e w' => e = .returned (.tuple #[.string s, .string (bk []), .bool false]) ∧ Below w.heap.size w w' := by
  go_enter Tryz.func143, Tryz.ntmps143
  go_wp2_with (go_at_call 152; refine hi.mono ?_; rintro e w' ⟨rfl, rfl⟩)
  go_ret3
  exact ⟨rfl, Below.refl _ _⟩
 go_enter Tryz.func126, Tryz.ntmps126
 go_wp2_with (go_at_call 143; refine key.mono ?_; rintro e w' ⟨rfl, hb⟩)
 go_ret3
 exact ⟨rfl, hb⟩
set_option maxRecDepth 100000 in
set_option maxHeartbeats 1000000 in
theorem cut1_at (s : ByteArray) (c : UInt8) (w : World) (i : Nat) (h : Lib.indexByte s.data.toList c = i) (hl : i < s.size) (hs : s.size ≤ 140737488355328) :
 Calls Tryz.prog 126 #[.string s, .string ⟨#[c]⟩] w fun e w' => e = .returned (.tuple #[.string (bk (s.data.toList.take i)), .string (bk (s.data.toList.drop (i + 1))), .bool true]) ∧ Below w.heap.size w w' := by
 have hi := Tryz.stringslite_Index_one s c w
 rw [h] at hi
 have c0 : (0 : Int) ≤ (i : Int) := by omega
 have c1 : (i : Int) ≤ (s.size : Int) := by omega
 have c2 : (0 : Int) ≤ (i : Int) + 1 := by omega
 have c3 : (i : Int) + 1 ≤ (s.size : Int) := by omega
 have c4 : IntKind.i64.wrap ((i : Int) + 1) = (i : Int) + 1 := IntWalk.i64_in _ (by omega)
 have e1 := bk_ext0 s i
 have e2 := bk_extE s (i + 1)
 have key : Calls Tryz.prog 143 #[.string s, .string ⟨#[c]⟩] w fun e w' => e = .returned (.tuple #[.string (bk (s.data.toList.take i)), .string (bk (s.data.toList.drop (i + 1))), .bool true]) ∧ Below w.heap.size w w' := by
  rw [← e1, ← e2]
  clear e1 e2
  go_enter Tryz.func143, Tryz.ntmps143
  go_wp2_with (go_at_call 152; refine hi.mono ?_; rintro e w' ⟨rfl, rfl⟩)
  go_quiet (fail)
  go_wp2
  go_ret3
  exact ⟨rfl, Below.drewN (Below.refl _ _) _⟩
 clear e1 e2
 go_enter Tryz.func126, Tryz.ntmps126
 go_wp2_with (go_at_call 143; refine key.mono ?_; rintro e w' ⟨rfl, hb⟩)
 go_ret3
 exact ⟨rfl, hb⟩

/-- A line that begins with a word and a blank: what stands behind them, and what behind the line; none: it is not there. -/
def fieldL (nm l : List UInt8) : Option (List UInt8 × List UInt8) :=
 if Lib.hasPrefix l (nm ++ [32]) then
  if Lib.indexByte (Lib.trimPrefix l (nm ++ [32])) 10 = -1 then none
  else some ((Lib.trimPrefix l (nm ++ [32])).take (Lib.indexByte (Lib.trimPrefix l (nm ++ [32])) 10).toNat, (Lib.trimPrefix l (nm ++ [32])).drop ((Lib.indexByte (Lib.trimPrefix l (nm ++ [32])) 10).toNat + 1))
 else none
def FieldPost (g : Nat) (s : ByteArray) (nm : List UInt8) (w : World) (e : Ending) (w' : World) : Prop :=
 Chg (fun k => k = g) w w' ∧ ((∃ x r, fieldL nm s.data.toList = some (x, r) ∧ e = .returned (.tuple #[.string (bk x), .bool true]) ∧ Cel w' g 9 1 (fun _ => .string (bk r))) ∨
  ∃ x : ByteArray, fieldL nm s.data.toList = none ∧ e = .returned (.tuple #[.string x, .bool false]) ∧ Cel w' g 9 1 (fun _ => .string s))
theorem trimPrefix_len (l p : List UInt8) : (Lib.trimPrefix l p).length ≤ l.length := by
 unfold Lib.trimPrefix; split
 · rw [List.length_drop]; omega
 · exact Nat.le_refl _
set_option maxRecDepth 100000 in
set_option maxHeartbeats 2000000 in
theorem field_any (g : Nat) (s : ByteArray) (nm : List UInt8) (w : World) (hs : s.size ≤ 140737488351300) (hn : nm.length ≤ 100) (hc : Cel w g 9 1 (fun _ => .string s)) :
 Calls Tryz.prog 109 #[.pointer (some ⟨g, 0, none⟩), .string (bk nm)] w (FieldPost g s nm w) := by
 have k0 : w.cell? ⟨g, 0, none⟩ = some (.string s) := hc.cell 0 (by decide)
 have f0 : w.frozen? ⟨g, 0, none⟩ = false := hc.frozen 0
 have z0 : (bk nm ++ (⟨#[32]⟩ : ByteArray)).size = (bk nm).size + 1 := by rw [ByteArray.size_append]; rfl
 have z1 : (bk nm).size ≤ 100 := by rw [bk_size]; exact hn
 have HP := Lib.hid (Tryz.strings_CutPrefix s (bk nm ++ (⟨#[32]⟩ : ByteArray)) w)
 rw [show (bk nm ++ (⟨#[32]⟩ : ByteArray)).data.toList = nm ++ [32] by rw [ByteArray.data_append, Array.toList_append, bk_list]] at HP
 have HF : Hid (fieldL nm s.data.toList = if Lib.hasPrefix s.data.toList (nm ++ [32]) then
  if Lib.indexByte (Lib.trimPrefix s.data.toList (nm ++ [32])) 10 = -1 then none
  else some ((Lib.trimPrefix s.data.toList (nm ++ [32])).take (Lib.indexByte (Lib.trimPrefix s.data.toList (nm ++ [32])) 10).toNat, (Lib.trimPrefix s.data.toList (nm ++ [32])).drop ((Lib.indexByte (Lib.trimPrefix s.data.toList (nm ++ [32])) 10).toNat + 1)) else none) := Lib.hid rfl
 have hrl : (Lib.trimPrefix s.data.toList (nm ++ [32])).length ≤ s.size := by rw [Lib.size_eq]; exact trimPrefix_len _ _
 change Hid (Calls Tryz.prog 112 #[.string s, .string (bk nm ++ (⟨#[32]⟩ : ByteArray))] w fun e w' => e = .returned (.tuple #[.string (bk (Lib.trimPrefix s.data.toList (nm ++ [32]))), .bool (Lib.hasPrefix s.data.toList (nm ++ [32]))]) ∧ w' = w) at HP
 have HC := Lib.hid hc
 have HPO : Hid (∀ e w', FieldPost g s nm w e w' = (Chg (fun k => k = g) w w' ∧ ((∃ x r, fieldL nm s.data.toList = some (x, r) ∧ e = .returned (.tuple #[.string (bk x), .bool true]) ∧ Cel w' g 9 1 (fun _ => .string (bk r))) ∨
  ∃ x : ByteArray, fieldL nm s.data.toList = none ∧ e = .returned (.tuple #[.string x, .bool false]) ∧ Cel w' g 9 1 (fun _ => .string s)))) := Lib.hid (fun _ _ => rfl)
 generalize FieldPost g s nm w = POST at *
 generalize Lib.trimPrefix s.data.toList (nm ++ [32]) = R at *
 generalize Lib.hasPrefix s.data.toList (nm ++ [32]) = hp at *
 generalize fieldL nm s.data.toList = FL at *
 have HRL := Lib.hid hrl
 clear hc hn hrl
 go_enter Tryz.func109, Tryz.ntmps109
 cases hp
 · go_wp2_with (go_at_call 112; refine HP.out.mono ?_; rintro e w1 ⟨rfl, rfl⟩)
   rw [HPO.out]
   exact ⟨Chg.refl _ _, .inr ⟨_, HF.out, rfl, HC.out⟩⟩
 · have HB : Hid ((bk R).data.toList = R) := Lib.hid (bk_list R)
   have HZ : Hid ((bk R).size = R.length) := Lib.hid (bk_size R)
   rcases idx_cases 10 R with ⟨hi, _⟩ | ⟨i, hi, hil, _, _⟩
   · have HCN := Lib.hid (fun w => cut1_none (bk R) 10 w (by rw [bk_list]; exact hi))
     have HFN : Hid (FL = none) := Lib.hid (by rw [HF.out, if_pos rfl, if_pos hi])
     clear hi
     go_wp2_with (first | (go_at_call 112; refine HP.out.mono ?_; rintro e w1 ⟨rfl, rfl⟩) | (go_at_call 126; refine (HCN.out _).mono ?_; rintro e w2 ⟨rfl, hb2⟩; have HB2 := Lib.hid hb2; clear hb2))
     rw [HPO.out]
     exact ⟨Chg.of_below HB2.out, .inr ⟨_, HFN.out, rfl, HC.out.below HB2.out HC.out.blk⟩⟩
   · have HCN := Lib.hid (fun w => cut1_at (bk R) 10 w i (by rw [bk_list]; exact hi) (by rw [bk_size]; exact hil) (by rw [bk_size]; have := HRL.out; omega))
     rw [bk_list] at HCN
     have HFN : Hid (FL = some (R.take i, R.drop (i + 1))) := Lib.hid (by rw [HF.out, if_pos rfl, if_neg (by omega), hi]; rfl)
     clear hi hil
     generalize R.take i = X at *
     generalize R.drop (i + 1) = Y at *
     go_wp2_with fail
     refine HP.out.mono ?_
     rintro e w1 ⟨rfl, rfl⟩
     clear k0 f0
     go_wp2_with fail
     refine (HCN.out _).mono ?_
     rintro e w2 ⟨rfl, hb2⟩
     have HB2 := Lib.hid hb2
     have hc2 := HC.out.below hb2 HC.out.blk
     have k0 : w2.cell? ⟨g, 0, none⟩ = some (.string s) := hc2.cell 0 (by decide)
     have f0 : w2.frozen? ⟨g, 0, none⟩ = false := hc2.frozen 0
     have HC2 := Lib.hid hc2
     clear hb2 hc2
     go_wp2
     rw [HPO.out]
     exact ⟨Chg.setCell (S := fun k => k = g) (Chg.of_below HB2.out) (a := ⟨g, 0, none⟩) (.inl rfl) _, .inl ⟨X, Y, HFN.out, rfl, (HC2.out.set 0 (.string (bk Y))).congr (fun i hi => by rw [if_pos (by omega)])⟩⟩
end Go.Proofs.YtihanglnjghcfaaGreatDoor
