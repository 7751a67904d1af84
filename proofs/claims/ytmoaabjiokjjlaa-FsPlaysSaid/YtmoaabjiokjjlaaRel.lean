/- A region that draws its order and whose operations make memory: each operation is shown once, from what its own operands' operations have left; no program's function is named here. -/
import Derived.Test.YtmoaabjiokjjlaaLib
import Derived.Orders
namespace Go.Proofs.Ytmoaabjiokjjlaa
open Go.RowKit

/-- The act behind values us for the operations l, of which the first has the number k. -/
def putAll (us : Nat → Value) : List Oper → Nat → Act → Act
  | [], _, a => a
  | o :: l, k, a => putAll us l (k + 1) (a.put o.dst (us k))
def upd (us : Nat → Value) (i : Nat) (v : Value) : Nat → Value := fun j => if j = i then v else us j

theorem put_put (a : Act) (d : Option Tmp) (u v : Value) : (a.put d u).put d v = a.put d v := by
  cases d with
  | none => rfl
  | some t => simp [Act.put]
theorem putAll_put_far (us : Nat → Value) : ∀ (l : List Oper) (k : Nat) (a : Act) (d : Option Tmp) (v : Value), (∀ o ∈ l, ∀ t, d = some t → o.dst ≠ some t) → (putAll us l k a).put d v = putAll us l k (a.put d v)
  | [], _, _, _, _, _ => rfl
  | o :: l, k, a, d, v, h => by
    rw [putAll, putAll, putAll_put_far us l (k + 1) _ d v (fun o' h' => h o' (by simp [h']))]
    congr 1
    cases d with
    | none => rfl
    | some t => exact (Act.put_comm a v (us k) (fun t' ht' e => h o (by simp) t' ht' e)).symm
theorem putAll_far (us us' : Nat → Value) : ∀ (l : List Oper) (k : Nat) (a : Act), (∀ j, k ≤ j → us j = us' j) → putAll us l k a = putAll us' l k a
  | [], _, _, _ => rfl
  | o :: l, k, a, h => by rw [putAll, putAll, h k (Nat.le_refl _), putAll_far us us' l (k + 1) _ (fun j hj => h j (by omega))]
def distinct : List Oper → Bool
  | [] => true
  | o :: l => (match o.dst with | some t => l.all (fun o' => o'.dst != some t) | none => true) && distinct l
theorem putAll_put (us : Nat → Value) : ∀ (l : List Oper) (k : Nat) (a : Act) (i : Nat) (o : Oper) (v : Value), distinct l = true → l[i]? = some o → (putAll us l k a).put o.dst v = putAll (upd us (k + i) v) l k a
  | [], _, _, _, _, _, _, h => by simp at h
  | o' :: l, k, a, i, o, v, hd, h => by
    rw [distinct, Bool.and_eq_true] at hd
    cases i with
    | zero =>
      simp at h
      subst h
      rw [putAll, putAll]
      rw [putAll_put_far us l (k + 1) _ o'.dst v (fun o'' ho'' t ht e => by
        have := hd.1
        rw [ht] at this
        simp only [List.all_eq_true] at this
        have := this o'' ho''
        simp [e] at this)]
      rw [put_put]
      rw [show upd us (k + 0) v k = v by simp [upd]]
      exact putAll_far _ _ l (k + 1) _ (fun j hj => by unfold upd; rw [if_neg (by omega)])
    | succ i =>
      simp at h
      rw [putAll, putAll]
      rw [show upd us (k + (i + 1)) v k = us k by unfold upd; rw [if_neg (by omega)]]
      rw [putAll_put us l (k + 1) (a.put o'.dst (us k)) i o v hd.2 h]
      congr 2
      omega
theorem putAll_id (us : Nat → Value) : ∀ (l : List Oper) (k : Nat) (a : Act), (∀ i o, l[i]? = some o → a.put o.dst (us (k + i)) = a) → putAll us l k a = a
  | [], _, _, _ => rfl
  | o :: l, k, a, h => by
    have h0 := h 0 o rfl
    rw [Nat.add_zero] at h0
    rw [putAll, h0]
    exact putAll_id us l (k + 1) a (fun i o' h' => by
      have := h (i + 1) o' (by simpa using h')
      rwa [show k + (i + 1) = k + 1 + i by omega] at this)
def startV (l : List Oper) (a : Act) (i : Nat) : Value := match (l[i]?).bind (·.dst) with | some t => a.tmps.getD t undef | none => undef
theorem put_same (a : Act) (t : Tmp) : a.put (some t) (a.tmps.getD t undef) = a := by
  obtain ⟨ts, ds⟩ := a
  have e : ts.setIfInBounds t (ts.getD t undef) = ts := by
    apply Array.ext_getElem?
    intro i
    by_cases hi : i = t
    · subst hi
      by_cases hs : i < ts.size
      · simp [hs]
      · simp [hs]
    · rw [Array.getElem?_setIfInBounds_ne (Ne.symm hi)]
  show (⟨ts.setIfInBounds t (ts.getD t undef), ds⟩ : Act) = ⟨ts, ds⟩
  rw [e]
theorem putAll_start (l : List Oper) (a : Act) : putAll (startV l a) l 0 a = a :=
  putAll_id _ l 0 a (fun i o h => by
    rw [Nat.zero_add]
    unfold startV
    rw [h]
    cases hd : o.dst with
    | none => rfl
    | some t => simp only [Option.bind_some, hd]; exact put_same a t)

/-- Does the operation wait for number j? -/
def depB (o : Oper) (j : Nat) : Bool := o.after.any fun e => Region.binds .any e && e.on == j
def edgesDown (l : List Oper) : Bool := (List.range l.length).all fun i => match l[i]? with | some o => o.after.all (fun e => !Region.binds .any e || decide (e.on < i)) | none => true
def unl (n : Nat) (listed : Array Bool) : Nat := ((List.range n).filter fun i => !listed.getD i true).length

section
variable {P : Program} {ops : Array Oper} {Q : Exit → Act → World → Prop}
theorem unl_set (n i : Nat) (listed : Array Bool) (hi : i < n) (h0 : listed.getD i true = false) : unl n (listed.setIfInBounds i true) < unl n listed := by
  have hs : i < listed.size := by
    rcases Nat.lt_or_ge i listed.size with h | h
    · exact h
    · rw [Array.getD_eq_getD_getElem?, Array.getElem?_eq_none h] at h0; cases h0
  unfold unl
  have key : ∀ (l : List Nat), (l.filter fun j => !(listed.setIfInBounds i true).getD j true).length + (if i ∈ l then 1 else 0) ≤ (l.filter fun j => !listed.getD j true).length := by
    intro l
    induction l with
    | nil => simp
    | cons j l ih =>
      rw [List.filter_cons, List.filter_cons]
      by_cases hji : j = i
      · subst hji
        have e1 : (listed.setIfInBounds j true).getD j true = true := by
          rw [Array.getD_eq_getD_getElem?]; simp [hs]
        rw [e1, h0, if_pos (List.mem_cons_self ..)]
        simp only [Bool.not_true, Bool.not_false, Bool.false_eq_true, if_false, if_true, List.length_cons]
        by_cases hl : j ∈ l
        · rw [if_pos hl] at ih; omega
        · rw [if_neg hl] at ih; omega
      · have e1 : (listed.setIfInBounds i true).getD j true = listed.getD j true := by
          rw [Array.getD_eq_getD_getElem?, Array.getD_eq_getD_getElem?, Array.getElem?_setIfInBounds_ne (Ne.symm hji)]
        rw [e1]
        have hm : (i ∈ j :: l) ↔ i ∈ l := by simp [Ne.symm hji]
        by_cases hl : i ∈ l
        · rw [if_pos hl] at ih
          rw [if_pos (hm.2 hl)]
          cases listed.getD j true
          · simp only [Bool.not_false, if_true, List.length_cons]; omega
          · simp only [Bool.not_true, Bool.false_eq_true, if_false]; omega
        · rw [if_neg hl] at ih
          rw [if_neg (fun h => hl (hm.1 h))]
          cases listed.getD j true
          · simp only [Bool.not_false, if_true, List.length_cons]; omega
          · simp only [Bool.not_true, Bool.false_eq_true, if_false]; omega
  have := key (List.range n)
  rw [if_pos (List.mem_range.2 hi)] at this
  omega
theorem all_listed (hE : edgesDown ops.toList = true) (listed : Array Bool) (h : Region.ready .any ops listed = []) : ∀ i, i < ops.size → listed.getD i true = true := by
  intro i
  induction i using Nat.strongRecOn with
  | ind i ih =>
    intro hi
    cases hc : listed.getD i true with
    | true => rfl
    | false =>
      exfalso
      have ho : ops[i]? = some ops[i] := Array.getElem?_eq_getElem hi
      have hm : i ∈ Region.ready .any ops listed := mem_ready.2 ⟨hc, ops[i], ho, fun e he hb => by
        unfold edgesDown at hE
        have h1 := List.all_eq_true.1 hE i (List.mem_range.2 (by simpa using hi))
        rw [Array.getElem?_toList, ho] at h1
        simp only at h1
        rw [Array.all_eq_true'] at h1
        have h2 := h1 e he
        rw [hb] at h2
        simp at h2
        have h3 := ih e.on h2 (by omega)
        have hsz : e.on < listed.size := by
          rcases Nat.lt_or_ge i listed.size with h' | h'
          · omega
          · rw [Array.getD_eq_getD_getElem?, Array.getElem?_eq_none h'] at hc; cases hc
        rw [Array.getD_eq_getD_getElem?, Array.getElem?_eq_getElem hsz] at h3 ⊢
        exact h3⟩
      rw [h] at hm
      cases hm

/-- One operation, whatever follows: it leaves a value of which p holds, in a world reached by Rel. -/
def StepR (P : Program) (ops : Array Oper) (Q : Exit → Act → World → Prop) (Rel : World → World → Prop) (p : Value → World → Prop) (i : Nat) (o : Oper) (a : Act) (w : World) : Prop :=
  ∀ K : Act → World → Prop, (∀ v w', Rel w w' → p v w' → K (a.put o.dst v) w') → wpOp P ops Q i K a w

theorem wpAny_rel (Rel : World → World → Prop) (hT : ∀ {x y z}, Rel x y → Rel y z → Rel x z) (V : Nat → Value → World → Prop) (hV : ∀ i v w w', V i v w → Rel w w' → V i v w')
    (hd : distinct ops.toList = true) (hE : edgesDown ops.toList = true) (a0 : Act) (w0 : World)
    (step : ∀ i o, ops[i]? = some o → ∀ us w, Rel w0 w → (∀ j, depB o j = true → V j (us j) w) → StepR P ops Q Rel (V i) i o (putAll us ops.toList 0 a0) w)
    (done : ∀ us w, Rel w0 w → (∀ j, j < ops.size → V j (us j) w) → Q .normal (putAll us ops.toList 0 a0) w) :
    ∀ (fuel : Nat) (listed : Array Bool) (us : Nat → Value) (w : World), unl ops.size listed ≤ fuel → Rel w0 w → (∀ j, j < ops.size → listed.getD j true = true → V j (us j) w) →
      listed.size = ops.size → wpAny P .any ops Q fuel listed (putAll us ops.toList 0 a0) w := by
  intro fuel
  have fin : ∀ (listed : Array Bool) (us : Nat → Value) (w : World), Rel w0 w → (∀ j, j < ops.size → listed.getD j true = true → V j (us j) w) → Region.ready .any ops listed = [] → Q .normal (putAll us ops.toList 0 a0) w :=
    fun listed us w hR hu h => done us w hR (fun j hj => hu j hj (all_listed hE listed h j hj))
  induction fuel with
  | zero =>
    intro listed us w hf hR hu hs
    have hr : Region.ready .any ops listed = [] := by
      cases hc : Region.ready .any ops listed with
      | nil => rfl
      | cons i r =>
        exfalso
        have hm : i ∈ Region.ready .any ops listed := by rw [hc]; simp
        obtain ⟨h0, o, ho, _⟩ := mem_ready.1 hm
        have hi : i < ops.size := (Array.getElem?_eq_some_iff.1 ho).1
        have := unl_set ops.size i listed hi h0
        omega
    exact ⟨hr, fin listed us w hR hu hr⟩
  | succ fuel ih =>
    intro listed us w hf hR hu hs
    refine ⟨fin listed us w hR hu, fun i hi => ?_⟩
    obtain ⟨h0, o, ho, hall⟩ := mem_ready.1 hi
    have hil : i < ops.size := (Array.getElem?_eq_some_iff.1 ho).1
    refine step i o ho us w hR (fun j hj => ?_) _ (fun v w' hRel hp => ?_)
    · unfold depB at hj
      rw [Array.any_eq_true'] at hj
      obtain ⟨e, he, hb⟩ := hj
      rw [Bool.and_eq_true] at hb
      have hon : e.on = j := by simpa using hb.2
      subst hon
      have h1 := hall e he hb.1
      have hsz : e.on < listed.size := by
        rcases Nat.lt_or_ge e.on listed.size with h' | h'
        · exact h'
        · rw [Array.getD_eq_getD_getElem?, Array.getElem?_eq_none h'] at h1; cases h1
      refine hu e.on (by omega) ?_
      rw [Array.getD_eq_getD_getElem?, Array.getElem?_eq_getElem hsz] at h1 ⊢
      exact h1
    · rw [putAll_put us ops.toList 0 a0 i o v hd (by rw [Array.getElem?_toList]; exact ho), Nat.zero_add]
      refine ih _ _ w' ?_ (hT hR hRel) (fun j hj hl => ?_) (by simpa using hs)
      · have := unl_set ops.size i listed hil h0
        omega
      · by_cases hji : j = i
        · subst hji
          rw [show upd us j v j = v by simp [upd]]
          exact hp
        · rw [show upd us i v j = us j by unfold upd; rw [if_neg hji]]
          rw [Array.getD_eq_getD_getElem?, Array.getElem?_setIfInBounds_ne (Ne.symm hji), ← Array.getD_eq_getD_getElem?] at hl
          exact hV j _ _ _ (hu j hj hl) hRel

/-- Nothing old has changed. -/
def RelB (x y : World) : Prop := Below x.heap.size x y
theorem RelB.refl (x : World) : RelB x x := Below.refl _ _
theorem RelB.trans {x y z : World} (h : RelB x y) (k : RelB y z) : RelB x z := Below.trans h (Below.mono k h.size)
theorem RelB.undrew {x y : World} (h : RelB x.drew y) : Below x.heap.size x y := ⟨h.os, h.tape, h.output, h.size, h.block⟩
def MonoB (p : Value → World → Prop) : Prop := ∀ v w w', p v w → RelB w w' → p v w'
theorem MonoB.eq (c : Value) : MonoB (fun v _ => v = c) := fun _ _ _ h _ => h
theorem MonoB.pure (q : Value → Prop) : MonoB (fun v _ => q v) := fun _ _ _ h _ => h
theorem MonoB.ints (k : IntKind) (n : Nat) (xs : List Int) : MonoB (fun v w => ∃ A c, v = .slice A n c ∧ Ints k w A xs) := fun _ _ _ ⟨A, c, h1, h2⟩ hR => ⟨A, c, h1, h2.below hR⟩
def AllM : List (Value → World → Prop) → Prop
  | [] => True
  | p :: l => MonoB p ∧ AllM l
theorem allM : ∀ {l : List (Value → World → Prop)}, AllM l → ∀ p ∈ l, MonoB p
  | [], _, _, h => by cases h
  | q :: l, hA, p, h => by
    rcases List.mem_cons.1 h with rfl | h
    · exact hA.1
    · exact allM hA.2 p h
def StepsR (P : Program) (ops : Array Oper) (Q : Exit → Act → World → Prop) (Vs : List (Value → World → Prop)) (a0 : Act) (w0 : World) : List Oper → Nat → Prop
  | [], _ => True
  | o :: l, i => (∀ (us : Nat → Value) a w, a = putAll us ops.toList 0 a0 → RelB w0 w → (∀ (j : Nat) p, depB o j = true → Vs[j]? = some p → p (us j) w) → StepR P ops Q RelB (Vs.getD i (fun _ _ => True)) i o a w) ∧ StepsR P ops Q Vs a0 w0 l (i + 1)
theorem StepsR.at_ {Vs : List (Value → World → Prop)} {a0 : Act} {w0 : World} : ∀ (l : List Oper) (k : Nat), StepsR P ops Q Vs a0 w0 l k → ∀ i o, l[i]? = some o →
    ∀ (us : Nat → Value) w, RelB w0 w → (∀ (j : Nat) p, depB o j = true → Vs[j]? = some p → p (us j) w) → StepR P ops Q RelB (Vs.getD (k + i) (fun _ _ => True)) (k + i) o (putAll us ops.toList 0 a0) w
  | [], _, _, _, _, h => by simp at h
  | o' :: l, k, hs, i, o, h => by
    cases i with
    | zero => simp at h; subst h; exact fun us w hR hd => hs.1 us _ w rfl hR hd
    | succ i =>
      simp at h
      have := StepsR.at_ l (k + 1) hs.2 i o h
      rwa [show k + 1 + i = k + (i + 1) by omega] at this
/-- The law: each operation is shown once, out of what the operations that it waits for have left. -/
theorem wp_region_rel {id : Nat} {l : List Oper} {a0 : Act} {w0 : World} (hm : P.follows .mixedOrders = true) (Vs : List (Value → World → Prop)) (hV : ∀ p ∈ Vs, MonoB p)
    (hd : distinct l = true) (hE : edgesDown l = true) (steps : StepsR P l.toArray Q Vs a0 w0.drew l 0)
    (done : ∀ (us : Nat → Value) w, RelB w0.drew w → (∀ (j : Nat) p, Vs[j]? = some p → p (us j) w) → Q .normal (putAll us l 0 a0) w) (hl : Vs.length = l.length) : (Code.region id l.toArray true).wp P Q a0 w0 := by
  refine wp_region_any hm ?_
  have hg : ∀ j p, Vs[j]? = some p → Vs.getD j (fun _ _ => True) = p := fun j p h => by rw [List.getD_eq_getElem?_getD, h]; rfl
  have h := wpAny_rel (P := P) (ops := l.toArray) (Q := Q) RelB RelB.trans (fun j v w => (Vs.getD j (fun _ _ => True)) v w)
    (fun i v w w' h hR => by
      rcases Nat.lt_or_ge i Vs.length with hi | hi
      · have e : Vs[i]? = some Vs[i] := List.getElem?_eq_getElem hi
        rw [hg i _ e] at h ⊢
        exact hV _ (List.getElem_mem hi) v w w' h hR
      · rw [List.getD_eq_getElem?_getD, List.getElem?_eq_none hi]; trivial)
    hd hE a0 w0.drew
    (fun i o ho us w hR hdep => by
      have := StepsR.at_ l 0 steps i o (by simpa using ho) us w hR (fun j p hj hp => by have := hdep j hj; rwa [hg j p hp] at this)
      rwa [Nat.zero_add] at this)
    (fun us w hR hall => done us w hR (fun j p hp => by
      have hj : j < l.length := by rw [← hl]; exact (List.getElem?_eq_some_iff.1 hp).1
      have := hall j (by simpa using hj)
      rwa [hg j p hp] at this))
    l.toArray.size (Array.replicate l.toArray.size false) (startV l a0) w0.drew
    (by unfold unl; exact Nat.le_trans (List.length_filter_le _ _) (by simp)) (RelB.refl _)
    (fun j hj hl => by rw [Array.getD_eq_getD_getElem?] at hl; simp at hj; simp [hj] at hl) (by simp)
  rw [show l.toArray.toList = l from rfl, putAll_start] at h
  exact h
theorem wanted_guard {o : Oper} {tm : Array Value} {g t : Nat} {b : Bool} {v : Value} (hg : o.guard = some (g, b)) (hd : (ops[g]?).bind (·.dst) = some t) (ht : tm[t]? = some v) (hv : v = .bool b) : Region.wanted o (yielded ops tm) = true := by
  subst hv
  simp [Region.wanted, yielded, hg, hd, ht]
theorem StepR.pure {Rel : World → World → Prop} {p : Value → World → Prop} {i : Nat} {o : Oper} {a : Act} {w : World} {v : Value} (ho : ops[i]? = some o) (hg : Region.wanted o (yielded ops a.tmps) = true)
    (he : (execOp a.eval o).run P w = .ok (.value v) w) (hR : Rel w w) (hp : p v w) : StepR P ops Q Rel p i o a w := fun K hK => by
  unfold wpOp
  simp only [ho, hg, if_true]
  exact .inl (by unfold Oper.wp; rw [he]; exact hK v w hR hp)
theorem StepR.call {Rel : World → World → Prop} {p : Value → World → Prop} {i : Nat} {o : Oper} {a : Act} {w : World} {f : FuncId} {args : Array Value} (ho : ops[i]? = some o) (hg : Region.wanted o (yielded ops a.tmps) = true)
    (he : (execOp a.eval o).run P w = .ok (.enter f args) w) (hc : Calls P f args w fun e w' => ∃ v, e = .returned v ∧ Rel w w' ∧ p v w') : StepR P ops Q Rel p i o a w := fun K hK => by
  unfold wpOp
  simp only [ho, hg, if_true]
  refine .inl ?_
  unfold Oper.wp
  rw [he]
  exact Calls.mono hc (fun e w' ⟨v, h1, h2, h3⟩ => by subst h1; exact hK v w' h2 h3)
end
end Go.Proofs.Ytmoaabjiokjjlaa
