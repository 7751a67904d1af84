/- A region that draws its order, whose last operation waits for all others (a store into what was made): the others are shown once each, as in Rel; the last one is run behind them. -/
import Derived.Test.YtmoaabjiokjjlaaRel
namespace Go.Proofs.Ytmoaabjiokjjlaa
open Go.RowKit
set_option linter.unusedVariables false
set_option linter.unusedSimpArgs false
section
variable {P : Program} {ops : Array Oper} {Q : Exit → Act → World → Prop}

theorem wpAny_end {fuel : Nat} {listed : Array Bool} {a : Act} {w : World} (hl : ∀ j, j < ops.size → listed.getD j true = true) (hq : Q .normal a w) : wpAny P .any ops Q fuel listed a w := by
  have hr : Region.ready .any ops listed = [] := by
    cases hc : Region.ready .any ops listed with
    | nil => rfl
    | cons i r =>
      exfalso
      have hm : i ∈ Region.ready .any ops listed := by rw [hc]; simp
      obtain ⟨h0, o, ho, _⟩ := mem_ready.1 hm
      have := hl i (Array.getElem?_eq_some_iff.1 ho).1
      rw [this] at h0
      cases h0
  cases fuel with
  | zero => exact ⟨hr, hq⟩
  | succ f => exact ⟨fun _ => hq, fun i hi => by rw [hr] at hi; cases hi⟩
theorem wpAny_relT (Rel : World → World → Prop) (hT : ∀ {x y z}, Rel x y → Rel y z → Rel x z) (V : Nat → Value → World → Prop) (hV : ∀ i v w w', V i v w → Rel w w' → V i v w')
    (hd : distinct ops.toList = true) (hE : edgesDown ops.toList = true) (a0 : Act) (w0 : World) (N : Nat) (oN : Oper) (hN : ops.size = N + 1) (hoN : ops[N]? = some oN) (hdep : ∀ j, j < N → depB oN j = true) (D : (Nat → Value) → Value → World → Prop)
    (step : ∀ i o, i < N → ops[i]? = some o → ∀ us w, Rel w0 w → (∀ j, depB o j = true → V j (us j) w) → StepR P ops Q Rel (V i) i o (putAll us ops.toList 0 a0) w)
    (tail : ∀ us w, Rel w0 w → (∀ j, j < N → V j (us j) w) → StepR P ops Q (fun _ _ => True) (D us) N oN (putAll us ops.toList 0 a0) w)
    (done : ∀ us v w, D us v w → Q .normal (putAll (upd us N v) ops.toList 0 a0) w) :
    ∀ (fuel : Nat) (listed : Array Bool) (us : Nat → Value) (w : World), unl ops.size listed ≤ fuel → Rel w0 w → (∀ j, j < ops.size → listed.getD j true = true → V j (us j) w) → listed.getD N true = false →
      listed.size = ops.size → wpAny P .any ops Q fuel listed (putAll us ops.toList 0 a0) w := by
  intro fuel
  have nofin : ∀ (listed : Array Bool), listed.getD N true = false → Region.ready .any ops listed = [] → False := fun listed hL h => by
    have := all_listed hE listed h N (by omega)
    rw [this] at hL
    cases hL
  induction fuel with
  | zero =>
    intro listed us w hf hR hu hL hs
    exfalso
    refine nofin listed hL ?_
    cases hc : Region.ready .any ops listed with
    | nil => rfl
    | cons i r =>
      exfalso
      have hm : i ∈ Region.ready .any ops listed := by rw [hc]; simp
      obtain ⟨h0, o, ho, _⟩ := mem_ready.1 hm
      have hi : i < ops.size := (Array.getElem?_eq_some_iff.1 ho).1
      have := unl_set ops.size i listed hi h0
      omega
  | succ fuel ih =>
    intro listed us w hf hR hu hL hs
    refine ⟨fun h => (nofin listed hL h).elim, fun i hi => ?_⟩
    obtain ⟨h0, o, ho, hall⟩ := mem_ready.1 hi
    have hil : i < ops.size := (Array.getElem?_eq_some_iff.1 ho).1
    have hlist : ∀ j, depB o j = true → j < ops.size ∧ listed.getD j true = true := by
      intro j hj
      unfold depB at hj
      rw [Array.any_eq_true'] at hj
      obtain ⟨e, he, hb⟩ := hj
      rw [Bool.and_eq_true] at hb
      have hon : e.on = j := by simpa using hb.2
      subst hon
      have h1 := hall e he hb.1
      have hsz : e.on < listed.size := by
        rcases Nat.lt_or_ge e.on listed.size with h' | h'
        · exact h'
        · rw [Array.getD_eq_getD_getElem?, Array.getElem?_eq_none h'] at h1; cases h1
      refine ⟨by omega, ?_⟩
      rw [Array.getD_eq_getD_getElem?, Array.getElem?_eq_getElem hsz] at h1 ⊢
      exact h1
    by_cases hiN : i = N
    · subst hiN
      rw [hoN] at ho
      injection ho with ho
      subst ho
      refine tail us w hR (fun j hj => hu j (by omega) (hlist j (hdep j hj)).2) _ (fun v w' _ hp => ?_)
      rw [putAll_put us ops.toList 0 a0 i oN v hd (by rw [Array.getElem?_toList]; exact hoN), Nat.zero_add]
      refine wpAny_end (fun j hj => ?_) (done us v w' hp)
      by_cases hji : j = i
      · subst hji
        rw [Array.getD_eq_getD_getElem?]
        simp [hs, hj]
      · rw [Array.getD_eq_getD_getElem?, Array.getElem?_setIfInBounds_ne (Ne.symm hji), ← Array.getD_eq_getD_getElem?]
        exact (hlist j (hdep j (by omega))).2
    · refine step i o (by omega) ho us w hR (fun j hj => hu j (hlist j hj).1 (hlist j hj).2) _ (fun v w' hRel hp => ?_)
      rw [putAll_put us ops.toList 0 a0 i o v hd (by rw [Array.getElem?_toList]; exact ho), Nat.zero_add]
      refine ih _ _ w' ?_ (hT hR hRel) (fun j hj hl => ?_) ?_ (by simpa using hs)
      · have := unl_set ops.size i listed hil h0
        omega
      · by_cases hji : j = i
        · subst hji
          rw [show upd us j v j = v by simp [upd]]
          exact hp
        · rw [show upd us i v j = us j by unfold upd; rw [if_neg hji]]
          rw [Array.getD_eq_getD_getElem?, Array.getElem?_setIfInBounds_ne (Ne.symm hji), ← Array.getD_eq_getD_getElem?] at hl
          exact hV j _ _ _ (hu j hj hl) hRel
      · rw [Array.getD_eq_getD_getElem?, Array.getElem?_setIfInBounds_ne hiN, ← Array.getD_eq_getD_getElem?]
        exact hL
/-- The law. -/
theorem wp_region_relT {id : Nat} {l : List Oper} {a0 : Act} {w0 : World} (hm : P.follows .mixedOrders = true) (Vs : List (Value → World → Prop)) (hV : ∀ p ∈ Vs, MonoB p)
    (hd : distinct l = true) (hE : edgesDown l = true) (N : Nat) (oN : Oper) (hN : l.length = N + 1) (hoN : l[N]? = some oN) (hdep : ((List.range N).all fun j => depB oN j) = true) (D : (Nat → Value) → Value → World → Prop)
    (steps : StepsR P l.toArray Q Vs a0 w0.drew (l.take N) 0)
    (tail : ∀ (us : Nat → Value) a w, a = putAll us l 0 a0 → RelB w0.drew w → (∀ (j : Nat) p, Vs[j]? = some p → p (us j) w) → StepR P l.toArray Q (fun _ _ => True) (D us) N oN a w)
    (done : ∀ (us : Nat → Value) v w, D us v w → Q .normal (putAll (upd us N v) l 0 a0) w) (hl : Vs.length = N) : (Code.region id l.toArray true).wp P Q a0 w0 := by
  refine wp_region_any hm ?_
  have hg : ∀ j p, Vs[j]? = some p → Vs.getD j (fun _ _ => True) = p := fun j p h => by rw [List.getD_eq_getElem?_getD, h]; rfl
  have h := wpAny_relT (P := P) (ops := l.toArray) (Q := Q) RelB RelB.trans (fun j v w => (Vs.getD j (fun _ _ => True)) v w)
    (fun i v w w' h hR => by
      rcases Nat.lt_or_ge i Vs.length with hi | hi
      · have e : Vs[i]? = some Vs[i] := List.getElem?_eq_getElem hi
        rw [hg i _ e] at h ⊢
        exact hV _ (List.getElem_mem hi) v w w' h hR
      · rw [List.getD_eq_getElem?_getD, List.getElem?_eq_none hi]; trivial)
    hd hE a0 w0.drew N oN (by simpa using hN) (by simpa using hoN) (fun j hj => List.all_eq_true.1 hdep j (List.mem_range.2 hj)) D
    (fun i o hi ho us w hR hdep => by
      have := StepsR.at_ (l.take N) 0 steps i o (by rw [List.getElem?_take, if_pos hi]; simpa using ho) us w hR (fun j p hj hp => by have := hdep j hj; rwa [hg j p hp] at this)
      rwa [Nat.zero_add] at this)
    (fun us w hR hall => tail us _ w rfl hR (fun j p hp => by
      have hj : j < Vs.length := (List.getElem?_eq_some_iff.1 hp).1
      have := hall j (by omega)
      rwa [hg j p hp] at this))
    done
    l.toArray.size (Array.replicate l.toArray.size false) (startV l a0) w0.drew
    (by unfold unl; exact Nat.le_trans (List.length_filter_le _ _) (by simp)) (RelB.refl _)
    (fun j hj hl => by rw [Array.getD_eq_getD_getElem?] at hl; simp at hj; simp [hj] at hl) (by rw [Array.getD_eq_getD_getElem?]; simp [hN]) (by simp)
  rwa [putAll_start] at h
end
end Go.Proofs.Ytmoaabjiokjjlaa
