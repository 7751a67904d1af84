/- As Rel, for a region that may also write into the blocks of a set S. No program's function is named here. -/
import Derived.Test.YtndjebddgnmpfaaRel
import Derived.Test.YtndjebddgnmpfaaChg
namespace Go.Proofs.Ytndjebddgnmpfaa
open Go.RowKit
set_option linter.unusedVariables false

section
variable {P : Program} {ops : Array Oper} {Q : Exit → Act → World → Prop}
theorem StepR.runs {Rel : World → World → Prop} {p : Value → World → Prop} {i : Nat} {o : Oper} {a : Act} {w w' : World} {v : Value} (ho : ops[i]? = some o) (hg : Region.wanted o (yielded ops a.tmps) = true)
    (he : (execOp a.eval o).run P w = .ok (.value v) w') (hR : Rel w w') (hp : p v w') : StepR P ops Q Rel p i o a w := fun K hK => by
  unfold wpOp
  simp only [ho, hg, if_true]
  exact .inl (by unfold Oper.wp; rw [he]; exact hK v w' hR hp)
theorem StepR.skip {Rel : World → World → Prop} {p : Value → World → Prop} {i : Nat} {o : Oper} {a : Act} {w : World} (ho : ops[i]? = some o) (hg : Region.wanted o (yielded ops a.tmps) = false)
    (hR : Rel w w) (hp : p undef w) : StepR P ops Q Rel p i o a w := fun K hK => by
  unfold wpOp
  simp only [ho, hg]
  exact hK undef w hR hp
theorem unwanted_guard {o : Oper} {tm : Array Value} {g t : Nat} {b b' : Bool} {v : Value} (hg : o.guard = some (g, b)) (hd : (ops[g]?).bind (·.dst) = some t) (ht : tm[t]? = some v) (hv : v = .bool b') (hb : (b' == b) = false) : Region.wanted o (yielded ops tm) = false := by
  subst hv
  cases b <;> cases b' <;> simp_all [Region.wanted, yielded]

def MonoC (S : Nat → Prop) (p : Value → World → Prop) : Prop := ∀ v w w', p v w → Chg S w w' → p v w'
theorem MonoC.eq {S : Nat → Prop} (c : Value) : MonoC S (fun v _ => v = c) := fun _ _ _ h _ => h
theorem MonoC.pure {S : Nat → Prop} (q : Value → Prop) : MonoC S (fun v _ => q v) := fun _ _ _ h _ => h
theorem MonoC.ints {S : Nat → Prop} (k : IntKind) (n : Nat) (xs : List Int) : MonoC S (fun v w => ∃ A c, v = .slice A n c ∧ Ints k w A xs ∧ (0 < xs.length → ∀ b o, A = some ⟨b, o, none⟩ → ¬ S b)) := fun _ _ _ ⟨A, c, h1, h2, h3⟩ hR => by
  refine ⟨A, c, h1, ?_, h3⟩
  by_cases hl : 0 < xs.length
  · exact h2.chg hR (h3 hl)
  · exact fun h => absurd h hl
def AllC (S : Nat → Prop) : List (Value → World → Prop) → Prop
  | [] => True
  | p :: l => MonoC S p ∧ AllC S l
theorem allC {S : Nat → Prop} : ∀ {l : List (Value → World → Prop)}, AllC S l → ∀ p ∈ l, MonoC S p
  | [], _, _, h => by cases h
  | q :: l, hA, p, h => by
    rcases List.mem_cons.1 h with rfl | h
    · exact hA.1
    · exact allC hA.2 p h
def StepsC (P : Program) (S : Nat → Prop) (ops : Array Oper) (Q : Exit → Act → World → Prop) (Vs : List (Value → World → Prop)) (a0 : Act) (w0 : World) : List Oper → Nat → Prop
  | [], _ => True
  | o :: l, i => (∀ (us : Nat → Value) a w, a = putAll us ops.toList 0 a0 → Chg S w0 w → (∀ (j : Nat) p, depB o j = true → Vs[j]? = some p → p (us j) w) → StepR P ops Q (Chg S) (Vs.getD i (fun _ _ => True)) i o a w) ∧ StepsC P S ops Q Vs a0 w0 l (i + 1)
theorem StepsC.at_ {S : Nat → Prop} {Vs : List (Value → World → Prop)} {a0 : Act} {w0 : World} : ∀ (l : List Oper) (k : Nat), StepsC P S ops Q Vs a0 w0 l k → ∀ i o, l[i]? = some o →
    ∀ (us : Nat → Value) w, Chg S w0 w → (∀ (j : Nat) p, depB o j = true → Vs[j]? = some p → p (us j) w) → StepR P ops Q (Chg S) (Vs.getD (k + i) (fun _ _ => True)) (k + i) o (putAll us ops.toList 0 a0) w
  | [], _, _, _, _, h => by simp at h
  | o' :: l, k, hs, i, o, h => by
    cases i with
    | zero => simp at h; subst h; exact fun us w hR hd => hs.1 us _ w rfl hR hd
    | succ i =>
      simp at h
      have := StepsC.at_ l (k + 1) hs.2 i o h
      rwa [show k + 1 + i = k + (i + 1) by omega] at this
/-- The law: each operation is shown once, out of what the operations that it waits for have left. -/
theorem wp_region_relC {id : Nat} {l : List Oper} {a0 : Act} {w0 : World} (S : Nat → Prop) (hm : P.follows .mixedOrders = true) (Vs : List (Value → World → Prop)) (hV : ∀ p ∈ Vs, MonoC S p)
    (hd : distinct l = true) (hE : edgesDown l = true) (steps : StepsC P S l.toArray Q Vs a0 w0.drew l 0)
    (done : ∀ (us : Nat → Value) w, Chg S w0.drew w → (∀ (j : Nat) p, Vs[j]? = some p → p (us j) w) → Q .normal (putAll us l 0 a0) w) (hl : Vs.length = l.length) : (Code.region id l.toArray true).wp P Q a0 w0 := by
  refine wp_region_any hm ?_
  have hg : ∀ j p, Vs[j]? = some p → Vs.getD j (fun _ _ => True) = p := fun j p h => by rw [List.getD_eq_getElem?_getD, h]; rfl
  have h := wpAny_rel (P := P) (ops := l.toArray) (Q := Q) (Chg S) (fun h k => h.trans k (fun _ _ h => h)) (fun j v w => (Vs.getD j (fun _ _ => True)) v w)
    (fun i v w w' h hR => by
      rcases Nat.lt_or_ge i Vs.length with hi | hi
      · have e : Vs[i]? = some Vs[i] := List.getElem?_eq_getElem hi
        rw [hg i _ e] at h ⊢
        exact hV _ (List.getElem_mem hi) v w w' h hR
      · rw [List.getD_eq_getElem?_getD, List.getElem?_eq_none hi]; trivial)
    hd hE a0 w0.drew
    (fun i o ho us w hR hdep => by
      have := StepsC.at_ l 0 steps i o (by simpa using ho) us w hR (fun j p hj hp => by have := hdep j hj; rwa [hg j p hp] at this)
      rwa [Nat.zero_add] at this)
    (fun us w hR hall => done us w hR (fun j p hp => by
      have hj : j < l.length := by rw [← hl]; exact (List.getElem?_eq_some_iff.1 hp).1
      have := hall j (by simpa using hj)
      rwa [hg j p hp] at this))
    l.toArray.size (Array.replicate l.toArray.size false) (startV l a0) w0.drew
    (by unfold unl; exact Nat.le_trans (List.length_filter_le _ _) (by simp)) (Chg.refl _ _)
    (fun j hj hl => by rw [Array.getD_eq_getD_getElem?] at hl; simp at hj; simp [hj] at hl) (by simp)
  rw [show l.toArray.toList = l from rfl, putAll_start] at h
  exact h
end
end Go.Proofs.Ytndjebddgnmpfaa
