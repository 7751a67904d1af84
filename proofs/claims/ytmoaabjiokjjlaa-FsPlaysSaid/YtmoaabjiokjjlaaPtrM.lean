/- Maps whose keys and elements are pointers: which pairs of blocks they hold. No program's function is named here. -/
import Derived.Maps.Own
import Derived.LaidEqlPtr
import Derived.WalkKit
namespace Go.Proofs.Ytmoaabjiokjjlaa
open Go.RowKit
set_option linter.unusedVariables false
set_option linter.unusedSimpArgs false

def ptrW (g : Nat) : Value := .pointer (some ⟨g, 0, none⟩)
def optW : Option Nat → Value
  | none => .pointer none
  | some g => ptrW g
def pairsE (es : List MapEntry) : List (Value × Value) := es.map fun e => (e.key, e.val)
/-- The block g is a map with these pairs of blocks, in the order in which they came. -/
def MapP (w : World) (g : Nat) (L : List (Nat × Nat)) : Prop :=
  ∃ es clock, w.heap[g]? = some (.map es clock) ∧ pairsE es.toList = L.map fun p => (ptrW p.1, ptrW p.2)
/-- The block is a row of cells, none frozen. -/
def IsRow (w : World) (g : Nat) : Prop := ∃ cs t, w.heap[g]? = some (.cells cs t (0, 0))
def lookP (L : List (Nat × Nat)) (x : Nat) : Option Nat := (L.find? fun p => p.1 == x).map (·.2)
theorem MapP.lt {w : World} {g : Nat} {L : List (Nat × Nat)} (h : MapP w g L) : g < w.heap.size := by
  obtain ⟨es, clock, h, _⟩ := h
  exact (Array.getElem?_eq_some_iff.1 h).1
theorem MapP.same {w w' : World} {g : Nat} {L : List (Nat × Nat)} (h : MapP w g L) (hw : w'.heap[g]? = w.heap[g]?) : MapP w' g L := by
  obtain ⟨es, clock, h, h2⟩ := h
  exact ⟨es, clock, hw.trans h, h2⟩
theorem MapP.new (w : World) : MapP (w.alloc (.map #[] 0)) w.heap.size [] := ⟨#[], 0, heap_alloc_new w _, rfl⟩
theorem run_eqP {P : Program} {tp te : TypeId} {j : TypeInfo} {w : World} {a b : Nat} (hp : P.underlying tp = some (.pointer te)) (hte : P.info? te = some j) (hsz : j.size ≠ 0)
    (ha : IsRow w a) (hb : IsRow w b) : (Op.equal tp (ptrW a) (ptrW b)).run P w = .ok (decide (a = b)) w := by
  unfold Op.equal Op.maxDepth ptrW
  by_cases e : a = b
  · subst e
    have h : ∀ d : Nat, (Op.equalIn (d + 1) tp (.pointer (some ⟨a, 0, none⟩)) (.pointer (some ⟨a, 0, none⟩))).run P w = .ok true w := fun d => by
      simp [Op.equalIn, run_underlying hp, sizeOf, typeInfo, hte, run_sameAddr_same]
    rw [h 9999]; simp
  · obtain ⟨ca, ta, ha⟩ := ha
    obtain ⟨cb, tb, hb⟩ := hb
    have h : ∀ d : Nat, (Op.equalIn (d + 1) tp (.pointer (some ⟨a, 0, none⟩)) (.pointer (some ⟨b, 0, none⟩))).run P w = .ok false w := fun d => by
      have hne : (⟨a, 0, none⟩ : Addr) ≠ ⟨b, 0, none⟩ := fun h => e (by injection h)
      simp [Op.equalIn, run_underlying hp, sizeOf, typeInfo, hte, hsz, run_sameAddr_other w hne ha hb]
    rw [h 9999]; simp [e]
theorem run_askP {P : Program} {tp te : TypeId} {j : TypeInfo} {w : World} {x : Nat} (hp : P.underlying tp = some (.pointer te)) (hte : P.info? te = some j) (hsz : j.size ≠ 0) (hx : IsRow w x) :
    ∀ (es : List MapEntry) (L : List (Nat × Nat)) (i : Nat), pairsE es = L.map (fun p => (ptrW p.1, ptrW p.2)) → (∀ p ∈ L, IsRow w p.1) →
    ∃ r, (Instr.findAsking tp (ptrW x) es i).run P w = .ok r w ∧ (match lookP L x with | none => r = none | some y => ∃ k, r = some (k, ptrW y))
  | [], [], i, _, _ => ⟨none, rfl, rfl⟩
  | [], p :: L, i, h, _ => by simp [pairsE] at h
  | e :: es, [], i, h, _ => by simp [pairsE] at h
  | e :: es, p :: L, i, h, hr => by
    simp only [pairsE, List.map_cons, List.cons.injEq, Prod.mk.injEq] at h
    obtain ⟨⟨hk, hv⟩, ht⟩ := h
    have he := run_eqP (P := P) hp hte hsz hx (hr p (List.mem_cons_self ..))
    unfold Instr.findAsking lookP
    rw [hk, List.find?_cons]
    simp only [Sem.run_bind, he, Result.andThen_ok]
    by_cases hxp : x = p.1
    · have : (p.1 == x) = true := by simp [hxp]
      rw [this]
      refine ⟨some (i, ptrW p.2), ?_, i, rfl⟩
      simp [hxp, hv]
    · have : (p.1 == x) = false := by simp; omega
      rw [this]
      obtain ⟨r, h1, h2⟩ := run_askP hp hte hsz hx es L (i + 1) ht fun q hq => hr q (List.mem_cons_of_mem _ hq)
      refine ⟨r, ?_, h2⟩
      simp [hxp, h1]
theorem now_ptr {te : TypeId} {x : Nat} : ∀ (es : List MapEntry) (L : List (Nat × Nat)) (i : Nat), pairsE es = L.map (fun p => (ptrW p.1, ptrW p.2)) → es ≠ [] → Instr.findNow (.pointer te) (ptrW x) es i = none
  | [], _, _, _, h => absurd rfl h
  | e :: es, L, i, h, _ => by simp [Instr.findNow, Instr.sameNow]
theorem run_findP {P : Program} {tp te : TypeId} {j : TypeInfo} {w : World} {x : Nat} (hp : P.underlying tp = some (.pointer te)) (hte : P.info? te = some j) (hsz : j.size ≠ 0) (hx : IsRow w x)
    (es : List MapEntry) (L : List (Nat × Nat)) (h : pairsE es = L.map (fun p => (ptrW p.1, ptrW p.2))) (hr : ∀ p ∈ L, IsRow w p.1) :
    ∃ r, (Instr.findKey tp (ptrW x) es).run P w = .ok r w ∧ (match lookP L x with | none => r = none | some y => ∃ k, r = some (k, ptrW y)) := by
  unfold Instr.findKey
  cases es with
  | nil =>
    cases L with
    | nil => exact ⟨none, by simp [run_underlying hp, Instr.findNow], rfl⟩
    | cons p L => simp [pairsE] at h
  | cons e es =>
    have hn := now_ptr (te := te) (x := x) (e :: es) L 0 h (by simp)
    obtain ⟨r, h1, h2⟩ := run_askP hp hte hsz hx (e :: es) L 0 h hr
    exact ⟨r, by simp [run_underlying hp, hn, h1], h2⟩
theorem checkP {P : Program} {tp te : TypeId} {w : World} (hp : P.underlying tp = some (.pointer te)) (em : Bool) (x : Nat) : (Instr.checkKey em 10000 tp (ptrW x)).run P w = .ok () w := by
  show (Instr.checkKey em (9999 + 1) tp (ptrW x)).run P w = _
  unfold Instr.checkKey ptrW
  simp [run_underlying hp]
theorem MapP.look {P : Program} {mt tp te el : TypeId} {j : TypeInfo} {w : World} {g x : Nat} {L : List (Nat × Nat)} (h : MapP w g L) (hm : P.underlying mt = some (.map tp el)) (hp : P.underlying tp = some (.pointer te)) (hte : P.info? te = some j) (hsz : j.size ≠ 0)
    (hz : (zeroValue el).run P w = .ok (.pointer none) w) (hx : IsRow w x) (hr : ∀ p ∈ L, IsRow w p.1) :
    (Instr.lookup mt (.map (some g)) (ptrW x) false).run P w = .ok (optW (lookP L x)) w := by
  obtain ⟨es, clock, hb, he⟩ := h
  obtain ⟨r, h1, h2⟩ := run_findP hp hte hsz hx es.toList L he hr
  unfold Instr.lookup
  simp only [Sem.run_bind, run_underlying hm, Result.andThen_ok, MapKept.run_getObj_map hb, Sem.run_pure, checkP hp, h1]
  cases hl : lookP L x with
  | none => rw [hl] at h2; subst h2; simp [hz, optW]
  | some y => rw [hl] at h2; obtain ⟨k, rfl⟩ := h2; simp [optW]
theorem MapP.put {P : Program} {mt tp te el : TypeId} {j : TypeInfo} {w : World} {g x y : Nat} {L : List (Nat × Nat)} (h : MapP w g L) (hm : P.underlying mt = some (.map tp el)) (hp : P.underlying tp = some (.pointer te)) (hte : P.info? te = some j) (hsz : j.size ≠ 0)
    (hx : IsRow w x) (hr : ∀ p ∈ L, IsRow w p.1) (hl : lookP L x = none) :
    ∃ w', (Instr.mapUpdate mt (.map (some g)) (ptrW x) (ptrW y)).run P w = .ok () w' ∧ MapP w' g (L ++ [(x, y)]) ∧ w.grownBy w' (some g) := by
  obtain ⟨es, clock, hb, he⟩ := h
  obtain ⟨r, h1, h2⟩ := run_findP hp hte hsz hx es.toList L he hr
  rw [hl] at h2
  simp only at h2
  subst h2
  refine ⟨{ w with heap := w.heap.setIfInBounds g (.map (es.push ⟨ptrW x, ptrW y, clock⟩) (clock + 1)) }, ?_, ⟨es.push ⟨ptrW x, ptrW y, clock⟩, clock + 1, (MapKept.heap_set hb).1, ?_⟩, ⟨rfl, rfl, rfl, by simp, fun i _ hi => (MapKept.heap_set hb).2 i (fun e => hi (by rw [e]))⟩⟩
  · unfold Instr.mapUpdate
    simp only [Sem.run_bind, run_underlying hm, Result.andThen_ok, MapKept.run_getObj_map hb, checkP hp, h1, MapKept.run_setObj_map _ hb]
  · unfold pairsE at he ⊢
    rw [Array.toList_push, List.map_append, List.map_append, he]
    rfl
theorem lookP_snoc {L : List (Nat × Nat)} {x y z : Nat} (h : lookP L x = none) : lookP (L ++ [(x, y)]) z = if z = x then some y else lookP L z := by
  unfold lookP at h ⊢
  rw [List.find?_append]
  by_cases e : z = x
  · subst e
    rw [if_pos rfl]
    have : L.find? (fun p => p.1 == z) = none := by simpa using h
    rw [this]
    simp
  · rw [if_neg e]
    cases hf : L.find? fun p => p.1 == z with
    | some p => simp
    | none =>
      have : (x == z) = false := by simp; omega
      simp [this]
end Go.Proofs.Ytmoaabjiokjjlaa
