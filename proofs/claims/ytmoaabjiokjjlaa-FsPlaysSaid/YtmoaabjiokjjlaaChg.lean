/- What a call has changed of the old blocks: those of a set at most. -/
import Derived.Test.YtmoaabjiokjjlaaApp
namespace Go.Proofs.Ytmoaabjiokjjlaa
open Go.RowKit
set_option linter.unusedVariables false

structure Chg (S : Nat → Prop) (w w' : World) : Prop where
  os : w'.os = w.os
  tape : w'.tape = w.tape
  output : w'.output = w.output
  size : w.heap.size ≤ w'.heap.size
  block : ∀ k, k < w.heap.size → ¬ S k → w'.heap[k]? = w.heap[k]?
section
variable {S S' : Nat → Prop} {w w1 w2 : World}
theorem Chg.refl (S : Nat → Prop) (w : World) : Chg S w w := ⟨rfl, rfl, rfl, Nat.le_refl _, fun _ _ _ => rfl⟩
theorem Chg.trans (h : Chg S w w1) (k : Chg S' w1 w2) (hS : ∀ i, i < w.heap.size → S' i → S i) : Chg S w w2 :=
  ⟨k.os.trans h.os, k.tape.trans h.tape, k.output.trans h.output, Nat.le_trans h.size k.size, fun i hi hn => (k.block i (Nat.lt_of_lt_of_le hi h.size) (fun h' => hn (hS i hi h'))).trans (h.block i hi hn)⟩
theorem Chg.of_below (h : Below w.heap.size w w1) : Chg S w w1 := ⟨h.os, h.tape, h.output, h.size, fun k hk _ => h.block k hk⟩
theorem Chg.of_grown {row : Option Nat} (h : w.grownBy w1 row) (hS : ∀ k, row = some k → S k) : Chg S w w1 :=
  ⟨h.os, h.tape, h.output, h.size, fun k hk hn => h.block k hk (fun e => hn (hS k e.symm))⟩
theorem Chg.drew (h : Chg S w w1) : Chg S w w1.drew := ⟨h.os, h.tape, h.output, h.size, h.block⟩
theorem Chg.drewN (h : Chg S w w1) (n : Nat) : Chg S w (w1.drewN n) := ⟨h.os, h.tape, h.output, h.size, h.block⟩
theorem Chg.alloc (h : Chg S w w1) (o : Obj) : Chg S w (w1.alloc o) := h.trans (S' := fun _ => False) (Chg.of_below ((Below.refl _ _).alloc (Nat.le_refl _) o)) (fun _ _ h => h.elim)
theorem Chg.setCell (h : Chg S w w1) {a : Addr} (ha : S a.block ∨ w.heap.size ≤ a.block) (u : Value) : Chg S w (w1.setCell a u) :=
  ⟨h.os, h.tape, h.output, by simpa [World.setCell] using h.size, fun k hk hn => (Below.heap_setCell _ _ _ _ (by rintro rfl; rcases ha with h' | h'; exact hn h'; omega)).trans (h.block k hk hn)⟩
theorem Chg.below (h : Chg S w w1) {B : Nat} (hB : B ≤ w.heap.size) (hS : ∀ k, k < B → ¬ S k) : Below B w w1 := ⟨h.os, h.tape, h.output, h.size, fun k hk => h.block k (by omega) (hS k hk)⟩
theorem Chg.mono (h : Chg S w w1) (hS : ∀ k, k < w.heap.size → S k → S' k) : Chg S' w w1 := ⟨h.os, h.tape, h.output, h.size, fun k hk hn => h.block k hk (fun h' => hn (hS k hk h'))⟩
theorem Cel.chg {g N : Nat} {t : TypeId} {f : Nat → Value} (h : Cel w g t N f) (hc : Chg S w w1) (hn : ¬ S g) : Cel w1 g t N f := h.same (hc.block g h.blk hn)
theorem OwnS.chg {base : Nat} {e : TypeId} {size n : Nat} {v : Value} {xs : List Value} (h : OwnS w base e size v n xs) (hc : Chg S w w1) (hn : ∀ k, v.ownBlock = some k → ¬ S k) : OwnS w1 base e size v n xs :=
  h.heap fun k hk => hc.block k (h.lt k hk).2 (hn k hk)
theorem Ints.chg {k : IntKind} {A : Option Addr} {xs : List Int} (h : Ints k w A xs) (hc : Chg S w w1) (hn : ∀ b o, A = some ⟨b, o, none⟩ → ¬ S b) : Ints k w1 A xs := by
  intro hl
  obtain ⟨b, o, hA, hlt, hcell⟩ := h hl
  exact ⟨b, o, hA, Nat.lt_of_lt_of_le hlt hc.size, fun j hj => (World.cell?_of_block (hc.block b hlt (hn b o hA))).trans (hcell j hj)⟩
theorem OwnS.ints {base : Nat} {e : TypeId} {n c : Nat} {k : IntKind} {A : Option Addr} {xs : List Int} (h : OwnS w base e 1 (.slice A n c) n (xs.map (Value.int k))) : Ints k w A xs := by
  intro hl
  obtain ⟨g, off, c', hv, _, hlt, hc⟩ := h.cells (by simpa using hl)
  injection hv with hA _ _
  refine ⟨g, off, hA, hlt, fun j hj => ?_⟩
  rw [hc j (by simpa using hj)]
  simp [List.getD_eq_getElem?_getD, hj]
theorem OwnS.cap {base : Nat} {e : TypeId} {size n c : Nat} {A : Option Addr} {xs : List Value} (h : OwnS w base e size (.slice A n c) n xs) : n ≤ c := by
  rcases h.2 with ⟨hv, rfl⟩ | ⟨g', off, cap, cur, hv, _, _, hn, _⟩
  · omega
  · injection hv with _ _ hc; omega
/-- A row's block and a block of another element type are not the same. -/
theorem OwnS.ne_cel {base : Nat} {e t : TypeId} {size n g N : Nat} {v : Value} {xs : List Value} {f : Nat → Value} (h : OwnS w base e size v n xs) (hc : Cel w g t N f) (hne : e ≠ t) : v.ownBlock ≠ some g := by
  rcases h.2 with ⟨rfl, _⟩ | ⟨g', off, cap, cur, rfl, _, ⟨fr, hh, _⟩, _⟩
  · simp [Value.ownBlock]
  · intro he
    simp [Value.ownBlock] at he
    subst he
    obtain ⟨cs, h1, _⟩ := hc
    rw [hh] at h1
    injection h1 with h1
    injection h1 with _ h2
    exact hne h2
end
end Go.Proofs.Ytmoaabjiokjjlaa
