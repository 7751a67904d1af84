/- Changes of names: apply, change. -/
import Derived.Test.YtmoaabjiokjjlaaFsD
import Derived.Maps.OwnSet
namespace Go.Proofs.Ytmoaabjiokjjlaa
open Go.RowKit Go.Maps
set_option linter.unusedVariables false
set_option linter.unusedSimpArgs false

def ApplyPost (g : Nat) (fb : Nat → Nat) (l : Ns) (c : Ch) (w : World) (e : Ending) (w' : World) : Prop :=
  e = .returned (.tuple #[]) ∧ MapN w' g fb (applyC l c) ∧ Chg (fun k => k = g) w w'
theorem wpList_del {w : World} {ops : Array Oper} {rest : List Oper} {o : Oper} {a : Act} {Q : Exit → Act → World → Prop} {g : Nat} {fb : Nat → Nat} {l : Ns} (hg : o.guard = none) (m x : Operand)
    (hop : o.op = Op.call { callee := Callee.builtin Builtin.delete, args := #[m, x], argTypes := #[58, 9] }) (hm : a.eval m = .map (some g)) (h : MapN w g fb l) (s : ByteArray) (hs : s.size ≤ 9223372036854775807) (hx : a.eval x = .string s)
    (hK : ∀ w', MapN w' g fb (delN l s.data.toList) → w.grownBy w' (some g) → wpList Try.prog ops Q rest (a.put o.dst (.tuple #[])) w') : wpList Try.prog ops Q (o :: rest) a w := by
  refine wpList_plain hg fun K' hK' => ?_
  obtain ⟨w', hrun, h1, h2⟩ := h.del (ty := o.type) s hs
  unfold Oper.wp
  simp [execOp, hop, resolve, invoke, builtin, hm, hx, hrun, Result.andThen]
  exact hK' _ _ (hK w' h1 h2)
theorem MapN.alloc {w : World} {g : Nat} {fb : Nat → Nat} {l : Ns} (h : MapN w g fb l) (o : Obj) : MapN (w.alloc o) g fb l := h.same (heap_alloc_old w o h.lt)
set_option maxRecDepth 100000 in
set_option maxHeartbeats 1000000 in
theorem create_apply (w : World) (g : Nat) (fb : Nat → Nat) (l : Ns) (n : Nm) (f : Nat) (h : MapN w g fb l) (hl : l.length < 1000000000) (hn : n.length ≤ 200) :
    Calls Try.prog 105 #[.agg #[.string (bkN n), ptrV (fb f)], .map (some g)] w (ApplyPost g fb l (.create n f) w) := by
  have hb0 : Below w.heap.size w (w.alloc (.cells #[.string (bkN n), ptrV (fb f)] 68)) := (Below.refl _ _).alloc (Nat.le_refl _) _
  obtain ⟨w', hrun, h1, h2⟩ := (h.alloc (.cells #[.string (bkN n), ptrV (fb f)] 68)).put (by omega) (bkN n) (by rw [bkN_size]; omega) f
  rw [bkN_list] at h1
  have H1 : Hid (ApplyPost g fb l (.create n f) w (.returned (.tuple #[])) w') := Lib.hid ⟨rfl, h1, (Chg.of_below (S := fun k => k = g) hb0).trans (Chg.of_grown (S := fun k => k = g) h2 (fun k hk => by injection hk with hk; exact hk.symm)) (fun _ _ h => h)⟩
  generalize ApplyPost g fb l (.create n f) w = POST at *
  unfold ptrV at *
  clear h h1 h2 hb0
  go_enter Try.func105, Try.ntmps105
  go_wp2
  refine ⟨rfl, _, results_none rfl _ _ _, ?_⟩
  exact H1.out
set_option maxRecDepth 100000 in
set_option maxHeartbeats 1000000 in
theorem remove_apply (w : World) (g : Nat) (fb : Nat → Nat) (l : Ns) (n : Nm) (h : MapN w g fb l) (hn : n.length ≤ 200) :
    Calls Try.prog 107 #[.agg #[.string (bkN n)], .map (some g)] w (ApplyPost g fb l (.remove n) w) := by
  have hb0 : Below w.heap.size w (w.alloc (.cells #[.string (bkN n)] 82)) := (Below.refl _ _).alloc (Nat.le_refl _) _
  have hm := h.alloc (.cells #[.string (bkN n)] 82)
  have hs : (bkN n).size ≤ 9223372036854775807 := by rw [bkN_size]; omega
  have HB := Lib.hid hb0
  have HL := Lib.hid (bkN_list n)
  clear h hb0
  go_enter Try.func107, Try.ntmps107
  go_wp2_with (refine wpList_del rfl (.tmp 4) (.tmp 6) rfl rfl hm (bkN n) hs rfl ?_; intro w1 h1 h2)
  refine ⟨rfl, _, results_none rfl _ _ _, ?_⟩
  rw [HL.out] at h1
  exact ⟨rfl, h1, (Chg.of_below (S := fun k => k = g) HB.out).trans (Chg.of_grown (S := fun k => k = g) h2 (fun k hk => by injection hk with hk; exact hk.symm)) (fun _ _ h => h)⟩
set_option maxRecDepth 100000 in
set_option maxHeartbeats 1000000 in
theorem rename_apply (w : World) (g : Nat) (fb : Nat → Nat) (l : Ns) (a b : Nm) (f : Nat) (h : MapN w g fb l) (hl : l.length < 1000000000) (ha : a.length ≤ 200) (hb : b.length ≤ 200) (hg : getN l a = some f) :
    Calls Try.prog 106 #[.agg #[.string (bkN a), .string (bkN b)], .map (some g)] w (ApplyPost g fb l (.rename a b f) w) := by
  have hb0 : Below w.heap.size w (w.alloc (.cells #[.string (bkN a), .string (bkN b)] 80)) := (Below.refl _ _).alloc (Nat.le_refl _) _
  have hm := h.alloc (.cells #[.string (bkN a), .string (bkN b)] 80)
  have hsa : (bkN a).size ≤ 9223372036854775807 := by rw [bkN_size]; omega
  have hsb : (bkN b).size ≤ 9223372036854775807 := by rw [bkN_size]; omega
  have hlk := hm.look (bkN a) hsa
  rw [bkN_list, hg] at hlk
  unfold optV at hlk
  obtain ⟨w1, hrun, h1, h2⟩ := hm.put (by omega) (bkN b) hsb f
  rw [bkN_list] at h1
  have c0 : w1.cell? ⟨w.heap.size, 0, none⟩ = some (.string (bkN a)) := by
    rw [World.cell?_of_block (h2.block w.heap.size (by simp) (fun e => by injection e with e; have := h.lt; omega)), World.cell?_alloc_at _ _ _ _ (by simp)]
    rfl
  have HL := Lib.hid (bkN_list a)
  have HC : Hid (Chg (fun k => k = g) w w1) := Lib.hid ((Chg.of_below (S := fun k => k = g) hb0).trans (Chg.of_grown (S := fun k => k = g) h2 (fun k hk => by injection hk with hk; exact hk.symm)) (fun _ _ h => h))
  have HM := Lib.hid h1
  unfold ptrV at *
  clear h hb0 hm h1 h2 hg
  go_enter Try.func106, Try.ntmps106
  go_wp2_with (refine wpList_del rfl (.tmp 11) (.tmp 13) rfl rfl HM.out (bkN a) hsa rfl ?_; intro w2 h3 h4)
  refine ⟨rfl, _, results_none rfl _ _ _, ?_⟩
  rw [HL.out] at h3
  exact ⟨rfl, h3, HC.out.trans (Chg.of_grown (S := fun k => k = g) h4 (fun k hk => by injection hk with hk; exact hk.symm)) (fun _ _ h => h)⟩
end Go.Proofs.Ytmoaabjiokjjlaa
