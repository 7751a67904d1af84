/- A string made into bytes: the operation's law, its answer under letters (XConv, for seats without the segments). -/
import Derived.Test.YtdlabapfcghfmaaGreatDoorSumStr
namespace Go.Proofs.YtdlabapfcghfmaaGreatDoor
open Go.RowKit
set_option linter.unusedVariables false

theorem run_conv (w : World) (s : ByteArray) (hsz : s.size ≤ 140737488351300) : ∃ A cap w', (convert 9 24 (.string s)).run Tryz.prog w = .ok (.slice A s.size cap) w' ∧ Ints .u8 w' A (bytesOf s) ∧ s.size ≤ cap ∧ cap ≤ 9223372036854775807 ∧ Below w.heap.size w w' ∧ ∀ b o, A = some ⟨b, o, none⟩ → w.heap.size ≤ b := by
  have hge := grownCap_ge w s.size 0 5
  have hcm : grownCap w s.size 0 5 ≤ maxLen := grownCap_le_maxLen w s.size 0 5 (by unfold maxLen; omega)
  have ho := OwnS.of_str w.drew s 5 _ hge hcm
  refine ⟨_, _, _, run_bytes_of_string (P := Tryz.prog) w 9 24 5 s Tryz.underlying9 Tryz.underlying24 Tryz.underlying5, ho.ints, hge, by unfold maxLen at hcm; omega, ((Below.refl _ _).drew).alloc (by simp) _, fun b o h => by injection h with h; injection h with h _ _; exact Nat.le_of_eq h⟩
theorem wp_conv {o : Oper} {a : Act} {w : World} {K : Act → World → Prop} {Q : Exit → Act → World → Prop} (y : Operand) (ho : o.op = .convert 9 24 y) (s : ByteArray) (n : Nat) (L : List Int) (hy : a.eval y = .string s) (hn : s.size = n) (hL : bytesOf s = L) (hsz : s.size ≤ 140737488351300)
    (h : ∀ A cap w', Ints .u8 w' A L → n ≤ cap → cap ≤ 9223372036854775807 → Below w.heap.size w w' → (∀ b o, A = some ⟨b, o, none⟩ → w.heap.size ≤ b) → K (a.put o.dst (.slice A n cap)) w') : o.wp Tryz.prog a w K Q := by
  subst hn; subst hL
  obtain ⟨A, cap, w', hr, h1, h2, h3, h4, h5⟩ := run_conv w s hsz
  unfold Oper.wp execOp
  simp only [ho, hy, Sem.run_bind, hr, Result.andThen_ok, Sem.run_pure]
  exact h A cap w' h1 h2 h3 h4 h5
theorem wpList_conv {ops : Array Oper} {rest : List Oper} {o : Oper} {a : Act} {Q : Exit → Act → World → Prop} {w : World} (hgd : o.guard = none) (y : Operand) (ho : o.op = .convert 9 24 y) (s : ByteArray) (n : Nat) (L : List Int) (hy : a.eval y = .string s) (hn : s.size = n) (hL : bytesOf s = L) (hsz : s.size ≤ 140737488351300)
    (h : ∀ A cap w', Ints .u8 w' A L → n ≤ cap → cap ≤ 9223372036854775807 → Below w.heap.size w w' → (∀ b o, A = some ⟨b, o, none⟩ → w.heap.size ≤ b) → wpList Tryz.prog ops Q rest (a.put o.dst (.slice A n cap)) w') : wpList Tryz.prog ops Q (o :: rest) a w :=
  wpList_plain hgd fun _ hK => wp_conv y ho s n L hy hn hL hsz fun A c w' h1 h2 h3 h4 h5 => hK _ _ (h A c w' h1 h2 h3 h4 h5)
theorem step_conv {ops : Array Oper} {o : Oper} {a : Act} {K : Act → World → Prop} {Q : Exit → Act → World → Prop} {E : Prop} {w : World} (hgd : o.guard = none) (y : Operand) (ho : o.op = .convert 9 24 y) (s : ByteArray) (n : Nat) (L : List Int) (hy : a.eval y = .string s) (hn : s.size = n) (hL : bytesOf s = L) (hsz : s.size ≤ 140737488351300)
    (h : ∀ A cap w', Ints .u8 w' A L → n ≤ cap → cap ≤ 9223372036854775807 → Below w.heap.size w w' → (∀ b o, A = some ⟨b, o, none⟩ → w.heap.size ≤ b) → K (a.put o.dst (.slice A n cap)) w') :
    if Region.wanted o (yielded ops a.tmps) = true then Oper.wp Tryz.prog o a w K Q else E := by
  have hw : Region.wanted o (yielded ops a.tmps) = true := by simp [Region.wanted, hgd]
  rw [if_pos hw]
  exact wp_conv y ho s n L hy hn hL hsz h
end Go.Proofs.YtdlabapfcghfmaaGreatDoor
