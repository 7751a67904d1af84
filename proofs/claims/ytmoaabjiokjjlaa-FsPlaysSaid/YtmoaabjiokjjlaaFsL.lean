/- The names, rising: sorted. -/
import Derived.Test.YtmoaabjiokjjlaaFsK
import Derived.Shelf.SlIter.Nil
import Derived.Shelf.SortM.Plain
namespace Go.Proofs.Ytmoaabjiokjjlaa
open Go.RowKit Go.Maps Go.Sort Go.Shelf Go.Proofs
set_option linter.unusedVariables false
set_option linter.unusedSimpArgs false

theorem before_lt : ∀ (a b : List UInt8), bytesBefore a b = true → a < b
  | [], [], h => by simp [bytesBefore] at h
  | [], b :: s, _ => List.nil_lt_cons b s
  | a :: r, [], h => by simp [bytesBefore] at h
  | a :: r, b :: s, h => by
    simp only [bytesBefore, Bool.or_eq_true, Bool.and_eq_true, decide_eq_true_eq, beq_iff_eq] at h
    rw [List.cons_lt_cons_iff]
    rcases h with h | ⟨h1, h2⟩
    · exact .inl h
    · exact .inr ⟨h1, before_lt r s h2⟩
def nmL (l : Ns) : List Nm := l.map (·.1)
def nmVs (l : List Nm) : List Value := l.map fun s => Value.string (bkN s)
theorem strKeys_data (fb : Nat → Nat) (l : Ns) : strKeys (dataN fb l) = nmL l := by
  show (l.map (pairD fb)).map (fun p => strOf p.1) = nmL l
  rw [List.map_map]
  exact List.map_congr_left fun p _ => rfl
theorem sorted_eq {l : Ns} (h : Up l) {ss : List Nm} (hp : ss.Perm (nmL l)) : ss.mergeSort (fun x y => decide (x ≤ y)) = nmL l := by
  have hs : (ss.mergeSort fun x y => decide (x ≤ y)).Pairwise fun a b => decide (a ≤ b) = true := List.pairwise_mergeSort (le := fun x y => decide (x ≤ y)) (fun a b c h1 h2 => by simp at *; exact List.le_trans h1 h2) (fun a b => by simp; exact List.le_total a b) ss
  have hl : (nmL l).Pairwise fun a b => decide (a ≤ b) = true := by
    unfold nmL
    rw [List.pairwise_map]
    exact h.imp fun hb => by simp; exact List.le_of_lt (before_lt _ _ hb)
  exact List.Perm.eq_of_pairwise (fun a b _ _ h1 h2 => by simp at h1 h2; exact List.le_antisymm h1 h2) hs hl ((List.mergeSort_perm ss _).trans hp)
/-- slices.Sort's two contracts, at the fence that asks nothing. -/
theorem sortsA (m : Nat) : AnyZ.SortsIn Try.prog Try.sortedA_ren Fence.wide m :=
  ⟨fun blk off cap ss W hH hblk hsz => callsIn_wide.2 (AnyM.slices_Sort_string Try.laysSlM6_f64 blk off cap ss W hH hblk hsz),
   fun p cap W => callsIn_wide.2 (AnyM.slices_Sort_string_none Try.laysSlM6_f64 p cap W)⟩
set_option maxRecDepth 100000 in
set_option maxHeartbeats 2000000 in
theorem sortedN_any (w : World) (F : Nat → Prop) (q : Pl) (S : Fs) (N : Nat) (h : FsAt w F q S) (hup : Up S.now) (hln : S.now.length ≤ N) (hN : N ≤ 1000000) :
    Calls Try.prog 37 #[ptrV q.p] w fun e w' => ∃ A c, e = .returned (.slice A S.now.length c) ∧ OwnS w' w.heap.size 9 1 (.slice A S.now.length c) S.now.length (nmVs (nmL S.now)) ∧ Below w.heap.size w w' := by
  refine (callsIn_wide (n := 6)).1 ?_
  have c1 := h.c1
  have hown : w.ownsMap Try.prog 9 ptrElem q.mn S.now.length (dataN q.fb S.now) := h.now
  have hsz : Maps.size (dataN q.fb S.now) = S.now.length := by unfold dataN; rw [Maps.size_eq, List.length_map]
  have hmax : Maps.size (dataN q.fb S.now) ≤ maxLen := by rw [hsz]; unfold maxLen; omega
  have hbytes : Maps.size (dataN q.fb S.now) * 16 ≤ 140737488355328 := by rw [hsz]; omega
  have hbl := hown.lt
  have HUP := Lib.hid hup
  have hseq : SeqGives Fence.wide 2 Try.prog 65 #[.pointer (some ⟨w.heap.size, 0, none⟩)] encStr (fun ss => ss.Perm (strKeys (dataN q.fb S.now))) (Maps.size (dataN q.fb S.now)) (w.alloc (.cells #[.map (some q.mn)] 58)) :=
    AnyZ.keys_gives (ρ := Try.keysA_ren) { Try.keysA with } Fence.wide _ trivial rfl (by omega) w.heap.size q.mn S.now.length (dataN q.fb S.now) _ (by simp) (by simp) (by
      obtain ⟨es, clock, hb, Ft, hs, hD⟩ := hown
      exact ⟨es, clock, (Below.heap_alloc _ _ q.mn hbl).trans hb, Ft, hs, hD⟩)
  have cK : ∀ mb W, CallsIn Fence.wide 5 Try.prog 55 #[.map mb] W fun e w' => e = .returned (.func (.func 65) #[] #[.pointer (some ⟨W.heap.size, 0, none⟩)]) ∧ w' = W.alloc (.cells #[.map mb] 58) := fun mb W => AnyZ.keys_in Try.keysA Fence.wide 5 trivial rfl mb W
  have cS := AnyZ.sorted_in Try.sortedA Fence.wide 5 trivial trivial trivial trivial rfl (by omega) (sortsA _) (enters_of Try.func64 (by kernel_rfl) rfl) 65 #[.pointer (some ⟨w.heap.size, 0, none⟩)] trivial (enters_of Try.func65 (by kernel_rfl) rfl) _ _ hmax hbytes _ hseq
  change CallsIn _ _ Try.prog 54 _ _ _ at cS
  have hfK : Fence.wide.fn 55 := trivial
  have hfS : Fence.wide.fn 54 := trivial
  have HD : Hid (strKeys (dataN q.fb S.now) = nmL S.now) := Lib.hid (strKeys_data _ _)
  have HCK := Lib.hid cK
  have HCS := Lib.hid cS
  clear hseq h hup hown hsz hmax hbytes hbl cK cS
  unfold ptrV at *
  refine callsIn_of_wp Try.func37 rfl trivial ?_ rfl
  simp only [Try.ntmps37, List.size_toArray, List.length_cons, List.length_nil, Nat.reduceAdd, Nat.reduceSub, Array.replicate_succ, Array.replicate_zero, List.push_toArray, List.append_toArray, List.nil_append, List.cons_append]
  gi_wp2_with (first
    | (gi_at_call 55; refine (HCK.out _ _).mono ?_; rintro e w' ⟨rfl, rfl⟩)
    | (gi_at_call 54; refine HCS.out.mono ?_; rintro e w' ⟨v, ss, rfl, hS, hrow, hnil, hb⟩))
  go_ret
  rw [HD.out] at hS
  rw [sorted_eq HUP.out hS] at hrow
  have hlen : ss.length = S.now.length := by rw [hS.length_eq]; unfold nmL; rw [List.length_map]
  rw [hlen] at hrow
  have ho := OwnS.of_row (ownsRow_base_a hrow (show w.heap.size ≤ _ by simp))
  obtain ⟨A, c, rfl⟩ := ho.shape
  exact ⟨A, c, rfl, ho, ((Below.refl _ w).alloc (Nat.le_refl _) _).trans (hb.mono (by simp))⟩
theorem sorted_any (w : World) (F : Nat → Prop) (q : Pl) (S : Fs) (N : Nat) (h : FsAt w F q S) (hI : Inv N 16777216 S) (hN : N ≤ 1000000) :
    Calls Try.prog 37 #[ptrV q.p] w fun e w' => ∃ A c, e = .returned (.slice A S.now.length c) ∧ OwnS w' w.heap.size 9 1 (.slice A S.now.length c) S.now.length (nmVs (nmL S.now)) ∧ Below w.heap.size w w' :=
  sortedN_any w F q S N h hI.upNow hI.lenNow hN
end Go.Proofs.Ytmoaabjiokjjlaa
