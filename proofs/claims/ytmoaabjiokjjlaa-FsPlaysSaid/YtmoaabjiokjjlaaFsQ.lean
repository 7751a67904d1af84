/- The calls of a file system, in one form; awake. -/
import Derived.Test.YtmoaabjiokjjlaaFsO
namespace Go.Proofs.Ytmoaabjiokjjlaa
open Go.RowKit Go.Maps
set_option linter.unusedVariables false
set_option linter.unusedSimpArgs false

/-- A file system at p, within the blocks of F. -/
def FsIn (F : Nat → Prop) (p : Nat) (W : World) (S : Fs) : Prop := ∃ q, q.p = p ∧ FsAt W F q S
section
variable {W W' : World} {F F' : Nat → Prop} {p N : Nat} {S S' : Fs}
theorem FsIn.below (h : FsIn F p W S) (hb : Below W.heap.size W W') : FsIn F p W' S := by
  obtain ⟨q, hq, hA⟩ := h
  exact ⟨q, hq, hA.below hb⟩
theorem FsIn.mono (h : FsIn F p W S) (hF : ∀ k, F k → F' k) : FsIn F' p W S := by
  obtain ⟨q, hq, hA⟩ := h
  exact ⟨q, hq, hA.mono hF⟩
theorem FsIn.bound (h : FsIn F p W S) : FsIn (fun k => F k ∧ k < W.heap.size) p W S := by
  obtain ⟨q, hq, hA⟩ := h
  exact ⟨q, hq, hA.bound⟩
theorem FsIn.chg {C : Nat → Prop} (h : FsIn F p W S) (hc : Chg C W W') (hn : ∀ k, F k → k < W.heap.size → ¬ C k) : FsIn F p W' S := by
  obtain ⟨q, hq, hA⟩ := h
  exact ⟨q, hq, hA.chg hc hn⟩
theorem FsIn.blk (h : FsIn F p W S) : p < W.heap.size ∧ F p := by
  obtain ⟨q, rfl, hA⟩ := h
  exact ⟨hA.cel.blk, hA.mem.p⟩
theorem FsTo.in_ (h : FsTo F p W S' W') (hF : ∀ k, W.heap.size ≤ k → F k) : FsIn F p W' S' ∧ Chg F W W' := by
  obtain ⟨q, hA, hp, hC⟩ := h
  exact ⟨⟨q, hp, hA.mono fun k hk => hk.elim id (hF k)⟩, hC⟩
/-- What a call leaves. -/
def InPost (F : Nat → Prop) (p : Nat) (r : Int × Fs) (W : World) (e : Ending) (W' : World) : Prop := e = .returned (.int .i64 r.1) ∧ FsIn F p W' r.2 ∧ Chg F W W'
theorem create_in (h : FsIn F p W S) (hI : Inv N 16777216 S) (hN : N < 1000000) (hF : ∀ k, W.heap.size ≤ k → F k) (s : ByteArray) (hs : s.size ≤ 9223372036854775807) : Calls Try.prog 10 #[ptrV p, .string s] W (InPost F p (createF S s.data.toList) W) := by
  obtain ⟨q, rfl, hA⟩ := h
  exact (create_any W F q S N hA hI hN s hs).mono fun e W' ⟨he, ht⟩ => ⟨he, ht.in_ hF⟩
theorem append_in (h : FsIn F p W S) (hI : Inv N 16777216 S) (hN : N ≤ 1000000) (hF : ∀ k, W.heap.size ≤ k → F k) (s : ByteArray) (hs : s.size ≤ 9223372036854775807)
    (A : Option Addr) (n c : Nat) (xs : List Int) (hx : Ints .u8 W A xs) (hn : xs.length = n) (hnb : n ≤ 9223372036854775807) (hA : 0 < xs.length → ∀ b o, A = some ⟨b, o, none⟩ → ¬ F b) : Calls Try.prog 11 #[ptrV p, .string s, .slice A n c] W (InPost F p (appendF S s.data.toList xs) W) := by
  obtain ⟨q, rfl, h⟩ := h
  exact (append_any W F q S N h hI hN s hs A n c xs hx hn hnb hA).mono fun e W' ⟨he, ht⟩ => ⟨he, ht.in_ hF⟩
theorem read_in (h : FsIn F p W S) (hI : Inv N 16777216 S) (s : ByteArray) (hs : s.size ≤ 9223372036854775807) : Calls Try.prog 14 #[ptrV p, .string s] W (ReadPost S s.data.toList W) := by
  obtain ⟨q, rfl, h⟩ := h
  exact read_any W F q S N h hI s hs
theorem sync_in (h : FsIn F p W S) (hI : Inv N 16777216 S) (hF : ∀ k, W.heap.size ≤ k → F k) (s : ByteArray) (hs : s.size ≤ 9223372036854775807) : Calls Try.prog 20 #[ptrV p, .string s] W (InPost F p (syncF S s.data.toList) W) := by
  obtain ⟨q, rfl, h⟩ := h
  exact (sync_any W F q S N h hI s hs).mono fun e W' ⟨he, ht⟩ => ⟨he, ht.in_ hF⟩
theorem rename_in (h : FsIn F p W S) (hI : Inv N 16777216 S) (hN : N ≤ 1000000) (hF : ∀ k, W.heap.size ≤ k → F k) (s t : ByteArray) (hs : s.size ≤ 9223372036854775807) (ht : t.size ≤ 9223372036854775807) : Calls Try.prog 17 #[ptrV p, .string s, .string t] W (InPost F p (renameF S s.data.toList t.data.toList) W) := by
  obtain ⟨q, rfl, h⟩ := h
  exact (rename_any W F q S N h hI hN s t hs ht).mono fun e W' ⟨he, ht⟩ => ⟨he, ht.in_ hF⟩
theorem remove_in (h : FsIn F p W S) (hI : Inv N 16777216 S) (hN : N ≤ 1000000) (hF : ∀ k, W.heap.size ≤ k → F k) (s : ByteArray) (hs : s.size ≤ 9223372036854775807) : Calls Try.prog 18 #[ptrV p, .string s] W (InPost F p (removeF S s.data.toList) W) := by
  obtain ⟨q, rfl, h⟩ := h
  exact (remove_any W F q S N h hI hN s hs).mono fun e W' ⟨he, ht⟩ => ⟨he, ht.in_ hF⟩
theorem syncNames_in (h : FsIn F p W S) (hI : Inv N 16777216 S) (hF : ∀ k, W.heap.size ≤ k → F k) : Calls Try.prog 21 #[ptrV p] W (InPost F p (syncNamesF S) W) := by
  obtain ⟨q, rfl, h⟩ := h
  exact (syncNames_any W F q S N h hI).mono fun e W' ⟨he, ht⟩ => ⟨he, ht.in_ hF⟩
theorem list_in (h : FsIn F p W S) (hI : Inv N 16777216 S) (hN : N ≤ 1000000) (s : ByteArray) : Calls Try.prog 13 #[ptrV p, .string s] W (ListPost S s.data.toList W) := by
  obtain ⟨q, rfl, h⟩ := h
  exact list_any W F q S N h hI hN s
theorem used_in (h : FsIn F p W S) (hI : Inv N 16777216 S) (hN : N ≤ 1000000) : Calls Try.prog 16 #[ptrV p] W fun e w' => e = .returned (.int .i64 (usedF S)) ∧ Below W.heap.size W w' := by
  obtain ⟨q, rfl, h⟩ := h
  exact used_any W F q S N h hI hN
theorem fuse_in (h : FsIn F p W S) (k : Int) : Calls Try.prog 22 #[ptrV p, .int .i64 k] W fun e W' => e = .returned (.tuple #[]) ∧ FsIn F p W' (fuseF S k) ∧ Chg F W W' := by
  obtain ⟨q, rfl, h⟩ := h
  exact (fuse_any W F q S k h).mono fun e W' ⟨he, hA, hC⟩ => ⟨he, ⟨q, rfl, hA⟩, hC.mono fun k _ hk => by rw [hk]; exact h.mem.p⟩
theorem dead_in (h : FsIn F p W S) : Calls Try.prog 23 #[ptrV p] W fun e W' => e = .returned (.bool S.dead) ∧ W' = W := by
  obtain ⟨q, rfl, h⟩ := h
  exact dead_any W F q S h
theorem crash_in (h : FsIn F p W S) (hI : Inv N 16777216 S) (hN : N ≤ 1000000) (hF : ∀ k, W.heap.size ≤ k → F k) (k : Int) (A : Option Addr) (n c : Nat) (D : List Int) (hD : Ints .i64 W A D) (hn : D.length = n) (hnb : n ≤ 9223372036854775807) (hA : 0 < D.length → ∀ b o, A = some ⟨b, o, none⟩ → ¬ F b) :
    Calls Try.prog 12 #[ptrV p, .int .i64 k, .slice A n c] W fun e W' => e = .returned (.tuple #[]) ∧ FsIn F p W' (crashF S k D) ∧ Chg F W W' := by
  obtain ⟨q, rfl, h⟩ := h
  exact (crash_any W F q S N h hI hN k A n c D hD hn hnb hA).mono fun e W' ⟨he, ht⟩ => ⟨he, ht.in_ hF⟩
end
/-- A new one. -/
theorem new_in (w : World) (k : Int) (hk : 0 ≤ k ∧ k ≤ 16777216) : Calls Try.prog 9 #[.int .i64 k] w fun e w' => ∃ p, e = .returned (.tuple #[ptrV p, .int .i64 0]) ∧ FsIn (fun k => w.heap.size ≤ k) p w' (newF k) ∧ Below w.heap.size w w' :=
  (fsNew_any w k).mono fun e w' ⟨hb, h⟩ => by
    rcases h with ⟨h, _⟩ | ⟨_, q, he, hA⟩
    · omega
    · exact ⟨q.p, he, ⟨q, rfl, hA⟩, hb⟩

/-! ### awake -/
def aN : Nm := [97]
def awA : Fs := ⟨100, [⟨[], 0⟩], [(aN, 0)], [], [.create aN 0], -1, false⟩
def awB : Fs := ⟨100, [⟨[120, 121], 0⟩], [(aN, 0)], [], [.create aN 0], -1, false⟩
def awC : Fs := ⟨100, [⟨[], 0⟩], [(aN, 0)], [(aN, 0)], [], -1, false⟩
theorem aw1 : createF (newF 100) aN = (0, awA) := rfl
theorem aw2 : appendF awA aN [120, 121] = (0, awB) := rfl
theorem aw3 : ofF awB aN = 0 ∧ readL awB aN = [120, 121] := ⟨rfl, rfl⟩
theorem aw4 : crashF awB 1 [] = awC := rfl
theorem aw5 : ofF awC aN = 0 ∧ readL awC aN = [] := ⟨rfl, rfl⟩
theorem aw6 : createF awC aN = (64, awC) := rfl
theorem aw7 : listF awC [] = [aN] := rfl
end Go.Proofs.Ytmoaabjiokjjlaa
